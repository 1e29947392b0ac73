/- Texts that the proof rests on, part 5: what each holds stands at its head. -/
import Derived.Test.YtgkkilbeingleaaZo4

/- Operations one behind the other, and in whatever order: what the model does is what is told. Nothing of the program is named here. -/
namespace Go.Proofs.Ytgkkilbeingleaa
open Go.RowKit Go.Maps

section
variable {P : Program} {w : World} {S : Nat → Prop} {σ : Nat → Option Value} {H V : AH} {n b : Nat} {ops : Array Oper}
/-- what stands behind an operation -/
def Aft (P : Program) (nd : Bool) (n id : Nat) (w : World) (S : Nat → Prop) (σ : Nat → Option Value) (H : AH) (dst : Option Tmp) (env : Env) (k : AV → AH → Prop) (a' : Act) (w' : World) : Prop :=
  ∃ x H' S' σ', k x H' ∧ RepE n a' w' S' σ' (setE n env dst x) ∧ Sat P w' S' σ' H' ∧ Ext w S σ H w' S' σ' H' ∧ H.nx ≤ H'.nx ∧ ∀ j, (nd = true → j ≠ id) → j < H.nx → σ' j = σ j
theorem val_wp {nd : Bool} {o : Oper} {a : Act} {env : Env} {x : AV} {k : AV → AH → Prop} {id : Nat} {Q : Exit → Act → World → Prop} (hr : RepE n a w S σ env) (hs : Sat P w S σ H) (h : Val1 P w S σ a.eval o x) (hk : k x H) : o.wp P a w (Aft P nd n id w S σ H o.dst env k) Q := by
  obtain ⟨v, hv, hx⟩ := h
  unfold Oper.wp
  rw [hv]
  exact ⟨x, H, S, σ, hk, hr.put _ hx, hs, .refl _ _ _ _, Nat.le_refl _, fun _ _ _ => rfl⟩
theorem eff_wp {o : Oper} {a : Act} {env : Env} {x : AV} {k : AV → AH → Prop} {id : Nat} {Q : Exit → Act → World → Prop} {H' : AH} (hr : RepE n a w S σ env) (hs : Sat P w S σ H) (h : Eff P w S σ H a.eval o id x H') (hn : H.nx ≤ H'.nx) (hk : k x H') : o.wp P a w (Aft P true n id w S σ H o.dst env k) Q := by
  obtain ⟨nx, w', σ', hv, hx, h1, h2, h3⟩ := h
  unfold Oper.wp
  rw [hv]
  rcases hx with ⟨v, rfl, hx⟩ | ⟨rfl, rfl⟩
  · exact ⟨x, H', S, σ', hk, (hr.ext hs h2).put _ hx, h1, h2, hn, fun j hj _ => h3 j (hj rfl)⟩
  · exact ⟨_, H', S, σ', hk, (hr.ext hs h2).put _ (.any _), h1, h2, hn, fun j hj _ => h3 j (hj rfl)⟩
theorem ca_wp {nd : Bool} {o : Oper} {a : Act} {env : Env} {c : Call} {fo : Operand} {f : FuncId} {first cap : List AV} {R : AV → AH → Prop} {k : AV → AH → Prop} {id : Nat} {Q : Exit → Act → World → Prop} (hr : RepE n a w S σ env) (hs : Sat P w S σ H) (ho : o.op = .call c) (hc : c.callee = .value fo)
    (hf : ev0 env fo = .fn (.func f) first cap) (hcal : callable P f = true) (ht : Tri P f (first ++ c.args.toList.map (ev0 env) ++ cap) H R) (hk : ∀ r H', SatE P H' → R r H' → k r H') : o.wp P a w (Aft P nd n id w S σ H o.dst env k) Q := by
  have hfv := hr.ev fo
  rw [hf] at hfv
  obtain ⟨us, hrun, hus⟩ := call_run (P := P) ho hc hfv hcal (hr.evs c.args.toList)
  unfold Oper.wp
  rw [hrun]
  refine (ht w S σ us hs hus).mono fun e w' ⟨v, S', σ', r, H', he, hq, h1, h2, h3, h4, h5⟩ => ?_
  subst he
  exact ⟨r, H', S', σ', hk r H' ⟨_, _, _, h1⟩ hq, (hr.ext hs h3).put _ h2, h1, h3, h4, fun j _ hj => h5 j hj⟩
theorem wr_nx {id : Nat} {wo : WO} {args : List AV} {a : AV} {H' : AH} (h : WrR P id wo args H a H') : H'.nx = H.nx := by cases h <;> rfl
theorem sat_hsz (hs : Sat P w S σ H) : ∀ id A n c, σ id = some (.slice A n c) → n ≤ c ∧ (0 < c → ∃ g o, A = some ⟨g, o, none⟩) := fun id A n c h => ⟨(hs.sl id A n c h).1, (hs.sl id A n c h).2.1⟩
theorem coreS_wp {o : Oper} {a : Act} {env : Env} {k : AV → AH → Prop} {id : Nat} {Q : Exit → Act → World → Prop} (hr : RepE n a w S σ env) (hs : Sat P w S σ H) (hid : needC (cls P o.op) = true → id < H.nx ∧ σ id = none) (h : coreS P id o.op env k H) : o.wp P a w (Aft P (needC (cls P o.op)) n id w S σ H o.dst env k) Q := by
  unfold coreS at h
  split at h
  · rename_i x hc
    exact val_wp hr hs (pu_sound (cls_mv hc) (.mv _) (hr.evs [x]) (sat_hsz hs)) h
  · rename_i po xs hc
    obtain ⟨x, hp, hk⟩ := h
    exact val_wp hr hs (pu_sound (cls_pu hc) hp (hr.evs xs) (sat_hsz hs)) hk
  · rename_i ro xs hc
    obtain ⟨x, hp, hk⟩ := h
    exact val_wp hr hs (rd_sound hs (cls_rd hc) hp (hr.evs xs)) hk
  · rename_i ao xs hc
    rw [show needC (cls P o.op) = true from by rw [hc]; rfl]
    unfold alS at h
    split at h
    · rename_i e hb
      obtain ⟨z, hao, hxs⟩ := bs0_spec hb
      obtain ⟨Q, hq, hk⟩ := h
      cases hq
      obtain ⟨g, heff⟩ := bs0_sound (ev := a.eval) hs (hid (by rw [hc]; rfl)).1 (hid (by rw [hc]; rfl)).2 (by rw [cls_al hc, hao, hxs])
      exact eff_wp hr hs heff (Nat.le_refl _) (hk _ _ ⟨g, rfl, rfl⟩)
    · obtain ⟨x, o', hp, hk⟩ := h
      exact eff_wp hr hs (al_sound (fun _ => rfl) hs (hid (by rw [hc]; rfl)).1 (hid (by rw [hc]; rfl)).2 (cls_al hc) hp (hr.evs xs)) (Nat.le_refl _) hk
  · rename_i wo xs hc
    obtain ⟨x, H', hp, hk⟩ := h
    rw [show needC (cls P o.op) = true from by rw [hc]; rfl]
    exact eff_wp hr hs (wr_sound hs (hid (by rw [hc]; rfl)) (cls_wr hc) hp (hr.evs xs)) (Nat.le_of_eq (wr_nx hp).symm) hk
  · rename_i f xs hc
    obtain ⟨c, ho, hcc, rfl⟩ := cls_ca hc
    obtain ⟨g, first, cap, R, hf, hcal, ht, hk⟩ := h
    exact ca_wp hr hs ho hcc hf hcal ht hk
  · rename_i no xs hc
    obtain ⟨Q, hq, hk⟩ := h
    rw [show needC (cls P o.op) = true from by rw [hc]; rfl]
    obtain ⟨x, H', h1, h2, h3⟩ := nd_sound hs (hid (by rw [hc]; rfl)).1 (hid (by rw [hc]; rfl)).2 (cls_nd hc) hq (hr.evs xs)
    exact eff_wp hr hs h2 (Nat.le_of_eq h3.symm) (hk x H' h1)
  · exact h.elim
theorem AtA.le {a : AV} {ds : List AV} (h : AtA V a ds) (hle : V.le H) : AtA H a ds := by
  cases h with
  | box id off t cs hg => exact .box id off t cs (hle _ _ hg)
  | row id sz i j t es e hg he => exact .row id sz i j t es e (hle _ _ hg) he
  | frz id sz i j es e hg he => exact .frz id sz i j es e (hle _ _ hg) he
  | crow id sz i j c t es e hg he => exact .crow id sz i j c t es e (hle _ _ hg) he
  | dat sz i j xs e he => exact .dat sz i j xs e he
theorem ElA.le {sz : Nat} {x : AV} {ys : List (List AV)} (h : ElA V sz x ys) (hle : V.le H) : ElA H sz x ys := by
  cases h with
  | dsl xs => exact .dsl _
  | row id off n t es hg hn => exact .row id off n t es (hle _ _ hg) hn
  | frz id off n es hg hn => exact .frz id off n es (hle _ _ hg) hn
  | crow id off n c t es hg hn => exact .crow id off n c t es (hle _ _ hg) hn
  | nil_ A c => exact .nil_ A c
theorem RdR.le {ro : RO} {args : List AV} {a : AV} (h : RdR P V ro args a) (hle : V.le H) : RdR P H ro args a := by
  cases h with
  | ld_agg _ _ _ hat hn => exact .ld_agg _ _ _ (hat.le hle) hn
  | ld_one _ _ _ _ hat hb => exact .ld_one _ _ _ _ (hat.le hle) hb
  | look_no _ _ _ _ _ _ _ _ hg hK hu hk hf => exact .look_no _ _ _ _ _ _ _ _ (hle _ _ hg) hK hu hk hf
  | look_yes _ _ _ _ _ _ _ _ _ hg hK hu hk hf => exact .look_yes _ _ _ _ _ _ _ _ _ (hle _ _ hg) hK hu hk hf
  | bstr _ _ hel => exact .bstr _ _ (hel.le hle)
/-- the same in whatever order: what was there when the region began is read -/
def AftV (P : Program) (nd : Bool) (n id : Nat) (w : World) (S : Nat → Prop) (σ : Nat → Option Value) (H : AH) (dst : Option Tmp) (env : Env) (k : AV → AH → AH → Prop) (a' : Act) (w' : World) : Prop :=
  ∃ x V' H' S' σ', k x V' H' ∧ V'.le H' ∧ RepE n a' w' S' σ' (setE n env dst x) ∧ Sat P w' S' σ' H' ∧ Ext w S σ H w' S' σ' H' ∧ H.nx ≤ H'.nx ∧ ∀ j, (nd = true → j ≠ id) → j < H.nx → σ' j = σ j
theorem Aft.toV {nd : Bool} {id : Nat} {dst : Option Tmp} {env : Env} {k : AV → AH → Prop} {k' : AV → AH → AH → Prop} {a' : Act} {w' : World} (h : Aft P nd n id w S σ H dst env k a' w') (hk : ∀ x H', k x H' → ∃ V', k' x V' H' ∧ V'.le H') : AftV P nd n id w S σ H dst env k' a' w' := by
  obtain ⟨x, H', S', σ', h1, h2⟩ := h
  obtain ⟨V', h3, h4⟩ := hk x H' h1
  exact ⟨x, V', H', S', σ', h3, h4, h2⟩
theorem put_le {id : Nat} {o' : AO} (hle : V.le H) (hn : H.get id = none) : V.le (H.put id o') := by
  intro j o hj
  have h := hle j o hj
  by_cases e : j = id
  · subst e; rw [hn] at h; cases h
  · rw [AH.get_put_ne e]; exact h
theorem Sat.none_get (hs : Sat P w S σ H) {id : Nat} (h : σ id = none) : H.get id = none := by
  cases hg : H.get id with
  | none => rfl
  | some o =>
    have := hs.obj id o hg
    cases o with
    | box t cs => obtain ⟨g, arr, h1, _⟩ := this; rw [h] at h1; cases h1
    | row t sz es => obtain ⟨A, c, h1, _⟩ := this; rw [h] at h1; cases h1
    | frz sz es => obtain ⟨A, c, h1, _⟩ := this; rw [h] at h1; cases h1
    | crow t sz c es => obtain ⟨A, N, h1, _⟩ := this; rw [h] at h1; cases h1
    | map kt m f => obtain ⟨g, f', h1, _⟩ := this; rw [h] at h1; cases h1
    | siter s p => obtain ⟨g, h1, _⟩ := this; rw [h] at h1; cases h1
    | smap kt m f st c => obtain ⟨g, f', es, h1, _⟩ := this; rw [h] at h1; cases h1
    | miter m st c vis => obtain ⟨r, g, seen, h1, _⟩ := this; rw [h] at h1; cases h1
    | dead => have h2 : (σ id).isSome = true := this; rw [h] at h2; cases h2
theorem AH.le_refl (H : AH) : H.le H := fun _ _ h => h
theorem ElF.toA {src : Option Nat} {sz : Nat} {x : AV} {ys : List (List AV)} (h : ElF V H src sz x ys) (hle : V.le H) : ElA H sz x ys := by
  cases h with
  | old x ys h => exact h.le hle
  | new i off n t es _ hg hn => exact .row i off n t es hg hn
theorem put_leV {i : Nat} {o' : AO} (hle : V.le H) (hn : V.get i = none) : V.le (H.put i o') := by
  intro j o hj
  have hne : j ≠ i := fun e => by subst e; rw [hn] at hj; cases hj
  rw [AH.get_put_ne hne]; exact hle j o hj
theorem wrF_wr {tgt src : Option Nat} {id : Nat} {wo : WO} {args : List AV} {a : AV} {H' : AH} (hle : V.le H) (hid : H.get id = none) (h : WrFR V tgt src id wo args H a H') : WrR P id wo args H a H' ∧ V.le H' := by
  have hv : V.get id = none := by
    cases hg : V.get id with
    | none => rfl
    | some o => rw [hle _ _ hg] at hid; cases hid
  cases h with
  | st n i off t cs a _ h1 h2 h3 h4 h5 h6 => exact ⟨.st_box n i off t cs a _ h3 h4 h5 h6, put_leV hle h2⟩
  | app_row t sz bytes r off n es ys x _ h1 h2 h3 h4 h5 h6 h7 => exact ⟨.app_row t sz bytes r off n es ys x _ h3 h4 (h5.toA hle) h6 h7, put_leV (put_leV hle h2) hv⟩
  | app_nil t sz bytes ys x _ h1 h2 h3 h4 => exact ⟨.app_nil t sz bytes ys x _ (h2.toA hle) h3 h4, put_leV hle hv⟩
theorem mixV_le (hle : V.le H) : ∀ sl : List Nat, (mixV V H sl).le H
  | [] => hle
  | i :: r => by
    have ih := mixV_le hle r
    unfold mixV
    cases hg : H.get i with
    | none => exact ih
    | some o =>
      intro j o' hj
      by_cases e : j = i
      · subst e; simp only [mixO] at hj; rw [AH.get_put_self] at hj; rw [hg]; exact hj
      · simp only [mixO] at hj; rw [AH.get_put_ne e] at hj; exact ih j o' hj
theorem mixV_congr {H2 : AH} : ∀ sl : List Nat, (∀ i ∈ sl, H2.get i = H.get i) → mixV V H2 sl = mixV V H sl
  | [], _ => rfl
  | i :: r, h => by
    unfold mixV
    rw [h i (by simp), mixV_congr r fun j hj => h j (by simp [hj])]
theorem Sat.freeze (hs : Sat P w S σ H) {r : Nat} {t : TypeId} {sz : Nat} {es : List (List AV)} (hg : H.get r = some (.row t sz es)) (hd : DtR es) :
    ∃ S', Sat P w S' σ (H.put r (.frz sz es)) ∧ (∀ b, S b → S' b) ∧ (∀ b, S' b → S b ∨ Foot σ H b) ∧ ∀ b, Foot σ (H.put r (.frz sz es)) b → Foot σ H b := by
  have hk := hs.obj r _ hg
  obtain ⟨A, c, h1, h2, h3, h4, h5⟩ := hk
  have hlt : ∀ b, (σ r).bind blkOf = some b → b < w.heap.size := by
    intro b hb
    rw [h1] at hb
    rcases h5 with ⟨rfl, _⟩ | ⟨g, o, arr, rfl, k1, _⟩
    · cases hb
    · injection hb with hb; subst hb; exact k1.lt
  have hget : ∀ id o, (H.put r (.frz sz es)).get id = some o → (id = r ∧ o = .frz sz es) ∨ (id ≠ r ∧ H.get id = some o) := by
    intro id o ho
    by_cases e : id = r
    · subst e; rw [AH.get_put_self] at ho; injection ho with ho; exact .inl ⟨rfl, ho.symm⟩
    · rw [AH.get_put_ne e] at ho; exact .inr ⟨e, ho⟩
  refine ⟨fun b => S b ∨ (σ r).bind blkOf = some b, ⟨fun b hb => hb.elim (hs.sb b) (hlt b), hs.dom, fun id o ho => ?_, fun i q o o' b h h' k k' => ?_, fun i o b h k hb hS => ?_, hs.sl⟩, fun b hb => .inl hb, fun b hb => hb.elim .inl fun hb => .inr ⟨r, _, hg, rfl, hb⟩, ?_⟩
  · rcases hget id o ho with ⟨rfl, rfl⟩ | ⟨e, ho⟩
    · refine ⟨A, c, h1, ?_⟩
      rcases h5 with ⟨rfl, rfl⟩ | ⟨g, o, arr, rfl, k1, k2, k3, k4⟩
      · have : es = [] := List.length_eq_zero_iff.1 (by omega)
        subst this
        exact .dsl _ _ _ _ (fun _ _ => .bool false) (Nat.zero_le _) h4 (by simp) (by simp) (by simp) (fun _ _ => rfl)
      · refine .dsl _ _ _ _ (fun i j => (arr[o + i * sz + j]?).getD (.bool false)) h3 h4 h2 (fun i e j a he ha => ?_) (fun i e j a he ha => ?_) (fun i j => ?_)
        · obtain ⟨v, hv, _⟩ := k4 i e j a he ha
          exact ⟨g, o, rfl, .inr (by rw [h1]; rfl), by rw [k1.cell, hv]; rfl⟩
        · obtain ⟨v, hv, hr⟩ := k4 i e j a he ha
          rw [hv]
          exact (hd e (List.mem_of_getElem? he) a (List.mem_of_getElem? ha) _ _ _ _ hr).mono (fun _ h => .inl h) (fun _ _ => rfl)
        · cases hv : arr[o + i * sz + j]? with
          | none => rfl
          | some u => exact k3 u (Array.mem_of_getElem? hv)
    · exact (hs.obj id o ho).mono (fun _ h => .inl h) (fun _ _ => rfl) (fun _ _ h => h) (fun _ _ _ => rfl)
  · rcases hget i o h with ⟨rfl, rfl⟩ | ⟨e, h⟩
    · cases k
    · rcases hget q o' h' with ⟨rfl, rfl⟩ | ⟨e', h'⟩
      · cases k'
      · exact fun b1 b2 => hs.dj i q o o' b h h' k k' b1 b2
  · rcases hget i o h with ⟨rfl, rfl⟩ | ⟨e, h⟩
    · cases k
    · rcases hS with hS | hS
      · exact hs.sep i o b h k hb hS
      · exact e (hs.dj i r o _ b h hg k rfl hb hS)
  · rintro b ⟨i, o, h, k, hb⟩
    rcases hget i o h with ⟨rfl, rfl⟩ | ⟨e, h⟩
    · cases k
    · exact ⟨i, o, h, k, hb⟩
theorem Ext.still {S' : Nat → Prop} {H' : AH} (h1 : ∀ b, S b → S' b) (h2 : ∀ b, S' b → S b ∨ Foot σ H b) (h3 : ∀ b, Foot σ H' b → Foot σ H b) : Ext w S σ H w S' σ H' :=
  ⟨rfl, rfl, rfl, Nat.le_refl _, fun _ _ _ => rfl, h1, fun b hb => (h2 b hb).elim .inl fun h => .inr (.inl h), fun b hb => .inl (h3 b hb), fun _ _ h => h⟩
theorem apE_get {j : Nat} : ∀ (e : List (Nat × AO)) (H : AH), (∀ p ∈ e, p.1 ≠ j) → (apE e H).get j = H.get j
  | [], H, _ => rfl
  | (i, o) :: r, H, h => by
    have hi : i ≠ j := h (i, o) (by simp)
    rw [apE, apE_get r _ fun p hp => h p (by simp [hp]), AH.get_put_ne (fun e => hi e.symm)]
theorem apE_nx : ∀ (e : List (Nat × AO)) (H : AH), (apE e H).nx = H.nx
  | [], _ => rfl
  | (i, o) :: r, H => (apE_nx r _).trans rfl
theorem apE_same {j : Nat} : ∀ (e : List (Nat × AO)) (H H2 : AH), H2.get j = H.get j → (apE e H2).get j = (apE e H).get j
  | [], _, _, h => h
  | (i, o) :: r, H, H2, h => apE_same r _ _ (by
    by_cases e : j = i
    · subst e; rw [AH.get_put_self, AH.get_put_self]
    · rw [AH.get_put_ne e, AH.get_put_ne e]; exact h)
theorem frzE_in {H : AH} : ∀ {fz : List Nat} {p : Nat × AO}, p ∈ frzE H fz → p.1 ∈ fz ∧ ∃ t sz es, H.get p.1 = some (.row t sz es) ∧ p.2 = .frz sz es
  | [], p, h => by cases h
  | i :: r, p, h => by
    unfold frzE at h
    rcases List.mem_append.1 h with h | h
    · cases hg : H.get i with
      | none => rw [hg] at h; cases h
      | some o =>
        rw [hg] at h
        cases o <;> simp only [frzO, List.mem_singleton, List.not_mem_nil] at h
        subst h
        exact ⟨by simp, _, _, _, hg, rfl⟩
    · obtain ⟨h1, h2⟩ := frzE_in h
      exact ⟨by simp [h1], h2⟩
theorem frzE_same {H H2 : AH} : ∀ {fz : List Nat}, (∀ i ∈ fz, H2.get i = H.get i) → frzE H2 fz = frzE H fz
  | [], _ => rfl
  | i :: r, h => by rw [frzE, frzE, h i (by simp), frzE_same fun j hj => h j (by simp [hj])]
/-- what is frozen one after the other -/
theorem Sat.freezes : ∀ (e : List (Nat × AO)) (H : AH) (S : Nat → Prop), Sat P w S σ H → (∀ p ∈ e, ∃ sz es, p.2 = .frz sz es ∧ DtR es ∧ ((∃ t, H.get p.1 = some (.row t sz es)) ∨ H.get p.1 = some (.frz sz es))) →
    ∃ S', Sat P w S' σ (apE e H) ∧ (∀ b, S b → S' b) ∧ (∀ b, S' b → S b ∨ Foot σ H b) ∧ ∀ b, Foot σ (apE e H) b → Foot σ H b
  | [], H, S, hs, _ => ⟨S, hs, fun _ h => h, fun _ h => .inl h, fun _ h => h⟩
  | (i, o) :: r, H, S, hs, h => by
    obtain ⟨sz, es, rfl, hd, hg⟩ := h (i, o) (by simp)
    have : ∃ S', Sat P w S' σ (H.put i (.frz sz es)) ∧ (∀ b, S b → S' b) ∧ (∀ b, S' b → S b ∨ Foot σ H b) ∧ ∀ b, Foot σ (H.put i (.frz sz es)) b → Foot σ H b := by
      rcases hg with ⟨t, hg⟩ | hg
      · exact hs.freeze hg hd
      · have hsame : ∀ j, (H.put i (.frz sz es)).get j = H.get j := fun j => by
          by_cases e : j = i
          · subst e; rw [AH.get_put_self, hg]
          · rw [AH.get_put_ne e]
        exact ⟨S, ⟨hs.sb, hs.dom, fun id o ho => hs.obj id o (by rw [← hsame]; exact ho), fun a b o o' x h1 h2 => hs.dj a b o o' x (by rw [← hsame]; exact h1) (by rw [← hsame]; exact h2), fun a o x h1 => hs.sep a o x (by rw [← hsame]; exact h1), hs.sl⟩, fun _ h => h, fun _ h => .inl h,
          fun b ⟨a, o, h1, h2, h3⟩ => ⟨a, o, by rw [← hsame]; exact h1, h2, h3⟩⟩
    obtain ⟨S1, k1, k2, k3, k4⟩ := this
    obtain ⟨S2, m1, m2, m3, m4⟩ := Sat.freezes r (H.put i (.frz sz es)) S1 k1 fun p hp => by
      obtain ⟨sz', es', e1, e2, e3⟩ := h p (by simp [hp])
      refine ⟨sz', es', e1, e2, ?_⟩
      by_cases e : p.1 = i
      · rw [e, AH.get_put_self]
        rw [e] at e3
        right
        rcases e3 with ⟨t, e3⟩ | e3 <;> rcases hg with ⟨t', hg⟩ | hg <;> rw [hg] at e3 <;> injection e3 with e3
        · injection e3 with _ e4 e5; rw [e4, e5]
        · cases e3
        · cases e3
        · injection e3 with e4 e5; rw [e4, e5]
      · rw [AH.get_put_ne e]; exact e3
    exact ⟨S2, m1, fun b hb => m2 b (k2 b hb), fun b hb => (m3 b hb).elim (k3 b) fun h => .inr (k4 b h), fun b hb => k4 b (m4 b hb)⟩
theorem wro_eff {src : Option Nat} {id : Nat} {wo : WO} {xs : List Operand} {args : List AV} {a : AV} {H' : AH} {o : Oper} {ev : Operand → Value} (hs : Sat P w S σ H) (hle : V.le H) (hid : id < H.nx ∧ σ id = none) (hc : clsW P o.op = some (wo, xs)) (hp : WrOR V b src id wo args H a H') (hr : Rps w S σ args (xs.map ev)) :
    V.le H' ∧ H'.nx = H.nx ∧ Eff P w S σ H ev o id a H' := by
  have hn := hs.none_get hid.2
  cases hp with
  | st n i off t cs a _ h1 h2 h3 h4 h5 h6 => exact ⟨put_leV hle h2, rfl, wr_sound hs hid hc (.st_box n i off t cs a _ h3 h4 h5 h6) hr⟩
  | app_nil t sz bytes ys x _ h1 h2 h3 => exact ⟨put_le hle hn, rfl, wr_sound hs hid hc (.app_nil t sz bytes ys x _ (h1.toA hle) h2 h3) hr⟩
  | app_in t sz bytes r n c es ys x _ h1 h2 h3 h4 h5 h6 => exact ⟨put_leV hle h2, rfl, cr_sound hs hid hc (.app_in t sz bytes r n c es ys x _ h3 h4 (h5.toA hle) h6) hr⟩
  | app_out t sz bytes r n c es ys x _ h1 h3 h4 h5 h6 h7 h8 => exact ⟨put_le hle hn, rfl, cr_sound hs hid hc (.app_out t sz bytes r n c es ys x _ h3 h4 (h5.toA hle) h6 h7 h8) hr⟩
  | app_own t sz bytes r n es ys x _ h1 h2 h3 h4 h5 h6 h7 =>
    have hne : id ≠ r := fun e => by rw [e, h3] at hn; cases hn
    exact ⟨put_le (put_leV hle h2) (by rw [AH.kill, AH.get_put_ne hne]; exact hn), rfl, wr_sound hs hid hc (.app_row t sz bytes r 0 n es ys x _ h3 (by omega) (h5.toA hle) h6 h7) hr⟩
theorem delL_le : ∀ ds : List Nat, (delL H ds).le H
  | [] => AH.le_refl H
  | _ :: r => fun j o hj => delL_le r j o (AH.get_del hj).1
theorem apE_le : ∀ (e : List (Nat × AO)) {V H : AH}, V.le H → (apE e V).le (apE e H)
  | [], _, _, h => h
  | (i, o) :: r, V, H, h => apE_le r fun j x hj => by
    by_cases q : j = i
    · subst q; rw [AH.get_put_self] at hj ⊢; exact hj
    · rw [AH.get_put_ne q] at hj ⊢; exact h j x hj
theorem coreV_wp {o : Oper} {a : Act} {env : Env} {k : AV → AH → AH → Prop} {id : Nat} {Q : Exit → Act → World → Prop} (hr : RepE n a w S σ env) (hs : Sat P w S σ H) (hle : V.le H) {nd : Bool} (hnc : needC (cls P o.op) = true → nd = true) {fw : Option (Option Nat × Option Nat) × List Nat} (hrc : ∀ f xs, cls P o.op = .ca f xs → fw.1.isSome = true → nd = true) (hid : nd = true → id < H.nx ∧ σ id = none) (h : coreV P b fw V id o.op env k H) : o.wp P a w (AftV P nd n id w S σ H o.dst env k) Q := by
  have up : ∀ {k1 : AV → AH → Prop}, o.wp P a w (Aft P nd n id w S σ H o.dst env k1) Q → (∀ x H', k1 x H' → ∃ V', k x V' H' ∧ V'.le H') → o.wp P a w (AftV P nd n id w S σ H o.dst env k) Q := fun h1 h2 => Oper.wp_mono (fun _ _ h => h.toV h2) h1
  unfold coreV at h
  split at h
  · rename_i x hc
    exact up (k1 := fun x H' => k x V H' ∧ V.le H') (val_wp hr hs (pu_sound (cls_mv hc) (.mv _) (hr.evs [x]) (sat_hsz hs)) ⟨h, hle⟩) (fun _ _ h => ⟨V, h⟩)
  · rename_i po xs hc
    obtain ⟨x, hp, hk⟩ := h
    exact up (k1 := fun x H' => k x V H' ∧ V.le H') (val_wp hr hs (pu_sound (cls_pu hc) hp (hr.evs xs) (sat_hsz hs)) ⟨hk, hle⟩) (fun _ _ h => ⟨V, h⟩)
  · rename_i ro xs hc
    obtain ⟨fw, sl⟩ := fw
    cases sl with
    | nil =>
      obtain ⟨x, hp, hk⟩ := h
      exact up (k1 := fun x H' => k x V H' ∧ V.le H') (val_wp hr hs (rd_sound hs (cls_rd hc) (hp.le hle) (hr.evs xs)) ⟨hk, hle⟩) (fun _ _ h => ⟨V, h⟩)
    | cons j r =>
      obtain ⟨x, hp, hk⟩ := h
      exact up (k1 := fun x H' => k x V H' ∧ V.le H') (val_wp hr hs (rd_sound hs (cls_rd hc) (hp.le (mixV_le hle _)) (hr.evs xs)) ⟨hk, hle⟩) (fun _ _ h => ⟨V, h⟩)
  · rename_i ao xs hc
    obtain ⟨x, o', hp, hk⟩ := h
    refine up (k1 := fun x H' => k x V H' ∧ V.le H') (by rw [hnc (by rw [hc]; rfl)]; exact eff_wp hr hs (al_sound (fun _ => rfl) hs (hid (hnc (by rw [hc]; rfl))).1 (hid (hnc (by rw [hc]; rfl))).2 (cls_al hc) hp (hr.evs xs)) (Nat.le_refl _) ⟨hk, put_le hle (hs.none_get (hid (hnc (by rw [hc]; rfl))).2)⟩) (fun _ _ h => ⟨V, h⟩)
  · rename_i wo xs hc
    obtain ⟨fw, sl⟩ := fw
    cases fw with
    | none =>
     cases sl with
     | cons q1 q2 =>
      obtain ⟨x, H', hp, hk⟩ := h
      obtain ⟨i1, i2⟩ := hid (hnc (by rw [hc]; rfl))
      obtain ⟨hv, hnx, heff⟩ := wro_eff (ev := a.eval) hs hle ⟨i1, i2⟩ (cls_wr hc) hp (hr.evs xs)
      refine up (k1 := fun x H' => k x V H' ∧ V.le H') (by rw [hnc (by rw [hc]; rfl)]; exact eff_wp hr hs heff (Nat.le_of_eq hnx.symm) ⟨hk, hv⟩) (fun _ _ h => ⟨V, h⟩)
     | nil =>
      obtain ⟨x, H', hp, hk⟩ := h
      refine up (k1 := fun x H' => k x H' H') (by rw [hnc (by rw [hc]; rfl)]; exact eff_wp hr hs (wr_sound hs (hid (hnc (by rw [hc]; rfl))) (cls_wr hc) hp (hr.evs xs)) (Nat.le_of_eq (wr_nx hp).symm) hk) (fun _ H' h => ⟨H', h, AH.le_refl _⟩)
    | some f =>
      obtain ⟨tg, sr⟩ := f
      obtain ⟨x, H', hp, hk⟩ := h
      obtain ⟨hp', hle'⟩ := wrF_wr hle (hs.none_get (hid (hnc (by rw [hc]; rfl))).2) hp
      refine up (k1 := fun x H' => k x V H' ∧ V.le H') (by rw [hnc (by rw [hc]; rfl)]; exact eff_wp hr hs (wr_sound hs (hid (hnc (by rw [hc]; rfl))) (cls_wr hc) hp' (hr.evs xs)) (Nat.le_of_eq (wr_nx hp').symm) ⟨hk, hle'⟩) (fun _ _ h => ⟨V, h⟩)
  · rename_i fo xs hc
    obtain ⟨c, ho, hcc, rfl⟩ := cls_ca hc
    obtain ⟨fw, sl⟩ := fw
    cases fw with
    | some q =>
     obtain ⟨q1, q2⟩ := q
     cases q1 with
     | some q1 =>
      cases q2 with
      | some q2 =>
       cases q1 with
       | zero =>
        obtain ⟨g, first, cap, R, hf, hcal, ht, hk⟩ := h
        exact up (k1 := fun x H' => k x H' H') (ca_wp hr hs ho hcc hf hcal ht hk) (fun _ H' h => ⟨H', h, AH.le_refl _⟩)
       | succ q1 =>
        obtain ⟨g, first, cap, R, hf, hcal, ht, hk⟩ := h
        exact up (k1 := fun x H' => V.le H' ∧ k x V H') (ca_wp hr hs ho hcc hf hcal ht hk) (fun _ H' h => ⟨V, h.2, h.1⟩)
      | none =>
      obtain ⟨g, first, cap, x, fz, e0, hf, hcal, hfz, _, ht, hk⟩ := h
      obtain ⟨S2, m1, m2, m3, m4⟩ := hs.freezes (frzE H fz) H S fun p hp => by
        obtain ⟨q1, t, sz, es, q2, q3⟩ := frzE_in hp
        have := (hfz _ q1).2.2
        rw [q2] at this
        exact ⟨sz, es, q3, this, .inl ⟨t, q2⟩⟩
      have hle2 : V.le (frzL H fz) := fun id o ho => by
        rw [frzL, apE_get _ _ fun p hp e => by
          have := (hfz _ (frzE_in hp).1).2.1
          rw [e, ho] at this; cases this]
        exact hle id o ho
      have hE : Ext w S σ H w S2 σ (frzL H fz) := .still m2 m3 m4
      refine Oper.wp_mono (fun a' w' hh => ?_) (ca_wp (nd := nd) (id := id) (k := fun x H' => k x (apE e0 V) H' ∧ (apE e0 V).le H') (hr.ext hs hE) m1 ho hcc hf hcal (ht _ fun _ _ => rfl) (fun r H' _ ⟨h1, h2⟩ => by subst h1; subst h2; exact ⟨hk, apE_le e0 hle2⟩))
      obtain ⟨x, H', S', σ', ⟨g1, g2⟩, g3, g4, g5, g6, g7⟩ := hh
      have hnx : (apE (frzE H fz) H).nx = H.nx := apE_nx _ _
      exact ⟨x, _, H', S', σ', g1, g2, g3, g4, hE.trans g5, by rw [← hnx]; exact g6, fun j h1 h2 => g7 j h1 (by rw [hnx]; exact h2)⟩
     | none =>
      obtain ⟨g, first, cap, t, sz, es, hf, hcal, hd, ht, hk⟩ := h
      have hnd := hrc fo _ hc rfl
      obtain ⟨i1, i2⟩ := hid hnd
      subst hnd
      have hfv := hr.ev fo
      rw [hf] at hfv
      obtain ⟨us, hrun, hus⟩ := call_run (P := P) ho hcc hfv hcal (hr.evs c.args.toList)
      unfold Oper.wp
      rw [hrun]
      refine (ht H (mixV_le hle _) w S σ us hs hus).mono fun e w' ⟨v, S', σ', r, H', he, ⟨hq, hle2⟩, h1, h2, h3, h4, h5⟩ => ?_
      subst he
      obtain ⟨σ2, g1, g2, g3, g4⟩ := relaid hs h1 h3 h4 h5 hle2 hq h2 i1 i2 hd
      exact ⟨_, V, _, S', σ2, hk, put_le hle (hs.none_get i2), (hr.ext hs g3).put _ g2, g1, g3, Nat.le_refl _, fun j k1 k2 => g4 j (k1 rfl) k2⟩
    | none =>
    cases sl with
    | nil =>
      obtain ⟨g, first, cap, x, hf, hcal, ht, hk⟩ := h
      exact up (k1 := fun x H' => k x V H' ∧ V.le H') (ca_wp hr hs ho hcc hf hcal (ht H hle) (fun r H' _ ⟨h1, h2⟩ => by subst h1; subst h2; exact ⟨hk, hle⟩)) (fun _ _ h => ⟨V, h⟩)
    | cons j r =>
      obtain ⟨g, first, cap, x, fz, hf, hcal, hfz, ht, hk⟩ := h
      obtain ⟨S2, m1, m2, m3, m4⟩ := hs.freezes (frzE H fz) H S fun p hp => by
        obtain ⟨q1, t, sz, es, q2, q3⟩ := frzE_in hp
        have := (hfz _ q1).2.2
        rw [q2] at this
        exact ⟨sz, es, q3, this, .inl ⟨t, q2⟩⟩
      have hle2 : V.le (frzL H fz) := fun id o ho => by
        rw [frzL, apE_get _ _ fun p hp e => by
          have := (hfz _ (frzE_in hp).1).2.1
          rw [e, ho] at this; cases this]
        exact hle id o ho
      have hE : Ext w S σ H w S2 σ (frzL H fz) := .still m2 m3 m4
      refine Oper.wp_mono (fun a' w' hh => ?_) (ca_wp (nd := nd) (id := id) (k := fun x H' => k x V H' ∧ V.le H') (hr.ext hs hE) m1 ho hcc hf hcal (ht _ (mixV_le hle2 _)) (fun r H' _ ⟨h1, h2⟩ => by subst h1; subst h2; exact ⟨hk, hle2⟩))
      obtain ⟨x, H', S', σ', ⟨g1, g2⟩, g3, g4, g5, g6, g7⟩ := hh
      have hnx : (apE (frzE H fz) H).nx = H.nx := apE_nx _ _
      exact ⟨x, V, H', S', σ', g1, g2, g3, g4, hE.trans g5, by rw [← hnx]; exact g6, fun j h1 h2 => g7 j h1 (by rw [hnx]; exact h2)⟩
  · exact h.elim
  · exact h.elim
theorem gv_yield {a : Act} {env : Env} {j : Nat} {c : Option Bool} (hr : RepE n a w S σ env) (h : gv n ops env j = gb c) : yielded ops a.tmps j = c := by
  unfold gv at h
  cases hd : (ops[j]?).bind (·.dst) with
  | none => rw [hd] at h; cases c <;> cases h
  | some d =>
    rw [hd] at h
    simp only at h
    cases hb : Nat.blt d n with
    | false => rw [hb] at h; cases c <;> cases h
    | true =>
      rw [hb, cond_true] at h
      have hlt : d < n := by rw [Nat.blt_eq] at hb; exact hb
      have := hr.at_ d
      rw [h] at this
      rw [Array.getD_eq_getD_getElem?, Array.getElem?_eq_getElem (by rw [hr.size]; exact hlt), Option.getD_some] at this
      unfold yielded
      rw [hd]
      simp only [Option.bind_some]
      rw [Array.getElem?_eq_getElem (by rw [hr.size]; exact hlt)]
      cases c with
      | some c => rw [this.p_inv.1]
      | none =>
        obtain ⟨vs, hv, _⟩ := this.tup_inv
        rw [hv]
theorem skip_rp : Rp w S σ (.tup []) undef := .tup [] #[] rfl (by simp)
/-- the operations of a region, one behind the other -/
theorem seqA_sound {nd : Bool} {B0 : Nat} {Q : Exit → Act → World → Prop} : ∀ (l : List Oper) (i : Nat) (env : Env) (k : Env → AH → Prop) (a : Act) (w : World) (S : Nat → Prop) (σ : Nat → Option Value) (H : AH), RepE n a w S σ env → Sat P w S σ H →
    (∀ o ∈ l, needC (cls P o.op) = true → nd = true) → (nd = true → ∀ j, i ≤ j → j < i + l.length → b + j < H.nx ∧ σ (b + j) = none) → B0 ≤ H.nx → (nd = true → B0 ≤ b) → (∀ a' w' S' σ' env' H', k env' H' → RepE n a' w' S' σ' env' → Sat P w' S' σ' H' → Ext w S σ H w' S' σ' H' → H.nx ≤ H'.nx → (∀ j, j < B0 → σ' j = σ j) → Q .normal a' w') →
    seqA P n b ops l i env k H → wpList P ops Q l a w
  | [], i, env, k, a, w, S, σ, H, hr, hs, _, _, _, _, hQ, h => hQ a w S σ env H h hr hs (.refl _ _ _ _) (Nat.le_refl _) (fun _ _ => rfl)
  | o :: rest, i, env, k, a, w, S, σ, H, hr, hs, hnd, hres, hB, hBb, hQ, h => by
    have hid : needC (cls P o.op) = true → b + i < H.nx ∧ σ (b + i) = none := fun h => hres (hnd o (by simp) h) i (Nat.le_refl _) (by simp)
    have next : ∀ (a' : Act) (w' : World), Aft P (needC (cls P o.op)) n (b + i) w S σ H o.dst env (fun x => seqA P n b ops rest (i + 1) (setE n env o.dst x) k) a' w' → wpList P ops Q rest a' w' := by
      rintro a' w' ⟨x, H', S', σ', h1, h2, h3, h4, h5, h6⟩
      refine seqA_sound rest (i + 1) _ k a' w' S' σ' H' h2 h3 (fun o ho => hnd o (by simp [ho])) (fun hn j hj1 hj2 => ?_) (by omega) hBb (fun a2 w2 S2 σ2 env2 H2 q1 q2 q3 q4 q5 q6 => hQ a2 w2 S2 σ2 env2 H2 q1 q2 q3 (h4.trans q4) (Nat.le_trans h5 q5) (fun j hj => (q6 j hj).trans (h6 j (fun hn => by have := hBb (hnd o (by simp) hn); omega) (by omega)))) h1
      obtain ⟨g1, g2⟩ := hres hn j (by omega) (by simp; omega)
      exact ⟨by omega, by rw [h6 _ (fun _ => by omega) g1]; exact g2⟩
    simp only [seqA] at h
    unfold wpList
    cases hg : o.guard with
    | none =>
      rw [hg] at h
      rw [if_pos (by simp [Region.wanted, hg])]
      exact .inl (Oper.wp_mono next (coreS_wp hr hs hid h))
    | some g =>
      obtain ⟨j, want⟩ := g
      rw [hg] at h
      obtain ⟨c, hc, h1, h2⟩ := h
      have hy := gv_yield hr hc
      by_cases hcw : c = some want
      · rw [if_pos (by simp [Region.wanted, hg, hy, hcw])]
        exact .inl (Oper.wp_mono next (coreS_wp hr hs hid (h1 hcw)))
      · rw [if_neg (by simp [Region.wanted, hg, hy, hcw])]
        exact next _ _ ⟨.tup [], H, S, σ, h2 hcw, hr.put _ skip_rp, hs, .refl _ _ _ _, Nat.le_refl _, fun _ _ _ => rfl⟩
end
end Go.Proofs.Ytgkkilbeingleaa

/- A region that draws its order: one walk in the text's order serves every order. Nothing of the program is named here. -/
namespace Go.Proofs.Ytgkkilbeingleaa
open Go.RowKit Go.Maps

def clsXs : Cls → List Operand
  | .mv x => [x]
  | .pu _ xs | .rd _ xs | .al _ xs | .wr _ xs => xs
  | .ca f xs => f :: xs
  | .nd _ xs => xs
  | .bad => []
def catOf (P : Program) (ops : Array Oper) (o : Op) : Nat :=
  match cls P o with
  | .mv _ | .pu .. => 0
  | .rd .. | .al .. => 1
  | .ca .. => match freshW P ops o with
    | some (some _, none) => 3
    | some (some _, some _) => 7
    | _ => 1
  | .wr .. => bif (freshW P ops o).isSome then 1 else (match srcsOf P ops o with
    | [] => 2
    | _ => 5)
  | .nd .. => 2
  | .bad => 2
/-- which of the things that the region lays are touched -/
def touch (P : Program) (ops : Array Oper) (o : Op) (i : Nat) : List Nat :=
  match cls P o with
  | .al .. => [i]
  | .wr .. => match freshW P ops o with
    | some (tg, sr) => i :: (tg.toList ++ sr.toList)
    | none => match srcsOf P ops o with
      | _ :: r => i :: r
      | [] => []
  | .rd .. => srcsOf P ops o
  | .ca .. => i :: srcsOf P ops o
  | _ => []
def isAl (P : Program) (o : Op) : Bool := match cls P o with
  | .al .. => true
  | _ => false
def disj (a b : List Nat) : Bool := a.all fun x => !b.contains x
def tmpsIn : List Operand → List Tmp
  | [] => []
  | .tmp t :: r => t :: tmpsIn r
  | _ :: r => tmpsIn r
def looks (P : Program) (ops : Array Oper) (o : Oper) : List Tmp :=
  tmpsIn (clsXs (cls P o.op)) ++ (match o.guard with
    | some (g, _) => ((ops[g]?).bind (·.dst)).toList
    | none => [])
def indep (P : Program) (ops : Array Oper) (x y : Oper) (i j : Nat) : Bool :=
  (match x.dst with
   | some d => !(looks P ops y).contains d && y.dst != some d
   | none => true) &&
  (match y.dst with
   | some d => !(looks P ops x).contains d
   | none => true) && (!(catOf P ops x.op == 7) && (!(catOf P ops y.op == 7) || catOf P ops x.op == 0 || (keptC P ops y.op && quietR P ops x.op))) &&
  ((keptC P ops y.op && quietR P ops x.op) || catOf P ops x.op == 0 || catOf P ops y.op == 0 || (catOf P ops x.op == 1 && catOf P ops y.op == 1 && disj (touch P ops x.op i) (touch P ops y.op j)) ||
    (catOf P ops x.op == 3 && isAl P y.op && disj (touch P ops x.op i) (touch P ops y.op j)) || (isAl P x.op && catOf P ops y.op == 3 && disj (touch P ops x.op i) (touch P ops y.op j)) ||
    (catOf P ops x.op == 5 && catOf P ops y.op == 1 && disj (touch P ops x.op i) (touch P ops y.op j)) || (catOf P ops x.op == 1 && catOf P ops y.op == 5 && disj (touch P ops x.op i) (touch P ops y.op j)))
/-- what an operation gives -/
def CS (P : Program) (b : Nat) (fw : Option (Option Nat × Option Nat) × List Nat) (V : AH) (id : Nat) (o : Op) (env : Env) (H : AH) (x : AV) (V' H' : AH) : Prop :=
  match cls P o with
  | .mv y => x = ev0 env y ∧ V' = V ∧ H' = H
  | .pu po xs => PuR P po (xs.map (ev0 env)) x ∧ V' = V ∧ H' = H
  | .rd ro xs => RdR P (mixV V H (fw.2.map (b + ·))) ro (xs.map (ev0 env)) x ∧ V' = V ∧ H' = H
  | .al ao xs => ∃ o', AlR id ao (xs.map (ev0 env)) o' x ∧ V' = V ∧ H' = H.put id o'
  | .wr wo xs => match fw.1 with
    | some (tg, sr) => WrFR V (plusB b tg) (plusB b sr) id wo (xs.map (ev0 env)) H x H' ∧ V' = V
    | none => match fw.2 with
      | [] => WrR P id wo (xs.map (ev0 env)) H x H' ∧ V' = H'
      | _ :: r => WrOR V b (r.head?.map (b + ·)) id wo (xs.map (ev0 env)) H x H' ∧ V' = V
  | .ca f xs => match fw.1 with
   | some (some _, some _) => False
   | some (some _, none) => ∃ g first cap fz e0, ev0 env f = .fn (.func g) first cap ∧ callable P g = true ∧ (∀ i ∈ fz, i ∈ fw.2.map (b + ·) ∧ V.get i = none ∧ DtO (H.get i)) ∧ (∀ p ∈ e0, p.1 < b) ∧
      (∀ H2, (∀ id, id < b ∨ id ∈ fw.2.map (b + ·) → H2.get id = (frzL H fz).get id) → Tri P g (first ++ xs.map (ev0 env) ++ cap) H2 (fun r H' => H' = apE e0 H2 ∧ r = x)) ∧ V' = apE e0 V ∧ H' = apE e0 (frzL H fz)
   | some (none, _) => (∃ g first cap t sz es, ev0 env f = .fn (.func g) first cap ∧ callable P g = true ∧ (∀ e ∈ es, e.length = sz) ∧ (∀ H2, (mixV V H (fw.2.map (b + ·))).le H2 → Tri P g (first ++ xs.map (ev0 env) ++ cap) H2 (fun r H' => RowR t sz H2 H' r es ∧ H2.le H')) ∧ x = .osl id sz 0 es.length ∧ H' = H.put id (.row t sz es)) ∧ V' = V
   | none => (∃ g first cap fz, ev0 env f = .fn (.func g) first cap ∧ callable P g = true ∧ (∀ i ∈ fz, i ∈ fw.2.map (b + ·) ∧ V.get i = none ∧ DtO (H.get i)) ∧ (∀ H2, (mixV V (frzL H fz) (fw.2.map (b + ·))).le H2 → Tri P g (first ++ xs.map (ev0 env) ++ cap) H2 (fun r H' => H' = H2 ∧ r = x)) ∧ H' = frzL H fz) ∧ V' = V
  | .nd .. => False
  | .bad => False
def GS (P : Program) (n b : Nat) (ops : Array Oper) (o : Oper) (i : Nat) (env : Env) (V H : AH) (x : AV) (V' H' : AH) : Prop :=
  match o.guard with
  | none => CS P b (freshW P ops o.op, srcsOf P ops o.op) V (b + i) o.op env H x V' H'
  | some (j, want) => ∃ c, gv n ops env j = gb c ∧ (c = some want → CS P b (freshW P ops o.op, srcsOf P ops o.op) V (b + i) o.op env H x V' H') ∧ (c ≠ some want → x = .tup [] ∧ V' = V ∧ H' = H)

section
variable {P : Program} {w : World} {S : Nat → Prop} {σ : Nat → Option Value} {H V : AH} {n b : Nat} {ops : Array Oper}
def noLast (fw : Option (Option Nat × Option Nat)) (c : Cls) : Prop := match c, fw with
  | .ca .., some (some _, some _) => False
  | _, _ => True
theorem coreV_iff {fw : Option (Option Nat × Option Nat) × List Nat} {id : Nat} {o : Op} {env : Env} {k : AV → AH → AH → Prop} (hl : noLast fw.1 (cls P o)) : coreV P b fw V id o env k H ↔ ∃ x V' H', CS P b fw V id o env H x V' H' ∧ k x V' H' := by
  unfold coreV CS
  revert hl
  cases cls P o with
  | mv y => intro _; constructor; · exact fun h => ⟨_, V, H, ⟨rfl, rfl, rfl⟩, h⟩
            · rintro ⟨x, V', H', ⟨rfl, rfl, rfl⟩, h⟩; exact h
  | pu po xs => intro _; constructor; · rintro ⟨a, h1, h2⟩; exact ⟨a, V, H, ⟨h1, rfl, rfl⟩, h2⟩
                · rintro ⟨x, V', H', ⟨h, rfl, rfl⟩, h2⟩; exact ⟨x, h, h2⟩
  | rd ro xs =>
    intro _
    obtain ⟨fw, sl⟩ := fw
    cases sl with
    | nil => constructor; · rintro ⟨a, h1, h2⟩; exact ⟨a, V, H, ⟨h1, rfl, rfl⟩, h2⟩
             · rintro ⟨x, V', H', ⟨h, rfl, rfl⟩, h2⟩; exact ⟨x, h, h2⟩
    | cons j r => constructor; · rintro ⟨a, h1, h2⟩; exact ⟨a, V, H, ⟨h1, rfl, rfl⟩, h2⟩
                  · rintro ⟨x, V', H', ⟨h, rfl, rfl⟩, h2⟩; exact ⟨x, h, h2⟩
  | al ao xs => intro _; constructor; · rintro ⟨a, o', h1, h2⟩; exact ⟨a, V, _, ⟨o', h1, rfl, rfl⟩, h2⟩
                · rintro ⟨x, V', H', ⟨o', h, rfl, rfl⟩, h2⟩; exact ⟨x, o', h, h2⟩
  | wr wo xs =>
    intro _
    obtain ⟨fw, sl⟩ := fw
    cases fw with
    | none =>
      cases sl with
      | nil => constructor; · rintro ⟨a, H', h1, h2⟩; exact ⟨a, H', H', ⟨h1, rfl⟩, h2⟩
               · rintro ⟨x, V', H', ⟨h, rfl⟩, h2⟩; exact ⟨x, _, h, h2⟩
      | cons q1 q2 => constructor; · rintro ⟨a, H', h1, h2⟩; exact ⟨a, V, H', ⟨h1, rfl⟩, h2⟩
                      · rintro ⟨x, V', H', ⟨h, rfl⟩, h2⟩; exact ⟨x, _, h, h2⟩
    | some f => obtain ⟨tg, sr⟩ := f; constructor; · rintro ⟨a, H', h1, h2⟩; exact ⟨a, V, H', ⟨h1, rfl⟩, h2⟩
                · rintro ⟨x, V', H', ⟨h, rfl⟩, h2⟩; exact ⟨x, _, h, h2⟩
  | ca f xs =>
    intro hl
    obtain ⟨fw, sl⟩ := fw
    cases fw with
    | some q =>
     obtain ⟨q1, q2⟩ := q
     cases q1 with
     | some q1 =>
      cases q2 with
      | some q2 => exact hl.elim
      | none =>
      constructor
      · rintro ⟨g, first, cap, x, fz, e0, h1, h2, h3, h4, h5, h6⟩; exact ⟨x, _, _, ⟨g, first, cap, fz, e0, h1, h2, h3, h4, h5, rfl, rfl⟩, h6⟩
      · rintro ⟨x, V', H', ⟨g, first, cap, fz, e0, h1, h2, h3, h4, h5, rfl, rfl⟩, h6⟩; exact ⟨g, first, cap, x, fz, e0, h1, h2, h3, h4, h5, h6⟩
     | none =>
      constructor
      · rintro ⟨g, first, cap, t, sz, es, h1, h2, h0, h3, h4⟩; exact ⟨_, V, _, ⟨⟨g, first, cap, t, sz, es, h1, h2, h0, h3, rfl, rfl⟩, rfl⟩, h4⟩
      · rintro ⟨x, V', H', ⟨⟨g, first, cap, t, sz, es, h1, h2, h0, h3, rfl, rfl⟩, rfl⟩, h4⟩; exact ⟨g, first, cap, t, sz, es, h1, h2, h0, h3, h4⟩
    | none =>
    cases sl with
    | nil => constructor; · rintro ⟨g, first, cap, a, h1, h2, h3, h4⟩; exact ⟨a, V, H, ⟨⟨g, first, cap, [], h1, h2, by simp, h3, rfl⟩, rfl⟩, h4⟩
             · rintro ⟨x, V', H', ⟨⟨g, first, cap, fz, h1, h2, h0, h3, rfl⟩, rfl⟩, h4⟩
               have hz : fz = [] := List.eq_nil_iff_forall_not_mem.2 fun i hi => by have := (h0 i hi).1; cases this
               subst hz
               exact ⟨g, first, cap, x, h1, h2, h3, h4⟩
    | cons j r => constructor; · rintro ⟨g, first, cap, a, fz, h1, h2, h0, h3, h4⟩; exact ⟨a, V, _, ⟨⟨g, first, cap, fz, h1, h2, h0, h3, rfl⟩, rfl⟩, h4⟩
                  · rintro ⟨x, V', H', ⟨⟨g, first, cap, fz, h1, h2, h0, h3, rfl⟩, rfl⟩, h4⟩; exact ⟨g, first, cap, x, fz, h1, h2, h0, h3, h4⟩
  | nd no xs => exact fun _ => ⟨fun h => h.elim, fun ⟨_, _, _, h, _⟩ => h.elim⟩
  | bad => intro _; constructor; · exact fun h => h.elim
           · rintro ⟨_, _, _, h, _⟩; exact h.elim
theorem stepV_iff {o : Oper} {i : Nat} {env : Env} {k : Env → AH → AH → Prop} (hl : noLast (freshW P ops o.op) (cls P o.op)) : stepV P n b ops o i env V k H ↔ ∃ x V' H', GS P n b ops o i env V H x V' H' ∧ k (setE n env o.dst x) V' H' := by
  unfold stepV GS
  cases o.guard with
  | none => exact coreV_iff hl
  | some g =>
    obtain ⟨j, want⟩ := g
    constructor
    · rintro ⟨c, hc, h1, h2⟩
      by_cases hcw : c = some want
      · obtain ⟨x, V', H', h3, h4⟩ := (coreV_iff hl).1 (h1 hcw)
        exact ⟨x, V', H', ⟨c, hc, fun _ => h3, fun h => absurd hcw h⟩, h4⟩
      · exact ⟨.tup [], V, H, ⟨c, hc, fun h => absurd h hcw, fun _ => ⟨rfl, rfl, rfl⟩⟩, h2 hcw⟩
    · rintro ⟨x, V', H', ⟨c, hc, h1, h2⟩, h4⟩
      refine ⟨c, hc, fun h => (coreV_iff hl).2 ⟨x, V', H', h1 h, h4⟩, fun h => ?_⟩
      obtain ⟨rfl, rfl, rfl⟩ := h2 h
      exact h4
theorem lastOr (fw : Option (Option Nat × Option Nat)) (c : Cls) : noLast fw c ∨ ∃ f xs a d, c = .ca f xs ∧ fw = some (some a, some d) := by
  unfold noLast
  split
  · exact .inr ⟨_, _, _, _, rfl, rfl⟩
  · exact .inl trivial
theorem stepV_mono2 {o : Oper} {i : Nat} {env : Env} {k k' : Env → AH → AH → Prop} (h : stepV P n b ops o i env V k H) (hk : ∀ x V H, k (setE n env o.dst x) V H → k' (setE n env o.dst x) V H) : stepV P n b ops o i env V k' H := by
  rcases lastOr (freshW P ops o.op) (cls P o.op) with hl | ⟨f, xs, a, d, hc, hf⟩
  · rw [stepV_iff hl] at h ⊢
    obtain ⟨x, V', H', h1, h2⟩ := h
    exact ⟨x, V', H', h1, hk _ _ _ h2⟩
  · have core : ∀ {k1 k2 : AV → AH → AH → Prop}, (∀ x V H, k1 x V H → k2 x V H) → coreV P b (freshW P ops o.op, srcsOf P ops o.op) V (b + i) o.op env k1 H → coreV P b (freshW P ops o.op, srcsOf P ops o.op) V (b + i) o.op env k2 H := by
      intro k1 k2 hkk h
      unfold coreV at h ⊢
      rw [hc, hf] at h ⊢
      cases a with
      | zero =>
        obtain ⟨g, first, cap, Q, q1, q2, q3, q4⟩ := h
        exact ⟨g, first, cap, Q, q1, q2, q3, fun r H' s q => hkk _ _ _ (q4 r H' s q)⟩
      | succ a =>
        obtain ⟨g, first, cap, Q, q1, q2, q3, q4⟩ := h
        exact ⟨g, first, cap, Q, q1, q2, q3, fun r H' s q => ⟨(q4 r H' s q).1, hkk _ _ _ (q4 r H' s q).2⟩⟩
    unfold stepV at h ⊢
    cases hg : o.guard with
    | none => rw [hg] at h; exact core (fun x V H h => hk x V H h) h
    | some g =>
      obtain ⟨j, want⟩ := g
      rw [hg] at h
      obtain ⟨c, h1, h2, h3⟩ := h
      exact ⟨c, h1, fun h => core (fun x V H h => hk x V H h) (h2 h), fun h => hk _ _ _ (h3 h)⟩
theorem stepV_mono {o : Oper} {i : Nat} {env : Env} {k k' : Env → AH → AH → Prop} (h : stepV P n b ops o i env V k H) (hk : ∀ e V H, k e V H → k' e V H) : stepV P n b ops o i env V k' H := stepV_mono2 h fun x V H h => hk _ V H h
theorem noLast_of {o : Op} (h : catOf P ops o ≠ 7) : noLast (freshW P ops o) (cls P o) := by
  rcases lastOr (freshW P ops o) (cls P o) with hl | ⟨f, xs, a, d, hc, hf⟩
  · exact hl
  · exfalso; apply h; unfold catOf; rw [hc]; dsimp only; rw [hf]
theorem mem_tmps {t : Tmp} : ∀ {xs : List Operand}, Operand.tmp t ∈ xs → t ∈ tmpsIn xs
  | [], h => by cases h
  | x :: xs, h => by
    rcases List.mem_cons.1 h with h | h
    · subst h; simp [tmpsIn]
    · have := mem_tmps h
      cases x <;> simp [tmpsIn, this]
theorem ev_set {env : Env} {dst : Option Tmp} {a : AV} {x : Operand} (h : ∀ d, dst = some d → x ≠ .tmp d) : ev0 (setE n env dst a) x = ev0 env x := by
  cases x with
  | tmp t =>
    cases dst with
    | none => rfl
    | some d =>
      have hne : t ≠ d := fun e => h d rfl (by rw [e])
      simp only [ev0, setE]
      cases Nat.blt d n
      · rfl
      · simp only [cond_true]
        rw [show Nat.beq t d = false from by rw [Bool.eq_false_iff]; exact fun e => hne (Nat.eq_of_beq_eq_true e)]
        rfl
  | const v => rfl
  | global g => rfl
  | func f => rfl
theorem evs_set {env : Env} {dst : Option Tmp} {a : AV} {xs : List Operand} (h : ∀ d, dst = some d → d ∉ tmpsIn xs) : xs.map (ev0 (setE n env dst a)) = xs.map (ev0 env) :=
  List.map_congr_left fun x hx => ev_set fun d hd e => h d hd (mem_tmps (e ▸ hx))
theorem CS_congr {fw : Option (Option Nat × Option Nat) × List Nat} {id : Nat} {o : Op} {env : Env} {dst : Option Tmp} {a : AV} {x : AV} {V' H' : AH} (h : ∀ d, dst = some d → d ∉ tmpsIn (clsXs (cls P o))) : CS P b fw V id o (setE n env dst a) H x V' H' ↔ CS P b fw V id o env H x V' H' := by
  unfold CS
  cases hc : cls P o with
  | mv y => rw [hc] at h; have := evs_set (n := n) (env := env) (a := a) h; simp only [clsXs, List.map_cons, List.map_nil, List.cons.injEq, and_true] at this; dsimp only; rw [this]
  | pu po xs => rw [hc] at h; dsimp only; rw [evs_set (xs := xs) h]
  | rd ro xs => rw [hc] at h; dsimp only; rw [evs_set (xs := xs) h]
  | al ao xs => rw [hc] at h; dsimp only; rw [evs_set (xs := xs) h]
  | wr wo xs => rw [hc] at h; dsimp only; rw [evs_set (xs := xs) h]
  | ca f xs => rw [hc] at h; have := evs_set (n := n) (env := env) (a := a) h; simp only [clsXs, List.map_cons, List.cons.injEq] at this; dsimp only; rw [this.1, this.2]
  | nd no xs => exact Iff.rfl
  | bad => exact Iff.rfl
theorem gv_set {env : Env} {dst : Option Tmp} {a : AV} {j : Nat} (h : ∀ d, dst = some d → d ∉ ((ops[j]?).bind (·.dst)).toList) : gv n ops (setE n env dst a) j = gv n ops env j := by
  unfold gv
  cases hd : (ops[j]?).bind (·.dst) with
  | none => rfl
  | some e =>
    rw [hd] at h
    simp only
    have := ev_set (n := n) (env := env) (a := a) (dst := dst) (x := .tmp e) (fun d hd he => h d hd (by injection he with he; subst he; simp))
    simp only [ev0] at this
    rw [this]
theorem GS_congr {o : Oper} {i : Nat} {env : Env} {dst : Option Tmp} {a : AV} {x : AV} {V' H' : AH} (h : ∀ d, dst = some d → d ∉ looks P ops o) : GS P n b ops o i (setE n env dst a) V H x V' H' ↔ GS P n b ops o i env V H x V' H' := by
  have h1 : ∀ d, dst = some d → d ∉ tmpsIn (clsXs (cls P o.op)) := fun d hd hm => h d hd (List.mem_append_left _ hm)
  unfold GS
  cases hg : o.guard with
  | none => exact CS_congr h1
  | some g =>
    obtain ⟨j, want⟩ := g
    have h2 : gv n ops (setE n env dst a) j = gv n ops env j := gv_set fun d hd hm => h d hd (List.mem_append_right _ (by rw [hg]; exact hm))
    simp only [h2, CS_congr h1]
theorem CS_zero {fw : Option (Option Nat × Option Nat) × List Nat} {id : Nat} {o : Op} {env : Env} {x : AV} {V' H' : AH} (hc : catOf P ops o = 0) (h : CS P b fw V id o env H x V' H') : V' = V ∧ H' = H ∧ ∀ V2 H2, CS P b fw V2 id o env H2 x V2 H2 := by
  unfold CS at h ⊢
  unfold catOf at hc
  cases hcl : cls P o with
  | mv y => rw [hcl] at h; exact ⟨h.2.1, h.2.2, fun _ _ => ⟨h.1, rfl, rfl⟩⟩
  | pu po xs => rw [hcl] at h; exact ⟨h.2.1, h.2.2, fun _ _ => ⟨h.1, rfl, rfl⟩⟩
  | rd ro xs => rw [hcl] at hc; cases hc
  | al ao xs => rw [hcl] at hc; cases hc
  | wr wo xs => rw [hcl] at hc; dsimp only at hc; cases hf : (freshW P ops o).isSome <;> cases hsr : srcsOf P ops o <;> rw [hf] at hc <;> simp [hsr] at hc
  | ca f xs => rw [hcl] at hc; dsimp only at hc; split at hc <;> cases hc
  | nd no xs => rw [hcl] at hc; cases hc
  | bad => rw [hcl] at hc; cases hc
theorem apE_one {i : Nat} {o' : AO} : ∀ (e : List (Nat × AO)) (H : AH), (∀ p ∈ e, p.1 ≠ i) → apE e (H.put i o') = (apE e H).put i o'
  | [], H, _ => rfl
  | (j, o) :: r, H, h => by
    have hi : j ≠ i := h (j, o) (by simp)
    simp only [apE]
    rw [← apE_one r (H.put j o) fun p hp => h p (by simp [hp])]
    congr 1
    simp only [AH.put, lput_comm hi]
theorem apE_comm : ∀ (e f : List (Nat × AO)) (H : AH), (∀ p ∈ e, ∀ q ∈ f, p.1 ≠ q.1) → apE f (apE e H) = apE e (apE f H)
  | [], f, H, _ => rfl
  | (i, o) :: e, f, H, h => by
    simp only [apE]
    rw [apE_comm e f _ fun a ha q hq => h a (by simp [ha]) q hq]
    congr 1
    exact apE_one f H fun q hq e => h (i, o) (by simp) q hq e.symm
theorem ElF.local {src : Option Nat} {sz : Nat} {x : AV} {ys : List (List AV)} {H2 : AH} (h : ElF V H src sz x ys) (hg : ∀ i, src = some i → H2.get i = H.get i) : ElF V H2 src sz x ys := by
  cases h with
  | old x ys h => exact .old x ys h
  | new i off n t es hs hi hn => exact .new i off n t es hs (by rw [hg i hs]; exact hi) hn
/-- what it does hangs on what it touches alone -/
theorem wrF_local {tgt src : Option Nat} {id : Nat} {wo : WO} {args : List AV} {a : AV} {H' : AH} (h : WrFR V tgt src id wo args H a H') : ∃ e : List (Nat × AO), (∀ p ∈ e, p.1 = id ∨ tgt = some p.1) ∧ H' = apE e H ∧
    ∀ H2 : AH, (∀ i, i = id ∨ tgt = some i ∨ src = some i → H2.get i = H.get i) → WrFR V tgt src id wo args H2 a (apE e H2) := by
  cases h with
  | st n i off t cs a _ h1 h2 h3 h4 h5 h6 => exact ⟨[(i, .box t (cs.take off ++ a.cells ++ cs.drop (off + n)))], by simp [h1], rfl, fun H2 hg => .st n i off t cs a H2 h1 h2 (by rw [hg i (.inr (.inl h1))]; exact h3) h4 h5 h6⟩
  | app_row t sz bytes r off n es ys x _ h1 h2 h3 h4 h5 h6 h7 => exact ⟨[(r, .dead), (id, .row t sz ((es.drop off).take n ++ ys))], by simp [h1], rfl, fun H2 hg => .app_row t sz bytes r off n es ys x H2 h1 h2 (by rw [hg r (.inr (.inl h1))]; exact h3) h4 (h5.local fun i hi => hg i (.inr (.inr hi))) h6 h7⟩
  | app_nil t sz bytes ys x _ h1 h2 h3 h4 => exact ⟨[(id, .row t sz ys)], by simp, rfl, fun H2 hg => .app_nil t sz bytes ys x H2 h1 (h2.local fun i hi => hg i (.inr (.inr hi))) h3 h4⟩
theorem plusB_mem {t : Option Nat} {i : Nat} (h : plusB b t = some i) : ∃ j, t = some j ∧ i = b + j := by
  cases t with
  | none => cases h
  | some j => injection h with h; exact ⟨j, rfl, h.symm⟩
theorem CS_one {i : Nat} {o : Op} {env : Env} {x : AV} {V' H' : AH} (hc : catOf P ops o = 1) (h : CS P b (freshW P ops o, srcsOf P ops o) V (b + i) o env H x V' H') : V' = V ∧ ∃ e : List (Nat × AO), (∀ p ∈ e, ∃ k ∈ touch P ops o i, p.1 = b + k) ∧ H' = apE e H ∧
    ∀ H2 : AH, (∀ k ∈ touch P ops o i, H2.get (b + k) = H.get (b + k)) → CS P b (freshW P ops o, srcsOf P ops o) V (b + i) o env H2 x V (apE e H2) := by
  unfold CS at h ⊢
  unfold catOf at hc
  unfold touch
  cases hcl : cls P o with
  | mv y => rw [hcl] at hc; cases hc
  | pu po xs => rw [hcl] at hc; cases hc
  | rd ro xs =>
    rw [hcl] at h
    refine ⟨h.2.1, [], by simp, h.2.2, fun H2 hg => ⟨?_, rfl, rfl⟩⟩
    dsimp only at hg ⊢
    rw [mixV_congr (H := H) (H2 := H2) _ fun k hk => by obtain ⟨j, hj, rfl⟩ := List.mem_map.1 hk; exact hg j hj]; exact h.1
  | al ao xs => rw [hcl] at h; obtain ⟨o', h1, h2, h3⟩ := h; exact ⟨h2, [(b + i, o')], by simp, h3, fun _ _ => ⟨o', h1, rfl, rfl⟩⟩
  | wr wo xs =>
    rw [hcl] at h hc
    dsimp only at h hc ⊢
    cases hf : freshW P ops o with
    | none => cases hsr : srcsOf P ops o <;> rw [hf] at hc <;> simp [hsr] at hc
    | some f =>
      obtain ⟨tg, sr⟩ := f
      rw [hf] at h
      obtain ⟨h1, h2⟩ := h
      obtain ⟨e, q1, q2, q3⟩ := wrF_local h1
      refine ⟨h2, e, fun p hp => ?_, q2, fun H2 hg => ⟨q3 H2 fun k hk => ?_, rfl⟩⟩
      · rcases q1 p hp with h | h
        · exact ⟨i, by simp, h⟩
        · obtain ⟨j, hj, h⟩ := plusB_mem h; exact ⟨j, by simp [hj], h⟩
      · rcases hk with rfl | hk | hk
        · exact hg i (by simp)
        · obtain ⟨j, rfl, rfl⟩ := plusB_mem hk; exact hg j (by simp)
        · obtain ⟨j, rfl, rfl⟩ := plusB_mem hk; exact hg j (by simp)
  | ca f xs =>
    rw [hcl] at h
    dsimp only at h ⊢
    cases hfw : freshW P ops o with
    | some q =>
      obtain ⟨q1, q2⟩ := q
      cases q1 with
      | some q1 => rw [hcl] at hc; dsimp only at hc; rw [hfw] at hc; cases q2 <;> cases hc
      | none =>
      rw [hfw] at h
      obtain ⟨⟨g, first, cap, t, sz, es, h1, h2, h0, h3, h6, h4⟩, h5⟩ := h
      refine ⟨h5, [(b + i, .row t sz es)], by simp, h4, fun H2 hg => ?_⟩
      dsimp only at hg ⊢
      refine ⟨⟨g, first, cap, t, sz, es, h1, h2, h0, ?_, h6, rfl⟩, rfl⟩
      rw [mixV_congr (H := H) (H2 := H2) _ fun k hk => by obtain ⟨j, hj, rfl⟩ := List.mem_map.1 hk; exact hg j (by simp [hj])]; exact h3
    | none =>
    rw [hfw] at h
    obtain ⟨⟨g, first, cap, fz, h1, h2, h0, h3, h4⟩, h5⟩ := h
    have hin : ∀ i ∈ fz, ∃ k ∈ srcsOf P ops o, i = b + k := fun i hi => by obtain ⟨k, hk, e⟩ := List.mem_map.1 (h0 i hi).1; exact ⟨k, hk, e.symm⟩
    refine ⟨h5, frzE H fz, fun p hp => by obtain ⟨k, hk, e⟩ := hin _ (frzE_in hp).1; exact ⟨k, by simp [hk], e⟩, h4, fun H2 hg => ?_⟩
    dsimp only at hg ⊢
    have hsame : ∀ i ∈ fz, H2.get i = H.get i := fun i hi => by obtain ⟨k, hk, rfl⟩ := hin i hi; exact hg k (by simp [hk])
    have hE := frzE_same hsame
    refine ⟨⟨g, first, cap, fz, h1, h2, fun i hi => ⟨(h0 i hi).1, (h0 i hi).2.1, by rw [hsame i hi]; exact (h0 i hi).2.2⟩, ?_, by rw [frzL, hE]⟩, rfl⟩
    rw [mixV_congr (H := frzL H fz) (H2 := frzL H2 fz) _ fun k hk => by
      obtain ⟨j, hj, rfl⟩ := List.mem_map.1 hk
      rw [frzL, frzL, hE]
      exact apE_same _ _ _ (hg j (by simp [hj]))]
    exact h3
  | nd no xs => rw [hcl] at hc; cases hc
  | bad => rw [hcl] at hc; cases hc
theorem GS_zero {o : Oper} {i : Nat} {env : Env} {x : AV} {V' H' : AH} (hc : catOf P ops o.op = 0) (h : GS P n b ops o i env V H x V' H') : V' = V ∧ H' = H ∧ ∀ V2 H2, GS P n b ops o i env V2 H2 x V2 H2 := by
  unfold GS at h ⊢
  cases hg : o.guard with
  | none => rw [hg] at h; exact CS_zero hc h
  | some g =>
    rw [hg] at h
    obtain ⟨c, h0, h1, h2⟩ := h
    by_cases hw : c = some g.2
    · obtain ⟨q1, q2, q3⟩ := CS_zero hc (h1 hw)
      exact ⟨q1, q2, fun V2 H2 => ⟨c, h0, fun _ => q3 V2 H2, fun h => absurd hw h⟩⟩
    · obtain ⟨q1, q2, q3⟩ := h2 hw
      exact ⟨q2, q3, fun V2 H2 => ⟨c, h0, fun h => absurd h hw, fun _ => ⟨q1, rfl, rfl⟩⟩⟩
theorem GS_one {o : Oper} {i : Nat} {env : Env} {x : AV} {V' H' : AH} (hc : catOf P ops o.op = 1) (h : GS P n b ops o i env V H x V' H') : V' = V ∧ ∃ e : List (Nat × AO), (∀ p ∈ e, ∃ k ∈ touch P ops o.op i, p.1 = b + k) ∧ H' = apE e H ∧
    ∀ H2 : AH, (∀ k ∈ touch P ops o.op i, H2.get (b + k) = H.get (b + k)) → GS P n b ops o i env V H2 x V (apE e H2) := by
  unfold GS at h ⊢
  cases hg : o.guard with
  | none => rw [hg] at h; exact CS_one hc h
  | some g =>
    rw [hg] at h
    obtain ⟨c, h0, h1, h2⟩ := h
    by_cases hw : c = some g.2
    · obtain ⟨q1, e, q2, q3, q4⟩ := CS_one hc (h1 hw)
      exact ⟨q1, e, q2, q3, fun H2 hg => ⟨c, h0, fun _ => q4 H2 hg, fun h => absurd hw h⟩⟩
    · obtain ⟨q1, q2, q3⟩ := h2 hw
      exact ⟨q2, [], by simp, q3, fun H2 _ => ⟨c, h0, fun h => absurd h hw, fun _ => ⟨q1, rfl, rfl⟩⟩⟩
/-- a call that writes to what was there before -/
theorem CS_three {i : Nat} {o : Op} {env : Env} {x : AV} {V' H' : AH} (hc : catOf P ops o = 3) (h : CS P b (freshW P ops o, srcsOf P ops o) V (b + i) o env H x V' H') : ∃ e0 e : List (Nat × AO), V' = apE e0 V ∧ H' = apE e H ∧ (∀ p ∈ e, p.1 < b ∨ ∃ k ∈ touch P ops o i, p.1 = b + k) ∧
    ∀ H2 : AH, (∀ id, id < b ∨ (∃ k ∈ touch P ops o i, id = b + k) → H2.get id = H.get id) → CS P b (freshW P ops o, srcsOf P ops o) V (b + i) o env H2 x V' (apE e H2) := by
  unfold CS at h ⊢
  unfold catOf at hc
  unfold touch
  cases hcl : cls P o with
  | mv y => rw [hcl] at hc; cases hc
  | pu po xs => rw [hcl] at hc; cases hc
  | rd ro xs => rw [hcl] at hc; cases hc
  | al ao xs => rw [hcl] at hc; cases hc
  | wr wo xs => rw [hcl] at hc; dsimp only at hc; cases hf : (freshW P ops o).isSome <;> cases hsr : srcsOf P ops o <;> rw [hf] at hc <;> simp [hsr] at hc
  | ca f xs =>
    rw [hcl] at h hc
    dsimp only at h hc ⊢
    split at hc <;> try (cases hc; done)
    rename_i q1 hfw
    rw [hfw] at h ⊢
    dsimp only at h ⊢
    obtain ⟨g, first, cap, fz, e0, h1, h2, h3, h4, h5, h6, h7⟩ := h
    have hin : ∀ i ∈ fz, ∃ k ∈ srcsOf P ops o, i = b + k := fun i hi => by obtain ⟨k, hk, e⟩ := List.mem_map.1 (h3 i hi).1; exact ⟨k, hk, e.symm⟩
    have happ : ∀ (e f : List (Nat × AO)) (H : AH), apE f (apE e H) = apE (e ++ f) H := fun e => by
      induction e with
      | nil => exact fun _ _ => rfl
      | cons p e ih => exact fun f H => ih f _
    refine ⟨e0, frzE H fz ++ e0, h6, by rw [h7, frzL, happ], fun p hp => ?_, fun H2 hg => ?_⟩
    · rcases List.mem_append.1 hp with hp | hp
      · obtain ⟨k, hk, e⟩ := hin _ (frzE_in hp).1; exact .inr ⟨k, by simp [hk], e⟩
      · exact .inl (h4 p hp)
    · have hsame : ∀ i ∈ fz, H2.get i = H.get i := fun i hi => by obtain ⟨k, hk, rfl⟩ := hin i hi; exact hg _ (.inr ⟨k, by simp [hk], rfl⟩)
      have hE := frzE_same hsame
      refine ⟨g, first, cap, fz, e0, h1, h2, fun i hi => ⟨(h3 i hi).1, (h3 i hi).2.1, by rw [hsame i hi]; exact (h3 i hi).2.2⟩, h4, fun H3 h => h5 H3 fun id hid => ?_, h6, by rw [frzL, hE, happ]⟩
      rw [h id hid, frzL, frzL, hE]
      refine apE_same _ _ _ (hg id ?_)
      rcases hid with hid | hid
      · exact .inl hid
      · obtain ⟨j, hj, rfl⟩ := List.mem_map.1 hid; exact .inr ⟨j, by simp [hj], rfl⟩
  | nd no xs => rw [hcl] at hc; cases hc
  | bad => rw [hcl] at hc; cases hc
theorem wrO_local {src : Option Nat} {id : Nat} {wo : WO} {args : List AV} {a : AV} {H' : AH} (h : WrOR V b src id wo args H a H') : ∃ e : List (Nat × AO), (∀ p ∈ e, p.1 < b ∨ p.1 = id) ∧ H' = apE e H ∧
    ∀ H2 : AH, (∀ i, i < b ∨ src = some i → H2.get i = H.get i) → WrOR V b src id wo args H2 a (apE e H2) := by
  cases h with
  | st n i off t cs a _ h1 h2 h3 h4 h5 h6 => exact ⟨[(i, .box t (cs.take off ++ a.cells ++ cs.drop (off + n)))], by simp [h1], rfl, fun H2 hg => .st n i off t cs a H2 h1 h2 (by rw [hg i (.inl h1)]; exact h3) h4 h5 h6⟩
  | app_nil t sz bytes ys x _ h1 h2 h3 => exact ⟨[(id, .row t sz ys)], by simp, rfl, fun H2 hg => .app_nil t sz bytes ys x H2 (h1.local fun i hi => hg i (.inr hi)) h2 h3⟩
  | app_in t sz bytes r n c es ys x _ h1 h2 h3 h4 h5 h6 => exact ⟨[(r, .crow t sz c (es ++ ys))], by simp [h1], rfl, fun H2 hg => .app_in t sz bytes r n c es ys x H2 h1 h2 (by rw [hg r (.inl h1)]; exact h3) h4 (h5.local fun i hi => hg i (.inr hi)) h6⟩
  | app_out t sz bytes r n c es ys x _ h1 h3 h4 h5 h6 h7 h8 => exact ⟨[(id, .row t sz (es ++ ys))], by simp, rfl, fun H2 hg => .app_out t sz bytes r n c es ys x H2 h1 (by rw [hg r (.inl h1)]; exact h3) h4 (h5.local fun i hi => hg i (.inr hi)) h6 h7 h8⟩
  | app_own t sz bytes r n es ys x _ h1 h2 h3 h4 h5 h6 h7 => exact ⟨[(r, .dead), (id, .row t sz ((es.drop 0).take n ++ ys))], by simp [h1], rfl, fun H2 hg => .app_own t sz bytes r n es ys x H2 h1 h2 (by rw [hg r (.inl h1)]; exact h3) h4 (h5.local fun i hi => hg i (.inr hi)) h6 h7⟩
/-- a write to what was there before -/
theorem CS_five {i : Nat} {o : Op} {env : Env} {x : AV} {V' H' : AH} (hc : catOf P ops o = 5) (h : CS P b (freshW P ops o, srcsOf P ops o) V (b + i) o env H x V' H') : V' = V ∧ ∃ e : List (Nat × AO), (∀ p ∈ e, p.1 < b ∨ ∃ k ∈ touch P ops o i, p.1 = b + k) ∧ H' = apE e H ∧
    ∀ H2 : AH, (∀ id, id < b ∨ (∃ k ∈ touch P ops o i, id = b + k) → H2.get id = H.get id) → CS P b (freshW P ops o, srcsOf P ops o) V (b + i) o env H2 x V (apE e H2) := by
  unfold CS at h ⊢
  unfold catOf at hc
  cases hcl : cls P o with
  | mv y => rw [hcl] at hc; cases hc
  | pu po xs => rw [hcl] at hc; cases hc
  | rd ro xs => rw [hcl] at hc; cases hc
  | al ao xs => rw [hcl] at hc; cases hc
  | ca f xs => rw [hcl] at hc; dsimp only at hc; split at hc <;> cases hc
  | wr wo xs =>
    rw [hcl] at h hc
    dsimp only at h hc ⊢
    cases hf : freshW P ops o with
    | some f => rw [hf] at hc; simp at hc
    | none =>
      cases hsr : srcsOf P ops o with
      | nil => rw [hf, hsr] at hc; simp at hc
      | cons q1 q2 =>
        rw [hf, hsr] at h
        obtain ⟨h1, h2⟩ := h
        have htch : touch P ops o i = i :: q2 := by unfold touch; rw [hcl]; dsimp only; rw [hf]; dsimp only; rw [hsr]
        obtain ⟨e, g1, g2, g3⟩ := wrO_local h1
        refine ⟨h2, e, fun p hp => (g1 p hp).imp_right fun h => ⟨i, by rw [htch]; simp, h⟩, g2, fun H2 hg => ⟨g3 H2 (fun k hk => ?_), rfl⟩⟩
        rcases hk with hk | hk
        · exact hg k (.inl hk)
        · cases q2 with
          | nil => cases hk
          | cons q3 q4 => simp only [List.head?_cons, Option.map_some, Option.some.injEq] at hk; exact hg k (.inr ⟨q3, by rw [htch]; simp, hk.symm⟩)
  | nd no xs => rw [hcl] at hc; cases hc
  | bad => rw [hcl] at hc; cases hc
theorem GS_five {o : Oper} {i : Nat} {env : Env} {x : AV} {V' H' : AH} (hc : catOf P ops o.op = 5) (h : GS P n b ops o i env V H x V' H') : V' = V ∧ ∃ e : List (Nat × AO), (∀ p ∈ e, p.1 < b ∨ ∃ k ∈ touch P ops o.op i, p.1 = b + k) ∧ H' = apE e H ∧
    ∀ H2 : AH, (∀ id, id < b ∨ (∃ k ∈ touch P ops o.op i, id = b + k) → H2.get id = H.get id) → GS P n b ops o i env V H2 x V (apE e H2) := by
  unfold GS at h ⊢
  cases hg : o.guard with
  | none => rw [hg] at h; exact CS_five hc h
  | some g =>
    rw [hg] at h
    obtain ⟨c, h0, h1, h2⟩ := h
    by_cases hw : c = some g.2
    · obtain ⟨q1, e, q2, q3, q4⟩ := CS_five hc (h1 hw)
      exact ⟨q1, e, q2, q3, fun H2 hg => ⟨c, h0, fun _ => q4 H2 hg, fun h => absurd hw h⟩⟩
    · obtain ⟨q1, q2, q3⟩ := h2 hw
      exact ⟨q2, [], by simp, q3, fun H2 _ => ⟨c, h0, fun h => absurd h hw, fun _ => ⟨q1, rfl, rfl⟩⟩⟩
theorem GS_three {o : Oper} {i : Nat} {env : Env} {x : AV} {V' H' : AH} (hc : catOf P ops o.op = 3) (h : GS P n b ops o i env V H x V' H') : ∃ e0 e : List (Nat × AO), V' = apE e0 V ∧ H' = apE e H ∧ (∀ p ∈ e, p.1 < b ∨ ∃ k ∈ touch P ops o.op i, p.1 = b + k) ∧
    ∀ H2 : AH, (∀ id, id < b ∨ (∃ k ∈ touch P ops o.op i, id = b + k) → H2.get id = H.get id) → GS P n b ops o i env V H2 x V' (apE e H2) := by
  unfold GS at h ⊢
  cases hg : o.guard with
  | none => rw [hg] at h; exact CS_three hc h
  | some g =>
    rw [hg] at h
    obtain ⟨c, h0, h1, h2⟩ := h
    by_cases hw : c = some g.2
    · obtain ⟨e0, e, q1, q2, q3, q4⟩ := CS_three hc (h1 hw)
      exact ⟨e0, e, q1, q2, q3, fun H2 hg => ⟨c, h0, fun _ => q4 H2 hg, fun h => absurd hw h⟩⟩
    · obtain ⟨q1, q2, q3⟩ := h2 hw
      exact ⟨[], [], q2, q3, by simp, fun H2 _ => ⟨c, h0, fun h => absurd h hw, fun _ => ⟨q1, q2, rfl⟩⟩⟩
theorem GS_al {o : Oper} {i : Nat} {env : Env} {x : AV} {V' H' : AH} (hc : isAl P o.op = true) (h : GS P n b ops o i env V H x V' H') : V' = V ∧ ∃ e : List (Nat × AO), (∀ p ∈ e, p.1 = b + i) ∧ H' = apE e H ∧ (∀ V2 H2, GS P n b ops o i env V2 H2 x V2 (apE e H2)) ∧ touch P ops o.op i = [i] := by
  have hcs : ∀ {x V' H'}, CS P b (freshW P ops o.op, srcsOf P ops o.op) V (b + i) o.op env H x V' H' → V' = V ∧ ∃ e : List (Nat × AO), (∀ p ∈ e, p.1 = b + i) ∧ H' = apE e H ∧ (∀ V2 H2, CS P b (freshW P ops o.op, srcsOf P ops o.op) V2 (b + i) o.op env H2 x V2 (apE e H2)) := by
    intro x V' H' h
    unfold CS at h ⊢
    unfold isAl at hc
    cases hcl : cls P o.op with
    | al ao xs => rw [hcl] at h; obtain ⟨o', h1, h2, h3⟩ := h; exact ⟨h2, [(b + i, o')], by simp, h3, fun _ _ => ⟨o', h1, rfl, rfl⟩⟩
    | mv y => rw [hcl] at hc; cases hc
    | pu po xs => rw [hcl] at hc; cases hc
    | rd ro xs => rw [hcl] at hc; cases hc
    | wr wo xs => rw [hcl] at hc; cases hc
    | ca f xs => rw [hcl] at hc; cases hc
    | nd no xs => rw [hcl] at hc; cases hc
    | bad => rw [hcl] at hc; cases hc
  have ht : touch P ops o.op i = [i] := by
    unfold touch
    unfold isAl at hc
    cases hcl : cls P o.op with
    | al ao xs => rfl
    | mv y => rw [hcl] at hc; cases hc
    | pu po xs => rw [hcl] at hc; cases hc
    | rd ro xs => rw [hcl] at hc; cases hc
    | wr wo xs => rw [hcl] at hc; cases hc
    | ca f xs => rw [hcl] at hc; cases hc
    | nd no xs => rw [hcl] at hc; cases hc
    | bad => rw [hcl] at hc; cases hc
  unfold GS at h ⊢
  cases hg : o.guard with
  | none =>
    rw [hg] at h
    obtain ⟨q1, e, q2, q3, q4⟩ := hcs h
    exact ⟨q1, e, q2, q3, q4, ht⟩
  | some g =>
    rw [hg] at h
    obtain ⟨c, h0, h1, h2⟩ := h
    by_cases hw : c = some g.2
    · obtain ⟨q1, e, q2, q3, q4⟩ := hcs (h1 hw)
      exact ⟨q1, e, q2, q3, fun V2 H2 => ⟨c, h0, fun _ => q4 V2 H2, fun h => absurd hw h⟩, ht⟩
    · obtain ⟨q1, q2, q3⟩ := h2 hw
      exact ⟨q2, [], by simp, q3, fun V2 H2 => ⟨c, h0, fun h => absurd h hw, fun _ => ⟨q1, rfl, rfl⟩⟩, ht⟩
theorem setE_comm {env : Env} {d e : Option Tmp} {x y : AV} (h : ∀ t, d = some t → e ≠ some t) : setE n (setE n env d x) e y = setE n (setE n env e y) d x := by
  cases d with
  | none => rfl
  | some d =>
    cases e with
    | none => rfl
    | some e =>
      have hne : d ≠ e := fun q => h d rfl (by rw [q])
      simp only [setE]
      cases Nat.blt d n <;> cases Nat.blt e n <;> simp only [cond_true, cond_false]
      funext t
      by_cases h1 : t = d
      · subst h1
        rw [show Nat.beq t t = true from Nat.beq_refl t, show Nat.beq t e = false from by rw [Bool.eq_false_iff]; exact fun q => hne (Nat.eq_of_beq_eq_true q)]
        rfl
      · rw [show Nat.beq t d = false from by rw [Bool.eq_false_iff]; exact fun q => h1 (Nat.eq_of_beq_eq_true q)]
        rfl
theorem indep_spec {x y : Oper} {i j : Nat} (h : indep P ops x y i j = true) : (∀ d, x.dst = some d → d ∉ looks P ops y) ∧ (∀ d, x.dst = some d → y.dst ≠ some d) ∧ (∀ d, y.dst = some d → d ∉ looks P ops x) ∧
    (catOf P ops x.op ≠ 7 ∧ (catOf P ops y.op ≠ 7 ∨ catOf P ops x.op = 0 ∨ (keptC P ops y.op = true ∧ quietR P ops x.op = true))) ∧ ((keptC P ops y.op = true ∧ quietR P ops x.op = true) ∨ catOf P ops x.op = 0 ∨ catOf P ops y.op = 0 ∨ (catOf P ops x.op = 1 ∧ catOf P ops y.op = 1 ∧ ∀ k ∈ touch P ops x.op i, k ∉ touch P ops y.op j) ∨
      (catOf P ops x.op = 3 ∧ isAl P y.op = true ∧ ∀ k ∈ touch P ops x.op i, k ∉ touch P ops y.op j) ∨ (isAl P x.op = true ∧ catOf P ops y.op = 3 ∧ ∀ k ∈ touch P ops x.op i, k ∉ touch P ops y.op j) ∨
      (catOf P ops x.op = 5 ∧ catOf P ops y.op = 1 ∧ ∀ k ∈ touch P ops x.op i, k ∉ touch P ops y.op j) ∨ (catOf P ops x.op = 1 ∧ catOf P ops y.op = 5 ∧ ∀ k ∈ touch P ops x.op i, k ∉ touch P ops y.op j)) := by
  unfold indep at h
  simp only [Bool.and_eq_true, Bool.or_eq_true, beq_iff_eq, Bool.not_eq_true', beq_eq_false_iff_ne] at h
  obtain ⟨⟨⟨h1, h2⟩, h7⟩, h3⟩ := h
  have h7 : catOf P ops x.op ≠ 7 ∧ (catOf P ops y.op ≠ 7 ∨ catOf P ops x.op = 0 ∨ (keptC P ops y.op = true ∧ quietR P ops x.op = true)) := ⟨h7.1, h7.2.elim (fun h => h.elim .inl (fun h => .inr (.inl h))) (fun h => .inr (.inr h))⟩
  have dj : ∀ {a b : List Nat}, disj a b = true → ∀ k ∈ a, k ∉ b := fun h k hk hk' => by
    have := List.all_eq_true.1 h k hk
    simp at this
    exact this hk'
  refine ⟨fun d hd => ?_, fun d hd => ?_, fun d hd => ?_, h7, by
    rcases h3 with ((((((h3 | h3) | h3) | h3) | h3) | h3) | h3) | h3
    · exact .inl h3
    · exact .inr (.inl h3)
    · exact .inr (.inr (.inl h3))
    · exact .inr (.inr (.inr (.inl ⟨h3.1.1, h3.1.2, dj h3.2⟩)))
    · exact .inr (.inr (.inr (.inr (.inl ⟨h3.1.1, h3.1.2, dj h3.2⟩))))
    · exact .inr (.inr (.inr (.inr (.inr (.inl ⟨h3.1.1, h3.1.2, dj h3.2⟩)))))
    · exact .inr (.inr (.inr (.inr (.inr (.inr (.inl ⟨h3.1.1, h3.1.2, dj h3.2⟩))))))
    · exact .inr (.inr (.inr (.inr (.inr (.inr (.inr ⟨h3.1.1, h3.1.2, dj h3.2⟩))))))⟩
  · rw [hd] at h1; simp at h1; exact h1.1
  · rw [hd] at h1; simp at h1; exact h1.2
  · rw [hd] at h2; simp at h2; exact h2
theorem cat_seven {o : Op} (h : catOf P ops o = 7) : ∃ f xs a d, cls P o = .ca f xs ∧ freshW P ops o = some (some a, some d) := by
  unfold catOf at h
  cases hcl : cls P o with
  | mv y => rw [hcl] at h; cases h
  | pu po xs => rw [hcl] at h; cases h
  | rd ro xs => rw [hcl] at h; cases h
  | al ao xs => rw [hcl] at h; cases h
  | wr wo xs => rw [hcl] at h; dsimp only at h; cases hf : (freshW P ops o).isSome <;> cases hsr : srcsOf P ops o <;> rw [hf] at h <;> simp [hsr] at h
  | nd no xs => rw [hcl] at h; cases h
  | bad => rw [hcl] at h; cases h
  | ca f xs =>
    rw [hcl] at h
    dsimp only at h
    split at h
    · cases h
    · rename_i a d hf; exact ⟨f, xs, a, d, rfl, hf⟩
    · cases h
/-- a call of any kind, and what looks at no memory ahead of it -/
theorem stepV_swap7 {x y : Oper} {i j : Nat} {env : Env} {k : Env → AH → AH → Prop} (h0 : catOf P ops x.op = 0) (h7 : catOf P ops y.op = 7)
    (a1 : ∀ d, x.dst = some d → d ∉ looks P ops y) (a2 : ∀ d, x.dst = some d → y.dst ≠ some d) (a3 : ∀ d, y.dst = some d → d ∉ looks P ops x)
    (h : stepV P n b ops x i env V (fun env' V' H' => stepV P n b ops y j env' V' k H') H) : stepV P n b ops y j env V (fun env' V' H' => stepV P n b ops x i env' V' k H') H := by
  have l1 : noLast (freshW P ops x.op) (cls P x.op) := noLast_of (by rw [h0]; decide)
  rw [stepV_iff l1] at h
  obtain ⟨u, V1, H1, g1, h⟩ := h
  obtain ⟨rfl, rfl, q⟩ := GS_zero h0 g1
  obtain ⟨f, xs, a, d, hc, hf⟩ := cat_seven h7
  have hk : ∀ v V' H', k (setE n (setE n env x.dst u) y.dst v) V' H' → stepV P n b ops x i (setE n env y.dst v) V' k H' := fun v V' H' hh => by
    rw [setE_comm a2] at hh
    exact (stepV_iff l1).2 ⟨u, V', H', (GS_congr a3).2 (q V' H'), hh⟩
  have h1 : ∀ d, x.dst = some d → d ∉ tmpsIn (clsXs (cls P y.op)) := fun d hd hm => a1 d hd (List.mem_append_left _ hm)
  have core : coreV P b (freshW P ops y.op, srcsOf P ops y.op) V1 (b + j) y.op (setE n env x.dst u) (fun a => k (setE n (setE n env x.dst u) y.dst a)) H1 → coreV P b (freshW P ops y.op, srcsOf P ops y.op) V1 (b + j) y.op env (fun a V' H' => stepV P n b ops x i (setE n env y.dst a) V' k H') H1 := by
    intro h
    unfold coreV at h ⊢
    rw [hc] at h h1 ⊢
    rw [hf] at h ⊢
    have hev := evs_set (n := n) (env := env) (a := u) h1
    simp only [clsXs, List.map_cons, List.cons.injEq] at hev
    dsimp only at h ⊢
    rw [hev.1, hev.2] at h
    cases a with
    | zero =>
      obtain ⟨g, first, cap, Q, q1, q2, q3, q4⟩ := h
      exact ⟨g, first, cap, Q, q1, q2, q3, fun r H' s q => hk r H' H' (q4 r H' s q)⟩
    | succ a =>
      obtain ⟨g, first, cap, Q, q1, q2, q3, q4⟩ := h
      exact ⟨g, first, cap, Q, q1, q2, q3, fun r H' s q => ⟨(q4 r H' s q).1, hk r _ H' (q4 r H' s q).2⟩⟩
  unfold stepV at h ⊢
  cases hg : y.guard with
  | none => rw [hg] at h; exact core h
  | some g =>
    obtain ⟨j', want⟩ := g
    rw [hg] at h
    have h2 : gv n ops (setE n env x.dst u) j' = gv n ops env j' := gv_set fun d hd hm => a1 d hd (List.mem_append_right _ (by rw [hg]; exact hm))
    obtain ⟨c, k1, k2, k3⟩ := h
    rw [h2] at k1
    exact ⟨c, k1, fun hw => core (k2 hw), fun hw => hk _ _ _ (k3 hw)⟩
theorem quiet_spec {o : Op} (h : quietR P ops o = true) {i : Nat} {env : Env} {x : AV} {V' H' : AH} (hc : CS P b (freshW P ops o, srcsOf P ops o) V (b + i) o env H x V' H') : V' = V ∧ H' = H ∧ ∀ H2, CS P b (freshW P ops o, srcsOf P ops o) V (b + i) o env H2 x V H2 := by
  unfold quietR at h
  unfold CS at hc ⊢
  cases hcl : cls P o with
  | mv y => rw [hcl] at h; cases h
  | pu po xs => rw [hcl] at h; cases h
  | al ao xs => rw [hcl] at h; cases h
  | wr wo xs => rw [hcl] at h; cases h
  | nd no xs => rw [hcl] at h; cases h
  | bad => rw [hcl] at h; cases h
  | rd ro xs =>
    rw [hcl] at h hc
    have hs : srcsOf P ops o = [] := by unfold srcsOf; rw [hcl]; exact List.isEmpty_iff.1 h
    dsimp only at hc ⊢
    rw [hs] at hc ⊢
    exact ⟨hc.2.1, hc.2.2, fun H2 => ⟨hc.1, rfl, rfl⟩⟩
  | ca f xs =>
    rw [hcl] at h hc
    simp only [Bool.and_eq_true, Bool.not_eq_true'] at h
    obtain ⟨⟨⟨h1, h2⟩, h3⟩, h4⟩ := h
    have hs : srcsOf P ops o = [] := by unfold srcsOf; rw [hcl]; exact List.isEmpty_iff.1 h4
    have hk : keepC P ops o = true ∨ freshW P ops o = none := by
      unfold freshW; rw [hcl]; dsimp only; rw [h1, h2, h3]; cases keepC P ops o <;> simp
    dsimp only at hc ⊢
    rcases hk with hk | hk
    · exfalso
      have : freshW P ops o = some (some 1, some 1) := by unfold freshW; rw [hcl]; dsimp only; rw [h1, h3, hk]; rfl
      rw [this] at hc
      exact hc
    · rw [hk, hs] at hc ⊢
      obtain ⟨⟨g, first, cap, fz, g1, g2, g0, g3, g4⟩, g5⟩ := hc
      have hz : fz = [] := List.eq_nil_iff_forall_not_mem.2 fun i hi => by have := (g0 i hi).1; cases this
      subst hz
      exact ⟨g5, g4, fun H2 => ⟨⟨g, first, cap, [], g1, g2, by simp, g3, rfl⟩, rfl⟩⟩
theorem quiet_GS {o : Oper} (h : quietR P ops o.op = true) {i : Nat} {env : Env} {x : AV} {V' H' : AH} (hc : GS P n b ops o i env V H x V' H') : V' = V ∧ H' = H ∧ ∀ H2, GS P n b ops o i env V H2 x V H2 := by
  unfold GS at hc ⊢
  cases hg : o.guard with
  | none => rw [hg] at hc; exact quiet_spec h hc
  | some g =>
    rw [hg] at hc
    obtain ⟨c, h0, h1, h2⟩ := hc
    by_cases hw : c = some g.2
    · obtain ⟨q1, q2, q3⟩ := quiet_spec h (h1 hw)
      exact ⟨q1, q2, fun H2 => ⟨c, h0, fun _ => q3 H2, fun h => absurd hw h⟩⟩
    · obtain ⟨q1, q2, q3⟩ := h2 hw
      exact ⟨q2, q3, fun H2 => ⟨c, h0, fun h => absurd h hw, fun _ => ⟨q1, rfl, rfl⟩⟩⟩
theorem kept_spec {o : Op} (h : keptC P ops o = true) : ∃ f xs a d, cls P o = .ca f xs ∧ freshW P ops o = some (some (a + 1), some d) := by
  unfold keptC at h
  split at h
  · rename_i f xs a d hc hf; exact ⟨f, xs, a, d, hc, hf⟩
  · cases h
/-- a call that keeps what is read, and what reads ahead of it -/
theorem stepV_swap8 {x y : Oper} {i j : Nat} {env : Env} {k : Env → AH → AH → Prop} (l1 : catOf P ops x.op ≠ 7) (h0 : quietR P ops x.op = true) (h7 : keptC P ops y.op = true)
    (a1 : ∀ d, x.dst = some d → d ∉ looks P ops y) (a2 : ∀ d, x.dst = some d → y.dst ≠ some d) (a3 : ∀ d, y.dst = some d → d ∉ looks P ops x)
    (h : stepV P n b ops x i env V (fun env' V' H' => stepV P n b ops y j env' V' k H') H) : stepV P n b ops y j env V (fun env' V' H' => stepV P n b ops x i env' V' k H') H := by
  have l1 := noLast_of l1
  rw [stepV_iff l1] at h
  obtain ⟨u, V1, H1, g1, h⟩ := h
  obtain ⟨rfl, rfl, q⟩ := quiet_GS h0 g1
  obtain ⟨f, xs, a, d, hc, hf⟩ := kept_spec h7
  have hk : ∀ v H', k (setE n (setE n env x.dst u) y.dst v) V1 H' → stepV P n b ops x i (setE n env y.dst v) V1 k H' := fun v H' hh => by
    rw [setE_comm a2] at hh
    exact (stepV_iff l1).2 ⟨u, V1, H', (GS_congr a3).2 (q H'), hh⟩
  have h1 : ∀ d, x.dst = some d → d ∉ tmpsIn (clsXs (cls P y.op)) := fun d hd hm => a1 d hd (List.mem_append_left _ hm)
  have core : coreV P b (freshW P ops y.op, srcsOf P ops y.op) V1 (b + j) y.op (setE n env x.dst u) (fun a => k (setE n (setE n env x.dst u) y.dst a)) H1 → coreV P b (freshW P ops y.op, srcsOf P ops y.op) V1 (b + j) y.op env (fun a V' H' => stepV P n b ops x i (setE n env y.dst a) V' k H') H1 := by
    intro h
    unfold coreV at h ⊢
    rw [hc] at h h1 ⊢
    rw [hf] at h ⊢
    have hev := evs_set (n := n) (env := env) (a := u) h1
    simp only [clsXs, List.map_cons, List.cons.injEq] at hev
    dsimp only at h ⊢
    rw [hev.1, hev.2] at h
    obtain ⟨g, first, cap, Q, q1, q2, q3, q4⟩ := h
    exact ⟨g, first, cap, Q, q1, q2, q3, fun r H' s q => ⟨(q4 r H' s q).1, hk r H' (q4 r H' s q).2⟩⟩
  unfold stepV at h ⊢
  cases hg : y.guard with
  | none => rw [hg] at h; exact core h
  | some g =>
    obtain ⟨j', want⟩ := g
    rw [hg] at h
    have h2 : gv n ops (setE n env x.dst u) j' = gv n ops env j' := gv_set fun d hd hm => a1 d hd (List.mem_append_right _ (by rw [hg]; exact hm))
    obtain ⟨c, k1, k2, k3⟩ := h
    rw [h2] at k1
    exact ⟨c, k1, fun hw => core (k2 hw), fun hw => hk _ _ (k3 hw)⟩
/-- two operations change places -/
theorem stepV_swap {x y : Oper} {i j : Nat} {env : Env} {k : Env → AH → AH → Prop} (hi : indep P ops x y i j = true)
    (h : stepV P n b ops x i env V (fun env' V' H' => stepV P n b ops y j env' V' k H') H) : stepV P n b ops y j env V (fun env' V' H' => stepV P n b ops x i env' V' k H') H := by
  obtain ⟨a1, a2, a3, ⟨l1, l2⟩, a4⟩ := indep_spec hi
  by_cases h8 : keptC P ops y.op = true ∧ quietR P ops x.op = true
  · exact stepV_swap8 l1 h8.2 h8.1 a1 a2 a3 h
  by_cases h7 : catOf P ops y.op = 7
  · exact stepV_swap7 (l2.elim (fun h => absurd h7 h) (fun h => h.elim id (fun h => absurd h h8))) h7 a1 a2 a3 h
  have l1 := noLast_of l1
  have l2 : noLast (freshW P ops y.op) (cls P y.op) := noLast_of h7
  rw [stepV_iff l1] at h
  rw [stepV_iff l2]
  obtain ⟨u, V1, H1, g1, h⟩ := h
  rw [stepV_iff l2] at h
  obtain ⟨v, V2, H2, g2, h⟩ := h
  rw [GS_congr a1] at g2
  rw [setE_comm a2] at h
  have fin : ∀ V1' H1', GS P n b ops y j env V H v V1' H1' → GS P n b ops x i env V1' H1' u V2 H2 → ∃ x_1 V' H', GS P n b ops y j env V H x_1 V' H' ∧ stepV P n b ops x i (setE n env y.dst x_1) V' k H' := fun V1' H1' q1 q2 =>
    ⟨v, V1', H1', q1, (stepV_iff l1).2 ⟨u, V2, H2, (GS_congr a3).2 q2, h⟩⟩
  rcases a4 with a4 | a4 | a4 | ⟨a4, a5, a6⟩ | ⟨a4, a5, a6⟩ | ⟨a4, a5, a6⟩ | ⟨a4, a5, a6⟩ | ⟨a4, a5, a6⟩
  · exact absurd a4 h8
  · obtain ⟨rfl, rfl, q⟩ := GS_zero a4 g1
    exact fin V2 H2 g2 (q V2 H2)
  · obtain ⟨rfl, rfl, q⟩ := GS_zero a4 g2
    exact fin V H (q V H) g1
  · obtain ⟨rfl, e, e1, rfl, q1⟩ := GS_one a4 g1
    obtain ⟨rfl, f, f1, rfl, q2⟩ := GS_one a5 g2
    have hef : ∀ p ∈ e, ∀ q ∈ f, p.1 ≠ q.1 := fun p hp q hq h => by
      obtain ⟨k, hk, h1⟩ := e1 p hp
      obtain ⟨l, hl, h2⟩ := f1 q hq
      have : k = l := by omega
      subst this
      exact a6 k hk hl
    refine fin _ (apE f H) (q2 H fun k hk => (apE_get e H fun p hp h => ?_).symm) ?_
    · obtain ⟨l, hl, h1⟩ := e1 p hp
      have : l = k := by omega
      subst this
      exact a6 l hl hk
    · rw [apE_comm e f H hef]
      exact q1 _ fun k hk => apE_get f H fun p hp h => by
        obtain ⟨l, hl, h1⟩ := f1 p hp
        have : l = k := by omega
        subst this
        exact a6 l hk hl
  · obtain ⟨e0, e, rfl, rfl, e1, q1⟩ := GS_three a4 g1
    obtain ⟨rfl, f, f1, rfl, q2, ht⟩ := GS_al a5 g2
    have hef : ∀ p ∈ e, ∀ q ∈ f, p.1 ≠ q.1 := fun p hp q hq h => by
      have hq := f1 q hq
      rcases e1 p hp with h1 | ⟨k, hk, h1⟩
      · omega
      · have : k = j := by omega
        subst this
        exact a6 k hk (by rw [ht]; simp)
    refine fin V (apE f H) (q2 V H) ?_
    rw [apE_comm e f H hef]
    refine q1 _ fun id hid => apE_get f H fun p hp h => ?_
    have hp := f1 p hp
    rcases hid with hid | ⟨k, hk, hid⟩
    · omega
    · have : k = j := by omega
      subst this
      exact a6 k hk (by rw [ht]; simp)
  · obtain ⟨rfl, f, f1, rfl, q1, ht⟩ := GS_al a4 g1
    obtain ⟨e0, e, rfl, rfl, e1, q2⟩ := GS_three a5 g2
    have hni : i ∉ touch P ops y.op j := a6 i (by rw [ht]; simp)
    have hef : ∀ p ∈ f, ∀ q ∈ e, p.1 ≠ q.1 := fun p hp q hq h => by
      have hp := f1 p hp
      rcases e1 q hq with h1 | ⟨k, hk, h1⟩
      · omega
      · have : k = i := by omega
        subst this
        exact hni hk
    refine fin _ (apE e H) (q2 H fun id hid => (apE_get f H fun p hp h => ?_).symm) ?_
    · have hp := f1 p hp
      rcases hid with hid | ⟨k, hk, hid⟩
      · omega
      · have : k = i := by omega
        subst this
        exact hni hk
    · rw [apE_comm f e H hef]
      exact q1 _ _
  · obtain ⟨rfl, e, e1, rfl, q1⟩ := GS_five a4 g1
    obtain ⟨rfl, f, f1, rfl, q2⟩ := GS_one a5 g2
    have hef : ∀ p ∈ e, ∀ q ∈ f, p.1 ≠ q.1 := fun p hp q hq h => by
      obtain ⟨l, hl, h2⟩ := f1 q hq
      rcases e1 p hp with h1 | ⟨k, hk, h1⟩
      · omega
      · have : k = l := by omega
        subst this
        exact a6 k hk hl
    refine fin _ (apE f H) (q2 H fun k hk => (apE_get e H fun p hp h => ?_).symm) ?_
    · rcases e1 p hp with h1 | ⟨l, hl, h1⟩
      · omega
      · have : l = k := by omega
        subst this
        exact a6 l hl hk
    · rw [apE_comm e f H hef]
      exact q1 _ fun id hid => apE_get f H fun p hp h => by
        obtain ⟨l, hl, h2⟩ := f1 p hp
        rcases hid with hid | ⟨k, hk, hid⟩
        · omega
        · have : k = l := by omega
          subst this
          exact a6 k hk hl
  · obtain ⟨rfl, e, e1, rfl, q1⟩ := GS_one a4 g1
    obtain ⟨rfl, f, f1, rfl, q2⟩ := GS_five a5 g2
    have hef : ∀ p ∈ e, ∀ q ∈ f, p.1 ≠ q.1 := fun p hp q hq h => by
      obtain ⟨l, hl, h2⟩ := e1 p hp
      rcases f1 q hq with h1 | ⟨k, hk, h1⟩
      · omega
      · have : l = k := by omega
        subst this
        exact a6 l hl hk
    refine fin _ (apE f H) (q2 H fun id hid => (apE_get e H fun p hp h => ?_).symm) ?_
    · obtain ⟨l, hl, h2⟩ := e1 p hp
      rcases hid with hid | ⟨k, hk, hid⟩
      · omega
      · have : l = k := by omega
        subst this
        exact a6 l hl hk
    · rw [apE_comm e f H hef]
      exact q1 _ fun k hk => apE_get f H fun p hp h => by
        rcases f1 p hp with h1 | ⟨l, hl, h1⟩
        · omega
        · have : k = l := by omega
          subst this
          exact a6 k hk hl
def opV (P : Program) (n b : Nat) (ops : Array Oper) (i : Nat) (env : Env) (V : AH) (k : Env → AH → AH → Prop) (H : AH) : Prop :=
  match ops[i]? with
  | some o => stepV P n b ops o i env V k H
  | none => k env V H
/-- in whatever order -/
def anyA (P : Program) (n b : Nat) (ops : Array Oper) (K : Env → AH → Prop) : Nat → Array Bool → Env → AH → AH → Prop
  | 0, listed, env, _, H => Region.ready .any ops listed = [] ∧ K env H
  | fuel + 1, listed, env, V, H => (Region.ready .any ops listed = [] → K env H) ∧ ∀ i ∈ Region.ready .any ops listed, opV P n b ops i env V (fun env' V' H' => anyA P n b ops K fuel (listed.setIfInBounds i true) env' V' H') H
theorem opV_mono {i : Nat} {env : Env} {k k' : Env → AH → AH → Prop} (h : opV P n b ops i env V k H) (hk : ∀ e V H, k e V H → k' e V H) : opV P n b ops i env V k' H := by
  unfold opV at h ⊢
  cases ho : ops[i]? with
  | none => rw [ho] at h; exact hk _ _ _ h
  | some o => rw [ho] at h; exact stepV_mono h hk
/-- which hang on which -/
def maskOk (ops : Array Oper) (M : Array Nat) : Bool :=
  (List.range ops.size).all fun j => match ops[j]? with
    | some o => o.after.all (fun e => !Region.binds .any e || Nat.blt e.on j) && (List.range ops.size).all fun i => !(M.getD j 0).testBit i || o.after.any (fun e => Region.binds .any e && (e.on == i || (M.getD e.on 0).testBit i))
    | none => true
def closedL (ops : Array Oper) (listed : Array Bool) : Prop := ∀ (j : Nat) (o : Oper), ops[j]? = some o → listed.getD j false = true → ∀ e ∈ o.after, Region.binds .any e = true → listed.getD e.on false = true
theorem mask_spec {M : Array Nat} (h : maskOk ops M = true) {j : Nat} {o : Oper} (ho : ops[j]? = some o) : (∀ e ∈ o.after, Region.binds .any e = true → e.on < j) ∧ ∀ i, i < ops.size → (M.getD j 0).testBit i = true → ∃ e ∈ o.after, Region.binds .any e = true ∧ (e.on = i ∨ (M.getD e.on 0).testBit i = true) := by
  unfold maskOk at h
  rw [List.all_eq_true] at h
  have hj := h j (List.mem_range.2 (Array.getElem?_eq_some_iff.1 ho).1)
  rw [ho] at hj
  simp only [Bool.and_eq_true] at hj
  obtain ⟨h1, h2⟩ := hj
  refine ⟨fun e he hb => ?_, fun i hi hm => ?_⟩
  · have := Array.all_eq_true_iff_forall_mem.1 h1 e he
    simp only [hb, Bool.not_true, Bool.false_or, Nat.blt_eq] at this
    exact this
  · rw [List.all_eq_true] at h2
    have := h2 i (List.mem_range.2 hi)
    simp only [hm, Bool.not_true, Bool.false_or] at this
    obtain ⟨e, he, hb⟩ := Array.any_eq_true'.1 this
    simp only [Bool.and_eq_true, Bool.or_eq_true, beq_iff_eq] at hb
    exact ⟨e, he, hb.1, hb.2⟩
theorem mask_listed {M : Array Nat} (h : maskOk ops M = true) {listed : Array Bool} (hc : closedL ops listed) {i : Nat} (hi : i < ops.size) : ∀ (j : Nat), listed.getD j false = true → (M.getD j 0).testBit i = true → (∃ o, ops[j]? = some o) → listed.getD i false = true := by
  intro j
  induction j using Nat.strongRecOn with
  | _ j ih =>
    rintro hj hm ⟨o, ho⟩
    obtain ⟨m1, m2⟩ := mask_spec h ho
    obtain ⟨e, he, hb, hor⟩ := m2 i hi hm
    have hl := hc j o ho hj e he hb
    rcases hor with hor | hor
    · rw [← hor]; exact hl
    · exact ih e.on (m1 e he hb) hl hor ⟨_, Array.getElem?_eq_getElem (Nat.lt_trans (m1 e he hb) (Array.getElem?_eq_some_iff.1 ho).1)⟩
theorem mask_ready {M : Array Nat} (h : maskOk ops M = true) {listed : Array Bool} (hc : closedL ops listed) {i j : Nat} (hi : i < ops.size) (hj : j ∈ Region.ready .any ops listed) (hm : (M.getD j 0).testBit i = true) : listed.getD i false = true := by
  obtain ⟨_, o, ho, hall⟩ := mem_ready.1 hj
  obtain ⟨m1, m2⟩ := mask_spec h ho
  obtain ⟨e, he, hb, hor⟩ := m2 i hi hm
  have hl := hall e he hb
  rcases hor with hor | hor
  · rw [← hor]; exact hl
  · exact mask_listed h hc hi e.on hl hor ⟨_, Array.getElem?_eq_getElem (Nat.lt_trans (m1 e he hb) (Array.getElem?_eq_some_iff.1 ho).1)⟩
theorem closed_set {listed : Array Bool} (hc : closedL ops listed) {j : Nat} (hj : j ∈ Region.ready .any ops listed) : closedL ops (listed.setIfInBounds j true) := by
  intro k o ho hk e he hb
  by_cases hkj : j = k
  · subst hkj
    obtain ⟨_, o', ho', hall⟩ := mem_ready.1 hj
    rw [ho] at ho'; injection ho' with ho'; subst ho'
    exact getD_set_true (hall e he hb)
  · rw [getD_set_ne false hkj] at hk
    exact getD_set_true (hc k o ho hk e he hb)
theorem getD_tf {listed : Array Bool} {i : Nat} (h : listed.getD i true = false) : listed.getD i false = false := by
  rcases Nat.lt_or_ge i listed.size with h' | h'
  · simp [h'] at h ⊢; exact h
  · simp [Array.getElem?_eq_none h'] at h
/-- one that may go first -/
theorem anyA_first {K : Env → AH → Prop} {M : Array Nat} (hM : ∀ (listed : Array Bool) (i j : Nat), closedL ops listed → i < ops.size → j ∈ Region.ready .any ops listed → (M.getD j 0).testBit i = true → listed.getD i false = true) {i : Nat} {oi : Oper} (hi : ops[i]? = some oi) : ∀ (fuel : Nat) (listed : Array Bool) (env : Env) (V H : AH), closedL ops listed →
    (∀ j oj, ops[j]? = some oj → j ≠ i → listed.getD j true = false → (M.getD j 0).testBit i = false → indep P ops oi oj i j = true) → i ∈ Region.ready .any ops listed →
    opV P n b ops i env V (fun env' V' H' => anyA P n b ops K fuel (listed.setIfInBounds i true) env' V' H') H → anyA P n b ops K (fuel + 1) listed env V H := by
  intro fuel
  induction fuel with
  | zero =>
    intro listed env V H hc hfree hr h
    refine ⟨fun h0 => (by rw [h0] at hr; cases hr), fun j hj => ?_⟩
    by_cases hji : j = i
    · subst hji; exact h
    · have hj' := ready_mono (i := i) hj hji
      obtain ⟨hjun, oj, hoj, hall⟩ := mem_ready.1 hj
      have hiun := (mem_ready.1 hr).1
      have hnm : (M.getD j 0).testBit i = false := by
        cases hm : (M.getD j 0).testBit i with
        | false => rfl
        | true =>
          have := hM _ _ _ hc (Array.getElem?_eq_some_iff.1 hi).1 hj hm
          rw [getD_tf hiun] at this; cases this
      obtain ⟨_, _, _, ⟨l1, _⟩, _⟩ := indep_spec (hfree j oj hoj hji hjun hnm)
      simp only [opV, hi] at h
      rw [stepV_iff (noLast_of l1)] at h
      obtain ⟨_, _, _, _, h⟩ := h
      rw [h.1] at hj'
      cases hj'
  | succ fuel ih =>
    intro listed env V H hc hfree hr h
    refine ⟨fun h0 => (by rw [h0] at hr; cases hr), fun j hj => ?_⟩
    by_cases hji : j = i
    · subst hji; exact h
    · obtain ⟨hjun, oj, hoj, hall⟩ := mem_ready.1 hj
      have hiun := (mem_ready.1 hr).1
      have hnm : (M.getD j 0).testBit i = false := by
        cases hm : (M.getD j 0).testBit i with
        | false => rfl
        | true =>
          have := hM _ _ _ hc (Array.getElem?_eq_some_iff.1 hi).1 hj hm
          rw [getD_tf hiun] at this; cases this
      have hind := hfree j oj hoj hji hjun hnm
      have h1 : stepV P n b ops oi i env V (fun env' V' H' => stepV P n b ops oj j env' V' (fun env2 V2 H2 => anyA P n b ops K fuel ((listed.setIfInBounds i true).setIfInBounds j true) env2 V2 H2) H') H := by
        simp only [opV, hi] at h
        refine stepV_mono h fun e V H hh => ?_
        have := hh.2 j (ready_mono hj hji)
        simp only [opV, hoj] at this
        exact this
      have h2 := stepV_swap hind h1
      simp only [opV, hoj]
      refine stepV_mono h2 fun e V H h3 => ih (listed.setIfInBounds j true) e V H (closed_set hc hj) (fun k ok hk hki hun hno => ?_) (ready_mono hr (Ne.symm hji)) ?_
      · refine hfree k ok hk hki ?_ hno
        by_cases hjk : j = k
        · subst hjk; exact hjun
        · rw [getD_set_ne true hjk] at hun; exact hun
      · rw [Array.setIfInBounds_comm _ _ hji]
        simp only [opV, hi]
        exact h3
/-- all that need not wait for one another may change places -/
def freeOk (P : Program) (ops : Array Oper) (M : Array Nat) : Bool :=
  (List.range ops.size).all fun i => (List.range ops.size).all fun j => Nat.ble j i || (M.getD j 0).testBit i || match ops[i]?, ops[j]? with
    | some x, some y => indep P ops x y i j
    | _, _ => true
theorem free_spec {M : Array Nat} (h : freeOk P ops M = true) {i j : Nat} {x y : Oper} (hx : ops[i]? = some x) (hy : ops[j]? = some y) (hij : i < j) (hm : (M.getD j 0).testBit i = false) : indep P ops x y i j = true := by
  unfold freeOk at h
  rw [List.all_eq_true] at h
  have h1 := h i (List.mem_range.2 (Array.getElem?_eq_some_iff.1 hx).1)
  rw [List.all_eq_true] at h1
  have h2 := h1 j (List.mem_range.2 (Array.getElem?_eq_some_iff.1 hy).1)
  rw [hx, hy, hm] at h2
  simp only [Bool.or_false, Bool.or_eq_true, Nat.ble_eq] at h2
  rcases h2 with h2 | h2
  · omega
  · exact h2
/-- the first k are done -/
def firstK (m k : Nat) (listed : Array Bool) : Prop := listed.size = m ∧ ∀ j, listed.getD j true = false ↔ (k ≤ j ∧ j < m)
theorem firstK_zero (m : Nat) : firstK m 0 (Array.replicate m false) := by
  refine ⟨by simp, fun j => ?_⟩
  by_cases hj : j < m
  · simp [hj]
  · simp [Array.getElem?_eq_none, hj]
theorem firstK_succ {m k : Nat} {listed : Array Bool} (h : firstK m k listed) (hk : k < m) : firstK m (k + 1) (listed.setIfInBounds k true) := by
  obtain ⟨h1, h2⟩ := h
  refine ⟨by simp [h1], fun j => ?_⟩
  by_cases hj : k = j
  · subst hj
    have hks : k < listed.size := by rw [h1]; exact hk
    simp [hks]; omega
  · rw [getD_set_ne true hj, h2 j]; omega
theorem firstK_false {m k : Nat} {listed : Array Bool} (h : firstK m k listed) (j : Nat) : listed.getD j false = true ↔ j < m ∧ j < k := by
  obtain ⟨h1, h2⟩ := h
  by_cases hj : j < m
  · have hjs : j < listed.size := by rw [h1]; exact hj
    have h3 := h2 j
    simp only [Array.getD_eq_getD_getElem?, Array.getElem?_eq_getElem hjs, Option.getD_some] at h3 ⊢
    cases hb : listed[j] with
    | true => rw [hb] at h3; simp at h3; simp; omega
    | false => rw [hb] at h3; simp at h3; simp; omega
  · have hjs : listed.size ≤ j := by rw [h1]; omega
    simp only [Array.getD_eq_getD_getElem?, Array.getElem?_eq_none hjs, Option.getD_none]
    constructor
    · intro h; cases h
    · rintro ⟨h, _⟩; exact absurd h hj
theorem anyA_lex {K : Env → AH → Prop} {M : Array Nat} (hM : maskOk ops M = true) (hF : freeOk P ops M = true) : ∀ (l : List Oper) (i : Nat) (listed : Array Bool) (env : Env) (V H : AH), (∀ j, l[j]? = ops[i + j]?) → i + l.length = ops.size → firstK ops.size i listed →
    seqV P n b ops l i env K V H → anyA P n b ops K l.length listed env V H
  | [], i, listed, env, V, H, hl, hlen, hk, h => by
    refine ⟨?_, h⟩
    rw [List.eq_nil_iff_forall_not_mem]
    intro j hj
    obtain ⟨h1, o, ho, _⟩ := mem_ready.1 hj
    have := (hk.2 j).1 h1
    simp at hlen
    omega
  | o :: l, i, listed, env, V, H, hl, hlen, hk, h => by
    have h0 : ops[i]? = some o := by simpa using (hl 0).symm
    have hi : i < ops.size := (Array.getElem?_eq_some_iff.1 h0).1
    obtain ⟨m1, _⟩ := mask_spec hM h0
    have hready : i ∈ Region.ready .any ops listed := mem_ready.2 ⟨(hk.2 i).2 ⟨Nat.le_refl _, hi⟩, o, h0, fun e he hb => (firstK_false hk e.on).2 (by have := m1 e he hb; omega)⟩
    have hclosed : closedL ops listed := fun j oj hoj hj e he hb => by
      have hj' := (firstK_false hk j).1 hj
      have := (mask_spec hM hoj).1 e he hb
      exact (firstK_false hk e.on).2 (by omega)
    refine anyA_first (fun _ _ _ hc hi hj hm => mask_ready hM hc hi hj hm) h0 l.length listed env V H hclosed (fun j oj hoj hji hun hm => ?_) hready ?_
    · have := (hk.2 j).1 hun
      exact free_spec hF h0 hoj (by omega) hm
    · simp only [opV, h0]
      simp only [seqV] at h
      exact stepV_mono h fun e V' H' hh => anyA_lex hM hF l (i + 1) _ e V' H' (fun j => by have := hl (j + 1); simpa [Nat.add_assoc, Nat.add_comm 1 j] using this) (by simp at hlen; omega) (firstK_succ hk hi) hh
/-- what is told of every order holds of the model -/
theorem anyA_sound {nd : Bool} {B0 : Nat} (hnd : ∀ (j : Nat) (o : Oper), ops[j]? = some o → needV P ops o.op = true → nd = true) {Q : Exit → Act → World → Prop} {K : Env → AH → Prop} : ∀ (fuel : Nat) (listed : Array Bool) (env : Env) (V : AH) (a : Act) (w : World) (S : Nat → Prop) (σ : Nat → Option Value) (H : AH), RepE n a w S σ env → Sat P w S σ H → V.le H →
    (nd = true → ∀ j, listed.getD j true = false → b + j < H.nx ∧ σ (b + j) = none) → B0 ≤ H.nx → (nd = true → B0 ≤ b) → (∀ a' w' S' σ' env' H', K env' H' → RepE n a' w' S' σ' env' → Sat P w' S' σ' H' → Ext w S σ H w' S' σ' H' → H.nx ≤ H'.nx → (∀ j, j < B0 → σ' j = σ j) → Q .normal a' w') →
    anyA P n b ops K fuel listed env V H → wpAny P .any ops Q fuel listed a w := by
  intro fuel
  induction fuel with
  | zero => intro listed env V a w S σ H hr hs _ _ _ _ hQ h; exact ⟨h.1, hQ a w S σ env H h.2 hr hs (.refl _ _ _ _) (Nat.le_refl _) (fun _ _ => rfl)⟩
  | succ fuel ih =>
    intro listed env V a w S σ H hr hs hle hres hB hBb hQ h
    refine ⟨fun h0 => hQ a w S σ env H (h.1 h0) hr hs (.refl _ _ _ _) (Nat.le_refl _) (fun _ _ => rfl), fun i hi => ?_⟩
    obtain ⟨hun, o, ho, _⟩ := mem_ready.1 hi
    have hnc : needC (cls P o.op) = true → needV P ops o.op = true := fun h => by simp [needV, h]
    have hrc : ∀ f xs, cls P o.op = .ca f xs → (freshW P ops o.op).isSome = true → needV P ops o.op = true := fun f xs h1 h2 => by
      unfold freshW at h2
      rw [h1] at h2
      dsimp only at h2
      unfold needV
      cases hr : rowC P ops o.op with
      | true => simp
      | false =>
        cases hr3 : lastC P ops o.op with
        | true => simp
        | false =>
          cases hr2 : wrC P ops o.op with
          | true => simp
          | false =>
            cases hr4 : keepC P ops o.op with
            | true => simp
            | false => rw [hr, hr2, hr3, hr4] at h2; cases h2
    have hid : needV P ops o.op = true → b + i < H.nx ∧ σ (b + i) = none := fun h => hres (hnd i o ho h) i hun
    have h1 := h.2 i hi
    have next : ∀ (a' : Act) (w' : World), AftV P (needV P ops o.op) n (b + i) w S σ H o.dst env (fun x V' H' => anyA P n b ops K fuel (listed.setIfInBounds i true) (setE n env o.dst x) V' H') a' w' → wpAny P .any ops Q fuel (listed.setIfInBounds i true) a' w' := by
      rintro a' w' ⟨x, V', H', S', σ', h1, h2, h3, h4, h5, h6, h7⟩
      refine ih _ _ V' a' w' S' σ' H' h3 h4 h2 (fun hn j hj => ?_) (by omega) hBb (fun a2 w2 S2 σ2 env2 H2 q1 q2 q3 q4 q5 q6 => hQ a2 w2 S2 σ2 env2 H2 q1 q2 q3 (h5.trans q4) (Nat.le_trans h6 q5) (fun j hj => (q6 j hj).trans (h7 j (fun hn => by have := hBb (hnd i o ho hn); omega) (by omega)))) h1
      have hij : i ≠ j := by
        rintro rfl
        rcases Nat.lt_or_ge i listed.size with h' | h'
        · simp [h'] at hj
        · simp [Array.getElem?_eq_none, h'] at hj
      rw [getD_set_ne true hij] at hj
      obtain ⟨g1, g2⟩ := hres hn j hj
      exact ⟨by omega, by rw [h7 _ (fun _ => by omega) g1]; exact g2⟩
    simp only [opV, ho] at h1
    simp only [wpOp, ho]
    unfold stepV at h1
    cases hg : o.guard with
    | none =>
      rw [hg] at h1
      rw [if_pos (by simp [Region.wanted, hg])]
      exact .inl (Oper.wp_mono next (coreV_wp hr hs hle hnc hrc hid h1))
    | some g =>
      obtain ⟨j, want⟩ := g
      rw [hg] at h1
      obtain ⟨c, hc, h1, h2⟩ := h1
      have hy := gv_yield hr hc
      by_cases hcw : c = some want
      · rw [if_pos (by simp [Region.wanted, hg, hy, hcw])]
        exact .inl (Oper.wp_mono next (coreV_wp hr hs hle hnc hrc hid (h1 hcw)))
      · rw [if_neg (by simp [Region.wanted, hg, hy, hcw])]
        exact next _ _ ⟨.tup [], V, H, S, σ, h2 hcw, hle, hr.put _ skip_rp, hs, .refl _ _ _ _, Nat.le_refl _, fun _ _ _ => rfl⟩
end
end Go.Proofs.Ytgkkilbeingleaa
