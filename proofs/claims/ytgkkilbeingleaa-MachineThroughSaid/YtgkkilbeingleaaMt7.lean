/- Texts that the proof rests on, part 7: what each holds stands at its head. -/
import Derived.Test.YtgkkilbeingleaaMt6

/- Operations one behind the other, and in whatever order: what the model does is what is told. Nothing of the program is named here. -/
namespace Go.Proofs.Ytgkkilbeingleaa
open Go.RowKit Go.Maps

section
variable {P : Program} {w : World} {S : Nat → Prop} {σ : Nat → Option Value} {H V : AH} {n b : Nat} {ops : Array Oper}
/-- what stands behind an operation -/
def Aft (P : Program) (nd : Bool) (n id : Nat) (w : World) (S : Nat → Prop) (σ : Nat → Option Value) (H : AH) (dst : Option Tmp) (env : Env) (k : AV → AH → Prop) (a' : Act) (w' : World) : Prop :=
  ∃ x H' S' σ', k x H' ∧ RepE n a' w' S' σ' (setE n env dst x) ∧ Sat P w' S' σ' H' ∧ Ext w S σ H w' S' σ' H' ∧ H.nx ≤ H'.nx ∧ ∀ j, (nd = true → j ≠ id) → j < H.nx → σ' j = σ j
theorem val_wp {nd : Bool} {o : Oper} {a : Act} {env : Env} {x : AV} {k : AV → AH → Prop} {id : Nat} {Q : Exit → Act → World → Prop} (hr : RepE n a w S σ env) (hs : Sat P w S σ H) (h : Val1 P w S σ a.eval o x) (hk : k x H) : o.wp P a w (Aft P nd n id w S σ H o.dst env k) Q := by
  obtain ⟨v, hv, hx⟩ := h
  unfold Oper.wp
  rw [hv]
  exact ⟨x, H, S, σ, hk, hr.put _ hx, hs, .refl _ _ _ _, Nat.le_refl _, fun _ _ _ => rfl⟩
theorem eff_wp {o : Oper} {a : Act} {env : Env} {x : AV} {k : AV → AH → Prop} {id : Nat} {Q : Exit → Act → World → Prop} {H' : AH} (hr : RepE n a w S σ env) (hs : Sat P w S σ H) (h : Eff P w S σ H a.eval o id x H') (hn : H.nx ≤ H'.nx) (hk : k x H') : o.wp P a w (Aft P true n id w S σ H o.dst env k) Q := by
  obtain ⟨nx, w', σ', hv, hx, h1, h2, h3⟩ := h
  unfold Oper.wp
  rw [hv]
  rcases hx with ⟨v, rfl, hx⟩ | ⟨rfl, rfl⟩
  · exact ⟨x, H', S, σ', hk, (hr.ext hs h2).put _ hx, h1, h2, hn, fun j hj _ => h3 j (hj rfl)⟩
  · exact ⟨_, H', S, σ', hk, (hr.ext hs h2).put _ (.any _), h1, h2, hn, fun j hj _ => h3 j (hj rfl)⟩
theorem ca_wp {nd : Bool} {o : Oper} {a : Act} {env : Env} {c : Call} {fo : Operand} {f : FuncId} {first cap : List AV} {R : AV → AH → Prop} {k : AV → AH → Prop} {id : Nat} {Q : Exit → Act → World → Prop} (hr : RepE n a w S σ env) (hs : Sat P w S σ H) (ho : o.op = .call c) (hc : c.callee = .value fo)
    (hf : ev0 env fo = .fn (.func f) first cap) (hcal : callable P f = true) (ht : Tri P f (first ++ c.args.toList.map (ev0 env) ++ cap) H R) (hk : ∀ r H', SatE P H' → R r H' → k r H') : o.wp P a w (Aft P nd n id w S σ H o.dst env k) Q := by
  have hfv := hr.ev fo
  rw [hf] at hfv
  obtain ⟨us, hrun, hus⟩ := call_run (P := P) ho hc hfv hcal (hr.evs c.args.toList)
  unfold Oper.wp
  rw [hrun]
  refine (ht w S σ us hs hus).mono fun e w' ⟨v, S', σ', r, H', he, hq, h1, h2, h3, h4, h5⟩ => ?_
  subst he
  exact ⟨r, H', S', σ', hk r H' ⟨_, _, _, h1⟩ hq, (hr.ext hs h3).put _ h2, h1, h3, h4, fun j _ hj => h5 j hj⟩
theorem wr_nx {id : Nat} {wo : WO} {args : List AV} {a : AV} {H' : AH} (h : WrR P id wo args H a H') : H'.nx = H.nx := by cases h <;> rfl
theorem sat_hsz (hs : Sat P w S σ H) : ∀ id A n c, σ id = some (.slice A n c) → n ≤ c ∧ (0 < c → ∃ g o, A = some ⟨g, o, none⟩) := fun id A n c h => ⟨(hs.sl id A n c h).1, (hs.sl id A n c h).2.1⟩
theorem coreS_wp {o : Oper} {a : Act} {env : Env} {k : AV → AH → Prop} {id : Nat} {Q : Exit → Act → World → Prop} (hr : RepE n a w S σ env) (hs : Sat P w S σ H) (hid : needC (cls P o.op) = true → id < H.nx ∧ σ id = none) (h : coreS P id o.op env k H) : o.wp P a w (Aft P (needC (cls P o.op)) n id w S σ H o.dst env k) Q := by
  unfold coreS at h
  split at h
  · rename_i x hc
    exact val_wp hr hs (pu_sound (cls_mv hc) (.mv _) (hr.evs [x]) (sat_hsz hs)) h
  · rename_i po xs hc
    obtain ⟨x, hp, hk⟩ := h
    exact val_wp hr hs (pu_sound (cls_pu hc) hp (hr.evs xs) (sat_hsz hs)) hk
  · rename_i ro xs hc
    obtain ⟨x, hp, hk⟩ := h
    exact val_wp hr hs (rd_sound hs (cls_rd hc) hp (hr.evs xs)) hk
  · rename_i ao xs hc
    obtain ⟨x, o', hp, hk⟩ := h
    rw [show needC (cls P o.op) = true from by rw [hc]; rfl]
    exact eff_wp hr hs (al_sound (fun _ => rfl) hs (hid (by rw [hc]; rfl)).1 (hid (by rw [hc]; rfl)).2 (cls_al hc) hp (hr.evs xs)) (Nat.le_refl _) hk
  · rename_i wo xs hc
    obtain ⟨x, H', hp, hk⟩ := h
    rw [show needC (cls P o.op) = true from by rw [hc]; rfl]
    exact eff_wp hr hs (wr_sound hs (hid (by rw [hc]; rfl)) (cls_wr hc) hp (hr.evs xs)) (Nat.le_of_eq (wr_nx hp).symm) hk
  · rename_i f xs hc
    obtain ⟨c, ho, hcc, rfl⟩ := cls_ca hc
    obtain ⟨g, first, cap, R, hf, hcal, ht, hk⟩ := h
    exact ca_wp hr hs ho hcc hf hcal ht hk
  · rename_i no xs hc
    obtain ⟨Q, hq, hk⟩ := h
    rw [show needC (cls P o.op) = true from by rw [hc]; rfl]
    obtain ⟨x, H', h1, h2, h3⟩ := nd_sound hs (hid (by rw [hc]; rfl)).1 (hid (by rw [hc]; rfl)).2 (cls_nd hc) hq (hr.evs xs)
    exact eff_wp hr hs h2 (Nat.le_of_eq h3.symm) (hk x H' h1)
  · exact h.elim
theorem AtA.le {a : AV} {ds : List AV} (h : AtA V a ds) (hle : V.le H) : AtA H a ds := by
  cases h with
  | box id off t cs hg => exact .box id off t cs (hle _ _ hg)
  | row id sz i j t es e hg he => exact .row id sz i j t es e (hle _ _ hg) he
  | frz id sz i j es e hg he => exact .frz id sz i j es e (hle _ _ hg) he
  | crow id sz i j c t es e hg he => exact .crow id sz i j c t es e (hle _ _ hg) he
  | dat sz i j xs e he => exact .dat sz i j xs e he
theorem ElA.le {sz : Nat} {x : AV} {ys : List (List AV)} (h : ElA V sz x ys) (hle : V.le H) : ElA H sz x ys := by
  cases h with
  | dsl xs => exact .dsl _
  | row id off n t es hg hn => exact .row id off n t es (hle _ _ hg) hn
  | frz id off n es hg hn => exact .frz id off n es (hle _ _ hg) hn
  | crow id off n c t es hg hn => exact .crow id off n c t es (hle _ _ hg) hn
  | nil_ A c => exact .nil_ A c
theorem RdR.le {ro : RO} {args : List AV} {a : AV} (h : RdR P V ro args a) (hle : V.le H) : RdR P H ro args a := by
  cases h with
  | ld_agg _ _ _ hat hn => exact .ld_agg _ _ _ (hat.le hle) hn
  | ld_one _ _ _ _ hat hb => exact .ld_one _ _ _ _ (hat.le hle) hb
  | look_no _ _ _ _ _ _ _ _ hg hK hu hk hf => exact .look_no _ _ _ _ _ _ _ _ (hle _ _ hg) hK hu hk hf
  | look_yes _ _ _ _ _ _ _ _ _ hg hK hu hk hf => exact .look_yes _ _ _ _ _ _ _ _ _ (hle _ _ hg) hK hu hk hf
  | bstr _ _ hel => exact .bstr _ _ (hel.le hle)
/-- the same in whatever order: what was there when the region began is read -/
def AftV (P : Program) (nd : Bool) (n id : Nat) (w : World) (S : Nat → Prop) (σ : Nat → Option Value) (H : AH) (dst : Option Tmp) (env : Env) (k : AV → AH → AH → Prop) (a' : Act) (w' : World) : Prop :=
  ∃ x V' H' S' σ', k x V' H' ∧ V'.le H' ∧ RepE n a' w' S' σ' (setE n env dst x) ∧ Sat P w' S' σ' H' ∧ Ext w S σ H w' S' σ' H' ∧ H.nx ≤ H'.nx ∧ ∀ j, (nd = true → j ≠ id) → j < H.nx → σ' j = σ j
theorem Aft.toV {nd : Bool} {id : Nat} {dst : Option Tmp} {env : Env} {k : AV → AH → Prop} {k' : AV → AH → AH → Prop} {a' : Act} {w' : World} (h : Aft P nd n id w S σ H dst env k a' w') (hk : ∀ x H', k x H' → ∃ V', k' x V' H' ∧ V'.le H') : AftV P nd n id w S σ H dst env k' a' w' := by
  obtain ⟨x, H', S', σ', h1, h2⟩ := h
  obtain ⟨V', h3, h4⟩ := hk x H' h1
  exact ⟨x, V', H', S', σ', h3, h4, h2⟩
theorem put_le {id : Nat} {o' : AO} (hle : V.le H) (hn : H.get id = none) : V.le (H.put id o') := by
  intro j o hj
  have h := hle j o hj
  by_cases e : j = id
  · subst e; rw [hn] at h; cases h
  · rw [AH.get_put_ne e]; exact h
theorem Sat.none_get (hs : Sat P w S σ H) {id : Nat} (h : σ id = none) : H.get id = none := by
  cases hg : H.get id with
  | none => rfl
  | some o =>
    have := hs.obj id o hg
    cases o with
    | box t cs => obtain ⟨g, arr, h1, _⟩ := this; rw [h] at h1; cases h1
    | row t sz es => obtain ⟨A, c, h1, _⟩ := this; rw [h] at h1; cases h1
    | frz sz es => obtain ⟨A, c, h1, _⟩ := this; rw [h] at h1; cases h1
    | crow t sz c es => obtain ⟨A, N, h1, _⟩ := this; rw [h] at h1; cases h1
    | map kt m f => obtain ⟨g, f', h1, _⟩ := this; rw [h] at h1; cases h1
    | siter s p => obtain ⟨g, h1, _⟩ := this; rw [h] at h1; cases h1
    | smap kt m f st c => obtain ⟨g, f', es, h1, _⟩ := this; rw [h] at h1; cases h1
    | miter m st c vis => obtain ⟨r, g, seen, h1, _⟩ := this; rw [h] at h1; cases h1
    | dead => have h2 : (σ id).isSome = true := this; rw [h] at h2; cases h2
theorem AH.le_refl (H : AH) : H.le H := fun _ _ h => h
theorem ElF.toA {src : Option Nat} {sz : Nat} {x : AV} {ys : List (List AV)} (h : ElF V H src sz x ys) (hle : V.le H) : ElA H sz x ys := by
  cases h with
  | old x ys h => exact h.le hle
  | new i off n t es _ hg hn => exact .row i off n t es hg hn
theorem put_leV {i : Nat} {o' : AO} (hle : V.le H) (hn : V.get i = none) : V.le (H.put i o') := by
  intro j o hj
  have hne : j ≠ i := fun e => by subst e; rw [hn] at hj; cases hj
  rw [AH.get_put_ne hne]; exact hle j o hj
theorem wrF_wr {tgt src : Option Nat} {id : Nat} {wo : WO} {args : List AV} {a : AV} {H' : AH} (hle : V.le H) (hid : H.get id = none) (h : WrFR V tgt src id wo args H a H') : WrR P id wo args H a H' ∧ V.le H' := by
  have hv : V.get id = none := by
    cases hg : V.get id with
    | none => rfl
    | some o => rw [hle _ _ hg] at hid; cases hid
  cases h with
  | st n i off t cs a _ h1 h2 h3 h4 h5 h6 => exact ⟨.st_box n i off t cs a _ h3 h4 h5 h6, put_leV hle h2⟩
  | app_row t sz bytes r off n es ys x _ h1 h2 h3 h4 h5 h6 h7 => exact ⟨.app_row t sz bytes r off n es ys x _ h3 h4 (h5.toA hle) h6 h7, put_leV (put_leV hle h2) hv⟩
  | app_nil t sz bytes ys x _ h1 h2 h3 h4 => exact ⟨.app_nil t sz bytes ys x _ (h2.toA hle) h3 h4, put_leV hle hv⟩
theorem mixV_le (hle : V.le H) : ∀ sl : List Nat, (mixV V H sl).le H
  | [] => hle
  | i :: r => by
    have ih := mixV_le hle r
    unfold mixV
    cases hg : H.get i with
    | none => exact ih
    | some o =>
      intro j o' hj
      by_cases e : j = i
      · subst e; simp only [mixO] at hj; rw [AH.get_put_self] at hj; rw [hg]; exact hj
      · simp only [mixO] at hj; rw [AH.get_put_ne e] at hj; exact ih j o' hj
theorem mixV_congr {H2 : AH} : ∀ sl : List Nat, (∀ i ∈ sl, H2.get i = H.get i) → mixV V H2 sl = mixV V H sl
  | [], _ => rfl
  | i :: r, h => by
    unfold mixV
    rw [h i (by simp), mixV_congr r fun j hj => h j (by simp [hj])]
theorem Sat.freeze (hs : Sat P w S σ H) {r : Nat} {t : TypeId} {sz : Nat} {es : List (List AV)} (hg : H.get r = some (.row t sz es)) (hd : DtR es) :
    ∃ S', Sat P w S' σ (H.put r (.frz sz es)) ∧ (∀ b, S b → S' b) ∧ (∀ b, S' b → S b ∨ Foot σ H b) ∧ ∀ b, Foot σ (H.put r (.frz sz es)) b → Foot σ H b := by
  have hk := hs.obj r _ hg
  obtain ⟨A, c, h1, h2, h3, h4, h5⟩ := hk
  have hlt : ∀ b, (σ r).bind blkOf = some b → b < w.heap.size := by
    intro b hb
    rw [h1] at hb
    rcases h5 with ⟨rfl, _⟩ | ⟨g, o, arr, rfl, k1, _⟩
    · cases hb
    · injection hb with hb; subst hb; exact k1.lt
  have hget : ∀ id o, (H.put r (.frz sz es)).get id = some o → (id = r ∧ o = .frz sz es) ∨ (id ≠ r ∧ H.get id = some o) := by
    intro id o ho
    by_cases e : id = r
    · subst e; rw [AH.get_put_self] at ho; injection ho with ho; exact .inl ⟨rfl, ho.symm⟩
    · rw [AH.get_put_ne e] at ho; exact .inr ⟨e, ho⟩
  refine ⟨fun b => S b ∨ (σ r).bind blkOf = some b, ⟨fun b hb => hb.elim (hs.sb b) (hlt b), hs.dom, fun id o ho => ?_, fun i q o o' b h h' k k' => ?_, fun i o b h k hb hS => ?_, hs.sl⟩, fun b hb => .inl hb, fun b hb => hb.elim .inl fun hb => .inr ⟨r, _, hg, rfl, hb⟩, ?_⟩
  · rcases hget id o ho with ⟨rfl, rfl⟩ | ⟨e, ho⟩
    · refine ⟨A, c, h1, ?_⟩
      rcases h5 with ⟨rfl, rfl⟩ | ⟨g, o, arr, rfl, k1, k2, k3, k4⟩
      · have : es = [] := List.length_eq_zero_iff.1 (by omega)
        subst this
        exact .dsl _ _ _ _ (fun _ _ => .bool false) (Nat.zero_le _) h4 (by simp) (by simp) (by simp) (fun _ _ => rfl)
      · refine .dsl _ _ _ _ (fun i j => (arr[o + i * sz + j]?).getD (.bool false)) h3 h4 h2 (fun i e j a he ha => ?_) (fun i e j a he ha => ?_) (fun i j => ?_)
        · obtain ⟨v, hv, _⟩ := k4 i e j a he ha
          exact ⟨g, o, rfl, .inr (by rw [h1]; rfl), by rw [k1.cell, hv]; rfl⟩
        · obtain ⟨v, hv, hr⟩ := k4 i e j a he ha
          rw [hv]
          exact (hd e (List.mem_of_getElem? he) a (List.mem_of_getElem? ha) _ _ _ _ hr).mono (fun _ h => .inl h) (fun _ _ => rfl)
        · cases hv : arr[o + i * sz + j]? with
          | none => rfl
          | some u => exact k3 u (Array.mem_of_getElem? hv)
    · exact (hs.obj id o ho).mono (fun _ h => .inl h) (fun _ _ => rfl) (fun _ _ h => h) (fun _ _ _ => rfl)
  · rcases hget i o h with ⟨rfl, rfl⟩ | ⟨e, h⟩
    · cases k
    · rcases hget q o' h' with ⟨rfl, rfl⟩ | ⟨e', h'⟩
      · cases k'
      · exact fun b1 b2 => hs.dj i q o o' b h h' k k' b1 b2
  · rcases hget i o h with ⟨rfl, rfl⟩ | ⟨e, h⟩
    · cases k
    · rcases hS with hS | hS
      · exact hs.sep i o b h k hb hS
      · exact e (hs.dj i r o _ b h hg k rfl hb hS)
  · rintro b ⟨i, o, h, k, hb⟩
    rcases hget i o h with ⟨rfl, rfl⟩ | ⟨e, h⟩
    · cases k
    · exact ⟨i, o, h, k, hb⟩
theorem Ext.still {S' : Nat → Prop} {H' : AH} (h1 : ∀ b, S b → S' b) (h2 : ∀ b, S' b → S b ∨ Foot σ H b) (h3 : ∀ b, Foot σ H' b → Foot σ H b) : Ext w S σ H w S' σ H' :=
  ⟨rfl, rfl, rfl, Nat.le_refl _, fun _ _ _ => rfl, h1, fun b hb => (h2 b hb).elim .inl fun h => .inr (.inl h), fun b hb => .inl (h3 b hb), fun _ _ h => h⟩
theorem apE_get {j : Nat} : ∀ (e : List (Nat × AO)) (H : AH), (∀ p ∈ e, p.1 ≠ j) → (apE e H).get j = H.get j
  | [], H, _ => rfl
  | (i, o) :: r, H, h => by
    have hi : i ≠ j := h (i, o) (by simp)
    rw [apE, apE_get r _ fun p hp => h p (by simp [hp]), AH.get_put_ne (fun e => hi e.symm)]
theorem apE_nx : ∀ (e : List (Nat × AO)) (H : AH), (apE e H).nx = H.nx
  | [], _ => rfl
  | (i, o) :: r, H => (apE_nx r _).trans rfl
theorem apE_same {j : Nat} : ∀ (e : List (Nat × AO)) (H H2 : AH), H2.get j = H.get j → (apE e H2).get j = (apE e H).get j
  | [], _, _, h => h
  | (i, o) :: r, H, H2, h => apE_same r _ _ (by
    by_cases e : j = i
    · subst e; rw [AH.get_put_self, AH.get_put_self]
    · rw [AH.get_put_ne e, AH.get_put_ne e]; exact h)
theorem frzE_in {H : AH} : ∀ {fz : List Nat} {p : Nat × AO}, p ∈ frzE H fz → p.1 ∈ fz ∧ ∃ t sz es, H.get p.1 = some (.row t sz es) ∧ p.2 = .frz sz es
  | [], p, h => by cases h
  | i :: r, p, h => by
    unfold frzE at h
    rcases List.mem_append.1 h with h | h
    · cases hg : H.get i with
      | none => rw [hg] at h; cases h
      | some o =>
        rw [hg] at h
        cases o <;> simp only [frzO, List.mem_singleton, List.not_mem_nil] at h
        subst h
        exact ⟨by simp, _, _, _, hg, rfl⟩
    · obtain ⟨h1, h2⟩ := frzE_in h
      exact ⟨by simp [h1], h2⟩
theorem frzE_same {H H2 : AH} : ∀ {fz : List Nat}, (∀ i ∈ fz, H2.get i = H.get i) → frzE H2 fz = frzE H fz
  | [], _ => rfl
  | i :: r, h => by rw [frzE, frzE, h i (by simp), frzE_same fun j hj => h j (by simp [hj])]
/-- what is frozen one after the other -/
theorem Sat.freezes : ∀ (e : List (Nat × AO)) (H : AH) (S : Nat → Prop), Sat P w S σ H → (∀ p ∈ e, ∃ sz es, p.2 = .frz sz es ∧ DtR es ∧ ((∃ t, H.get p.1 = some (.row t sz es)) ∨ H.get p.1 = some (.frz sz es))) →
    ∃ S', Sat P w S' σ (apE e H) ∧ (∀ b, S b → S' b) ∧ (∀ b, S' b → S b ∨ Foot σ H b) ∧ ∀ b, Foot σ (apE e H) b → Foot σ H b
  | [], H, S, hs, _ => ⟨S, hs, fun _ h => h, fun _ h => .inl h, fun _ h => h⟩
  | (i, o) :: r, H, S, hs, h => by
    obtain ⟨sz, es, rfl, hd, hg⟩ := h (i, o) (by simp)
    have : ∃ S', Sat P w S' σ (H.put i (.frz sz es)) ∧ (∀ b, S b → S' b) ∧ (∀ b, S' b → S b ∨ Foot σ H b) ∧ ∀ b, Foot σ (H.put i (.frz sz es)) b → Foot σ H b := by
      rcases hg with ⟨t, hg⟩ | hg
      · exact hs.freeze hg hd
      · have hsame : ∀ j, (H.put i (.frz sz es)).get j = H.get j := fun j => by
          by_cases e : j = i
          · subst e; rw [AH.get_put_self, hg]
          · rw [AH.get_put_ne e]
        exact ⟨S, ⟨hs.sb, hs.dom, fun id o ho => hs.obj id o (by rw [← hsame]; exact ho), fun a b o o' x h1 h2 => hs.dj a b o o' x (by rw [← hsame]; exact h1) (by rw [← hsame]; exact h2), fun a o x h1 => hs.sep a o x (by rw [← hsame]; exact h1), hs.sl⟩, fun _ h => h, fun _ h => .inl h,
          fun b ⟨a, o, h1, h2, h3⟩ => ⟨a, o, by rw [← hsame]; exact h1, h2, h3⟩⟩
    obtain ⟨S1, k1, k2, k3, k4⟩ := this
    obtain ⟨S2, m1, m2, m3, m4⟩ := Sat.freezes r (H.put i (.frz sz es)) S1 k1 fun p hp => by
      obtain ⟨sz', es', e1, e2, e3⟩ := h p (by simp [hp])
      refine ⟨sz', es', e1, e2, ?_⟩
      by_cases e : p.1 = i
      · rw [e, AH.get_put_self]
        rw [e] at e3
        right
        rcases e3 with ⟨t, e3⟩ | e3 <;> rcases hg with ⟨t', hg⟩ | hg <;> rw [hg] at e3 <;> injection e3 with e3
        · injection e3 with _ e4 e5; rw [e4, e5]
        · cases e3
        · cases e3
        · injection e3 with e4 e5; rw [e4, e5]
      · rw [AH.get_put_ne e]; exact e3
    exact ⟨S2, m1, fun b hb => m2 b (k2 b hb), fun b hb => (m3 b hb).elim (k3 b) fun h => .inr (k4 b h), fun b hb => k4 b (m4 b hb)⟩
theorem wro_eff {src : Option Nat} {id : Nat} {wo : WO} {xs : List Operand} {args : List AV} {a : AV} {H' : AH} {o : Oper} {ev : Operand → Value} (hs : Sat P w S σ H) (hle : V.le H) (hid : id < H.nx ∧ σ id = none) (hc : clsW P o.op = some (wo, xs)) (hp : WrOR V b src id wo args H a H') (hr : Rps w S σ args (xs.map ev)) :
    V.le H' ∧ H'.nx = H.nx ∧ Eff P w S σ H ev o id a H' := by
  have hn := hs.none_get hid.2
  cases hp with
  | st n i off t cs a _ h1 h2 h3 h4 h5 h6 => exact ⟨put_leV hle h2, rfl, wr_sound hs hid hc (.st_box n i off t cs a _ h3 h4 h5 h6) hr⟩
  | app_nil t sz bytes ys x _ h1 h2 h3 => exact ⟨put_le hle hn, rfl, wr_sound hs hid hc (.app_nil t sz bytes ys x _ (h1.toA hle) h2 h3) hr⟩
  | app_in t sz bytes r n c es ys x _ h1 h2 h3 h4 h5 h6 => exact ⟨put_leV hle h2, rfl, cr_sound hs hid hc (.app_in t sz bytes r n c es ys x _ h3 h4 (h5.toA hle) h6) hr⟩
  | app_out t sz bytes r n c es ys x _ h1 h3 h4 h5 h6 h7 h8 => exact ⟨put_le hle hn, rfl, cr_sound hs hid hc (.app_out t sz bytes r n c es ys x _ h3 h4 (h5.toA hle) h6 h7 h8) hr⟩
  | app_own t sz bytes r n es ys x _ h1 h2 h3 h4 h5 h6 h7 =>
    have hne : id ≠ r := fun e => by rw [e, h3] at hn; cases hn
    exact ⟨put_le (put_leV hle h2) (by rw [AH.kill, AH.get_put_ne hne]; exact hn), rfl, wr_sound hs hid hc (.app_row t sz bytes r 0 n es ys x _ h3 (by omega) (h5.toA hle) h6 h7) hr⟩
theorem delL_le : ∀ ds : List Nat, (delL H ds).le H
  | [] => AH.le_refl H
  | _ :: r => fun j o hj => delL_le r j o (AH.get_del hj).1
theorem apE_le : ∀ (e : List (Nat × AO)) {V H : AH}, V.le H → (apE e V).le (apE e H)
  | [], _, _, h => h
  | (i, o) :: r, V, H, h => apE_le r fun j x hj => by
    by_cases q : j = i
    · subst q; rw [AH.get_put_self] at hj ⊢; exact hj
    · rw [AH.get_put_ne q] at hj ⊢; exact h j x hj
theorem coreV_wp {o : Oper} {a : Act} {env : Env} {k : AV → AH → AH → Prop} {id : Nat} {Q : Exit → Act → World → Prop} (hr : RepE n a w S σ env) (hs : Sat P w S σ H) (hle : V.le H) {nd : Bool} (hnc : needC (cls P o.op) = true → nd = true) {fw : Option (Option Nat × Option Nat) × List Nat} (hrc : ∀ f xs, cls P o.op = .ca f xs → fw.1.isSome = true → nd = true) (hid : nd = true → id < H.nx ∧ σ id = none) (h : coreV P b fw V id o.op env k H) : o.wp P a w (AftV P nd n id w S σ H o.dst env k) Q := by
  have up : ∀ {k1 : AV → AH → Prop}, o.wp P a w (Aft P nd n id w S σ H o.dst env k1) Q → (∀ x H', k1 x H' → ∃ V', k x V' H' ∧ V'.le H') → o.wp P a w (AftV P nd n id w S σ H o.dst env k) Q := fun h1 h2 => Oper.wp_mono (fun _ _ h => h.toV h2) h1
  unfold coreV at h
  split at h
  · rename_i x hc
    exact up (k1 := fun x H' => k x V H' ∧ V.le H') (val_wp hr hs (pu_sound (cls_mv hc) (.mv _) (hr.evs [x]) (sat_hsz hs)) ⟨h, hle⟩) (fun _ _ h => ⟨V, h⟩)
  · rename_i po xs hc
    obtain ⟨x, hp, hk⟩ := h
    exact up (k1 := fun x H' => k x V H' ∧ V.le H') (val_wp hr hs (pu_sound (cls_pu hc) hp (hr.evs xs) (sat_hsz hs)) ⟨hk, hle⟩) (fun _ _ h => ⟨V, h⟩)
  · rename_i ro xs hc
    obtain ⟨fw, sl⟩ := fw
    cases sl with
    | nil =>
      obtain ⟨x, hp, hk⟩ := h
      exact up (k1 := fun x H' => k x V H' ∧ V.le H') (val_wp hr hs (rd_sound hs (cls_rd hc) (hp.le hle) (hr.evs xs)) ⟨hk, hle⟩) (fun _ _ h => ⟨V, h⟩)
    | cons j r =>
      obtain ⟨x, hp, hk⟩ := h
      exact up (k1 := fun x H' => k x V H' ∧ V.le H') (val_wp hr hs (rd_sound hs (cls_rd hc) (hp.le (mixV_le hle _)) (hr.evs xs)) ⟨hk, hle⟩) (fun _ _ h => ⟨V, h⟩)
  · rename_i ao xs hc
    obtain ⟨x, o', hp, hk⟩ := h
    refine up (k1 := fun x H' => k x V H' ∧ V.le H') (by rw [hnc (by rw [hc]; rfl)]; exact eff_wp hr hs (al_sound (fun _ => rfl) hs (hid (hnc (by rw [hc]; rfl))).1 (hid (hnc (by rw [hc]; rfl))).2 (cls_al hc) hp (hr.evs xs)) (Nat.le_refl _) ⟨hk, put_le hle (hs.none_get (hid (hnc (by rw [hc]; rfl))).2)⟩) (fun _ _ h => ⟨V, h⟩)
  · rename_i wo xs hc
    obtain ⟨fw, sl⟩ := fw
    cases fw with
    | none =>
     cases sl with
     | cons q1 q2 =>
      obtain ⟨x, H', hp, hk⟩ := h
      obtain ⟨i1, i2⟩ := hid (hnc (by rw [hc]; rfl))
      obtain ⟨hv, hnx, heff⟩ := wro_eff (ev := a.eval) hs hle ⟨i1, i2⟩ (cls_wr hc) hp (hr.evs xs)
      refine up (k1 := fun x H' => k x V H' ∧ V.le H') (by rw [hnc (by rw [hc]; rfl)]; exact eff_wp hr hs heff (Nat.le_of_eq hnx.symm) ⟨hk, hv⟩) (fun _ _ h => ⟨V, h⟩)
     | nil =>
      obtain ⟨x, H', hp, hk⟩ := h
      refine up (k1 := fun x H' => k x H' H') (by rw [hnc (by rw [hc]; rfl)]; exact eff_wp hr hs (wr_sound hs (hid (hnc (by rw [hc]; rfl))) (cls_wr hc) hp (hr.evs xs)) (Nat.le_of_eq (wr_nx hp).symm) hk) (fun _ H' h => ⟨H', h, AH.le_refl _⟩)
    | some f =>
      obtain ⟨tg, sr⟩ := f
      obtain ⟨x, H', hp, hk⟩ := h
      obtain ⟨hp', hle'⟩ := wrF_wr hle (hs.none_get (hid (hnc (by rw [hc]; rfl))).2) hp
      refine up (k1 := fun x H' => k x V H' ∧ V.le H') (by rw [hnc (by rw [hc]; rfl)]; exact eff_wp hr hs (wr_sound hs (hid (hnc (by rw [hc]; rfl))) (cls_wr hc) hp' (hr.evs xs)) (Nat.le_of_eq (wr_nx hp').symm) ⟨hk, hle'⟩) (fun _ _ h => ⟨V, h⟩)
  · rename_i fo xs hc
    obtain ⟨c, ho, hcc, rfl⟩ := cls_ca hc
    obtain ⟨fw, sl⟩ := fw
    cases fw with
    | some q =>
     obtain ⟨q1, q2⟩ := q
     cases q1 with
     | some q1 =>
      cases q2 with
      | some q2 =>
       cases q1 with
       | zero =>
        obtain ⟨g, first, cap, R, hf, hcal, ht, hk⟩ := h
        exact up (k1 := fun x H' => k x H' H') (ca_wp hr hs ho hcc hf hcal ht hk) (fun _ H' h => ⟨H', h, AH.le_refl _⟩)
       | succ q1 =>
        obtain ⟨g, first, cap, R, hf, hcal, ht, hk⟩ := h
        exact up (k1 := fun x H' => V.le H' ∧ k x V H') (ca_wp hr hs ho hcc hf hcal ht hk) (fun _ H' h => ⟨V, h.2, h.1⟩)
      | none =>
      obtain ⟨g, first, cap, x, fz, e0, hf, hcal, hfz, _, ht, hk⟩ := h
      obtain ⟨S2, m1, m2, m3, m4⟩ := hs.freezes (frzE H fz) H S fun p hp => by
        obtain ⟨q1, t, sz, es, q2, q3⟩ := frzE_in hp
        have := (hfz _ q1).2.2
        rw [q2] at this
        exact ⟨sz, es, q3, this, .inl ⟨t, q2⟩⟩
      have hle2 : V.le (frzL H fz) := fun id o ho => by
        rw [frzL, apE_get _ _ fun p hp e => by
          have := (hfz _ (frzE_in hp).1).2.1
          rw [e, ho] at this; cases this]
        exact hle id o ho
      have hE : Ext w S σ H w S2 σ (frzL H fz) := .still m2 m3 m4
      refine Oper.wp_mono (fun a' w' hh => ?_) (ca_wp (nd := nd) (id := id) (k := fun x H' => k x (apE e0 V) H' ∧ (apE e0 V).le H') (hr.ext hs hE) m1 ho hcc hf hcal (ht _ fun _ _ => rfl) (fun r H' _ ⟨h1, h2⟩ => by subst h1; subst h2; exact ⟨hk, apE_le e0 hle2⟩))
      obtain ⟨x, H', S', σ', ⟨g1, g2⟩, g3, g4, g5, g6, g7⟩ := hh
      have hnx : (apE (frzE H fz) H).nx = H.nx := apE_nx _ _
      exact ⟨x, _, H', S', σ', g1, g2, g3, g4, hE.trans g5, by rw [← hnx]; exact g6, fun j h1 h2 => g7 j h1 (by rw [hnx]; exact h2)⟩
     | none =>
      obtain ⟨g, first, cap, t, sz, es, hf, hcal, hd, ht, hk⟩ := h
      have hnd := hrc fo _ hc rfl
      obtain ⟨i1, i2⟩ := hid hnd
      subst hnd
      have hfv := hr.ev fo
      rw [hf] at hfv
      obtain ⟨us, hrun, hus⟩ := call_run (P := P) ho hcc hfv hcal (hr.evs c.args.toList)
      unfold Oper.wp
      rw [hrun]
      refine (ht H (mixV_le hle _) w S σ us hs hus).mono fun e w' ⟨v, S', σ', r, H', he, ⟨hq, hle2⟩, h1, h2, h3, h4, h5⟩ => ?_
      subst he
      obtain ⟨σ2, g1, g2, g3, g4⟩ := relaid hs h1 h3 h4 h5 hle2 hq h2 i1 i2 hd
      exact ⟨_, V, _, S', σ2, hk, put_le hle (hs.none_get i2), (hr.ext hs g3).put _ g2, g1, g3, Nat.le_refl _, fun j k1 k2 => g4 j (k1 rfl) k2⟩
    | none =>
    cases sl with
    | nil =>
      obtain ⟨g, first, cap, x, hf, hcal, ht, hk⟩ := h
      exact up (k1 := fun x H' => k x V H' ∧ V.le H') (ca_wp hr hs ho hcc hf hcal (ht H hle) (fun r H' _ ⟨h1, h2⟩ => by subst h1; subst h2; exact ⟨hk, hle⟩)) (fun _ _ h => ⟨V, h⟩)
    | cons j r =>
      obtain ⟨g, first, cap, x, fz, hf, hcal, hfz, ht, hk⟩ := h
      obtain ⟨S2, m1, m2, m3, m4⟩ := hs.freezes (frzE H fz) H S fun p hp => by
        obtain ⟨q1, t, sz, es, q2, q3⟩ := frzE_in hp
        have := (hfz _ q1).2.2
        rw [q2] at this
        exact ⟨sz, es, q3, this, .inl ⟨t, q2⟩⟩
      have hle2 : V.le (frzL H fz) := fun id o ho => by
        rw [frzL, apE_get _ _ fun p hp e => by
          have := (hfz _ (frzE_in hp).1).2.1
          rw [e, ho] at this; cases this]
        exact hle id o ho
      have hE : Ext w S σ H w S2 σ (frzL H fz) := .still m2 m3 m4
      refine Oper.wp_mono (fun a' w' hh => ?_) (ca_wp (nd := nd) (id := id) (k := fun x H' => k x V H' ∧ V.le H') (hr.ext hs hE) m1 ho hcc hf hcal (ht _ (mixV_le hle2 _)) (fun r H' _ ⟨h1, h2⟩ => by subst h1; subst h2; exact ⟨hk, hle2⟩))
      obtain ⟨x, H', S', σ', ⟨g1, g2⟩, g3, g4, g5, g6, g7⟩ := hh
      have hnx : (apE (frzE H fz) H).nx = H.nx := apE_nx _ _
      exact ⟨x, V, H', S', σ', g1, g2, g3, g4, hE.trans g5, by rw [← hnx]; exact g6, fun j h1 h2 => g7 j h1 (by rw [hnx]; exact h2)⟩
  · exact h.elim
  · exact h.elim
theorem gv_yield {a : Act} {env : Env} {j : Nat} {c : Option Bool} (hr : RepE n a w S σ env) (h : gv n ops env j = gb c) : yielded ops a.tmps j = c := by
  unfold gv at h
  cases hd : (ops[j]?).bind (·.dst) with
  | none => rw [hd] at h; cases c <;> cases h
  | some d =>
    rw [hd] at h
    simp only at h
    cases hb : Nat.blt d n with
    | false => rw [hb] at h; cases c <;> cases h
    | true =>
      rw [hb, cond_true] at h
      have hlt : d < n := by rw [Nat.blt_eq] at hb; exact hb
      have := hr.at_ d
      rw [h] at this
      rw [Array.getD_eq_getD_getElem?, Array.getElem?_eq_getElem (by rw [hr.size]; exact hlt), Option.getD_some] at this
      unfold yielded
      rw [hd]
      simp only [Option.bind_some]
      rw [Array.getElem?_eq_getElem (by rw [hr.size]; exact hlt)]
      cases c with
      | some c => rw [this.p_inv.1]
      | none =>
        obtain ⟨vs, hv, _⟩ := this.tup_inv
        rw [hv]
theorem skip_rp : Rp w S σ (.tup []) undef := .tup [] #[] rfl (by simp)
/-- the operations of a region, one behind the other -/
theorem seqA_sound {nd : Bool} {B0 : Nat} {Q : Exit → Act → World → Prop} : ∀ (l : List Oper) (i : Nat) (env : Env) (k : Env → AH → Prop) (a : Act) (w : World) (S : Nat → Prop) (σ : Nat → Option Value) (H : AH), RepE n a w S σ env → Sat P w S σ H →
    (∀ o ∈ l, needC (cls P o.op) = true → nd = true) → (nd = true → ∀ j, i ≤ j → j < i + l.length → b + j < H.nx ∧ σ (b + j) = none) → B0 ≤ H.nx → (nd = true → B0 ≤ b) → (∀ a' w' S' σ' env' H', k env' H' → RepE n a' w' S' σ' env' → Sat P w' S' σ' H' → Ext w S σ H w' S' σ' H' → H.nx ≤ H'.nx → (∀ j, j < B0 → σ' j = σ j) → Q .normal a' w') →
    seqA P n b ops l i env k H → wpList P ops Q l a w
  | [], i, env, k, a, w, S, σ, H, hr, hs, _, _, _, _, hQ, h => hQ a w S σ env H h hr hs (.refl _ _ _ _) (Nat.le_refl _) (fun _ _ => rfl)
  | o :: rest, i, env, k, a, w, S, σ, H, hr, hs, hnd, hres, hB, hBb, hQ, h => by
    have hid : needC (cls P o.op) = true → b + i < H.nx ∧ σ (b + i) = none := fun h => hres (hnd o (by simp) h) i (Nat.le_refl _) (by simp)
    have next : ∀ (a' : Act) (w' : World), Aft P (needC (cls P o.op)) n (b + i) w S σ H o.dst env (fun x => seqA P n b ops rest (i + 1) (setE n env o.dst x) k) a' w' → wpList P ops Q rest a' w' := by
      rintro a' w' ⟨x, H', S', σ', h1, h2, h3, h4, h5, h6⟩
      refine seqA_sound rest (i + 1) _ k a' w' S' σ' H' h2 h3 (fun o ho => hnd o (by simp [ho])) (fun hn j hj1 hj2 => ?_) (by omega) hBb (fun a2 w2 S2 σ2 env2 H2 q1 q2 q3 q4 q5 q6 => hQ a2 w2 S2 σ2 env2 H2 q1 q2 q3 (h4.trans q4) (Nat.le_trans h5 q5) (fun j hj => (q6 j hj).trans (h6 j (fun hn => by have := hBb (hnd o (by simp) hn); omega) (by omega)))) h1
      obtain ⟨g1, g2⟩ := hres hn j (by omega) (by simp; omega)
      exact ⟨by omega, by rw [h6 _ (fun _ => by omega) g1]; exact g2⟩
    simp only [seqA] at h
    unfold wpList
    cases hg : o.guard with
    | none =>
      rw [hg] at h
      rw [if_pos (by simp [Region.wanted, hg])]
      exact .inl (Oper.wp_mono next (coreS_wp hr hs hid h))
    | some g =>
      obtain ⟨j, want⟩ := g
      rw [hg] at h
      obtain ⟨c, hc, h1, h2⟩ := h
      have hy := gv_yield hr hc
      by_cases hcw : c = some want
      · rw [if_pos (by simp [Region.wanted, hg, hy, hcw])]
        exact .inl (Oper.wp_mono next (coreS_wp hr hs hid (h1 hcw)))
      · rw [if_neg (by simp [Region.wanted, hg, hy, hcw])]
        exact next _ _ ⟨.tup [], H, S, σ, h2 hcw, hr.put _ skip_rp, hs, .refl _ _ _ _, Nat.le_refl _, fun _ _ _ => rfl⟩
end
end Go.Proofs.Ytgkkilbeingleaa
