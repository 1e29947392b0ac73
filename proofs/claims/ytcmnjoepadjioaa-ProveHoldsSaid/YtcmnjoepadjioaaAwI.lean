/- Ghost steps and contracts of abstract walks: what is let go, what is frozen, what is handed on. Nothing of the program is named here. -/
import Derived.Test.YtcmnjoepadjioaaAwH
namespace Go.Proofs.Ytcmnjoepadjioaa
open Go.RowKit Go.Maps

section
variable {P : Program} {w : World} {S : Nat → Prop} {σ : Nat → Option Value} {H H0 H1 H2 V : AH} {B : Nat}
def cutS (B : Nat) (σ : Nat → Option Value) : Nat → Option Value := fun id => if id < B then σ id else none
theorem cutS_lt {id : Nat} (h : id < B) : cutS B σ id = σ id := by simp [cutS, h]
theorem cutS_some {id : Nat} {u : Value} (h : cutS B σ id = some u) : id < B ∧ σ id = some u := by
  unfold cutS at h
  split at h
  · exact ⟨by assumption, h⟩
  · cases h
/-- what names nothing from B on -/
def Cl (B : Nat) (a : AV) : Prop := ∀ w S σ v, Rp w S σ a v → Rp w S (cutS B σ) a v
def Clo (B : Nat) (ps : List AV) : Prop := ∀ a ∈ ps, Cl B a
theorem Clo.rps {ps : List AV} {vs : List Value} (h : Clo B ps) (hr : Rps w S σ ps vs) : Rps w S (cutS B σ) ps vs := ⟨hr.1, fun i a v ha hv => h a (List.mem_of_getElem? ha) _ _ _ _ (hr.2 i a v ha hv)⟩
theorem Clo.nil : Clo B [] := fun _ h => by cases h
theorem Clo.cons {a : AV} {ps : List AV} (h : Cl B a) (k : Clo B ps) : Clo B (a :: ps) := fun x hx => by
  rcases List.mem_cons.1 hx with rfl | hx
  · exact h
  · exact k x hx
theorem Clo.one {a : AV} (h : Cl B a) : Clo B [a] := .cons h .nil
theorem Cl.any : Cl B .any := fun _ _ _ _ _ => .any _
theorem Cl.p (v : Value) : Cl B (.p v) := fun _ _ _ u h => by obtain ⟨rfl, h1⟩ := h.p_inv; exact .data _ _ (.p _ h1)
theorem Cl.dsl (sz : Nat) (xs : List (List AV)) : Cl B (.dsl sz xs) := fun w S σ u h => by
  cases h with
  | data _ _ h => exact .data _ _ h
theorem Cl.dptr (sz : Nat) (xs : List (List AV)) (i j : Nat) : Cl B (.dptr sz xs i j) := fun w S σ u h => by
  cases h with
  | data _ _ h => cases h
  | dptr _ _ _ _ g o c h hi => exact .dptr _ _ _ _ g o c h hi
theorem Cl.ptr {id off : Nat} (h : id < B) : Cl B (.ptr id off) := fun w S σ u hr => by
  obtain ⟨g, rfl, hg⟩ := hr.ptr_inv; exact .ptr _ _ _ (by rw [cutS_lt h]; exact hg)
theorem Cl.mp {id : Nat} (h : id < B) : Cl B (.mp id) := fun w S σ u hr => by
  obtain ⟨g, rfl, hg⟩ := hr.mp_inv; exact .mp _ _ (by rw [cutS_lt h]; exact hg)
theorem Cl.eptr {id sz i j : Nat} (h : id < B) : Cl B (.eptr id sz i j) := fun w S σ u hr => by
  obtain ⟨g, o, n, c, rfl, hg⟩ := hr.eptr_inv; exact .eptr _ _ _ _ _ _ n c (by rw [cutS_lt h]; exact hg)
theorem Cl.osl {id sz off n : Nat} (h : id < B) : Cl B (.osl id sz off n) := fun w S σ u hr => by
  obtain ⟨A, Bx, N, c, cc, rfl, hg, h1, h2, h3⟩ := hr.osl_inv; exact .osl _ _ _ _ A _ N c _ (by rw [cutS_lt h]; exact hg) h1 h2 h3
theorem Cl.agg {cs : List AV} (h : Clo B cs) : Cl B (.agg cs) := fun w S σ u hr => by
  cases hr with
  | data _ _ hd => exact .data _ _ hd
  | agg _ vs hl hc h1 => exact .agg _ _ hl (fun i a v ha hv => h a (List.mem_of_getElem? ha) _ _ _ _ (hc i a v ha hv)) h1
theorem Cl.tup {cs : List AV} (h : Clo B cs) : Cl B (.tup cs) := fun w S σ u hr => by
  cases hr with
  | data _ _ hd => cases hd
  | tup _ vs hl hc => exact .tup _ _ hl (fun i a v ha hv => h a (List.mem_of_getElem? ha) _ _ _ _ (hc i a v ha hv))
theorem Cl.fn {f : Fn} {xs ys : List AV} (h : Clo B xs) (k : Clo B ys) : Cl B (.fn f xs ys) := fun w S σ u hr => by
  cases hr with
  | data _ _ hd => cases hd
  | fn _ _ _ fs cs h1 h2 h3 h4 => exact .fn _ _ _ fs cs h1 h2 (fun i a v ha hv => h a (List.mem_of_getElem? ha) _ _ _ _ (h3 i a v ha hv)) (fun i a v ha hv => k a (List.mem_of_getElem? ha) _ _ _ _ (h4 i a v ha hv))
theorem exRows {ps : List AV} {n : Nat} (hl : ps.length = n) {vs : List Value} (hv : vs.length = n) {i : Nat} {a : AV} (ha : ps[i]? = some a) : ∃ v, vs[i]? = some v := by
  have : i < ps.length := (List.getElem?_eq_some_iff.1 ha).1
  exact ⟨_, List.getElem?_eq_getElem (by omega)⟩
theorem RpD.cl {a : AV} {v : Value} (h : RpD w S a v) : Cl B a := by
  induction h with
  | p v _ => exact .p v
  | agg cs vs hl _ h1 ih =>
    refine .agg fun a ha => ?_
    obtain ⟨i, hi⟩ := List.getElem?_of_mem ha
    obtain ⟨u, hu⟩ := exRows hl (vs := vs.toList) (by simp) hi
    exact ih i a u hi (by simpa using hu)
  | dsl sz xs A c z h1 h2 h3 h4 _ h6 ih => exact .dsl _ _
theorem Rp.cl {a : AV} {v : Value} (h : Rp w S σ a v) (hd : ∀ id u, σ id = some u → id < B) : Cl B a := by
  induction h with
  | any v => exact .any
  | data a v h => exact h.cl
  | agg cs vs hl _ h1 ih =>
    refine .agg fun a ha => ?_
    obtain ⟨i, hi⟩ := List.getElem?_of_mem ha
    obtain ⟨u, hu⟩ := exRows hl (vs := vs.toList) (by simp) hi
    exact ih i a u hi (by simpa using hu)
  | tup cs vs hl _ ih =>
    refine .tup fun a ha => ?_
    obtain ⟨i, hi⟩ := List.getElem?_of_mem ha
    obtain ⟨u, hu⟩ := exRows hl (vs := vs.toList) (by simp) hi
    exact ih i a u hi (by simpa using hu)
  | dptr sz xs i j g o c h hi => exact .dptr _ _ _ _
  | ptr id off g h => exact .ptr (hd _ _ h)
  | eptr id sz i j g o n c h => exact .eptr (hd _ _ h)
  | osl id sz off n A Bx N c cc h h1 h2 h3 => exact .osl (hd _ _ h)
  | mp id g h => exact .mp (hd _ _ h)
  | fn f xs ys fs cs h1 h2 _ _ ih1 ih2 =>
    refine .fn (fun a ha => ?_) (fun a ha => ?_)
    · obtain ⟨i, hi⟩ := List.getElem?_of_mem ha
      obtain ⟨u, hu⟩ := exRows h1 (vs := fs.toList) (by simp) hi
      exact ih1 i a u hi (by simpa using hu)
    · obtain ⟨i, hi⟩ := List.getElem?_of_mem ha
      obtain ⟨u, hu⟩ := exRows h2 (vs := cs.toList) (by simp) hi
      exact ih2 i a u hi (by simpa using hu)
def ClO (B : Nat) : AO → Prop
  | .box _ cs => Clo B cs
  | .row _ _ es => ∀ e ∈ es, Clo B e
  | .map _ _ f => ∀ k a, f k = some a → Cl B a
  | _ => True
/-- each object names what is there -/
def WF (H : AH) : Prop := ∀ id o, H.get id = some o → id < H.nx ∧ ClO H.nx o
theorem Rps.clo {ps : List AV} {vs : List Value} (h : Rps w S σ ps vs) (hd : ∀ id u, σ id = some u → id < B) : Clo B ps := fun a ha => by
  obtain ⟨i, hi⟩ := List.getElem?_of_mem ha
  obtain ⟨u, hu⟩ := exRows h.1 (vs := vs) rfl hi
  exact (h.2 i a u hi hu).cl hd
theorem ObjOk.in_σ {id : Nat} {o : AO} (h : ObjOk P w S σ id o) : ∃ u, σ id = some u := by
  cases o with
  | box t cs => obtain ⟨g, arr, h1, _⟩ := h; exact ⟨_, h1⟩
  | row t sz es => obtain ⟨A, c, h1, _⟩ := h; exact ⟨_, h1⟩
  | frz sz es => obtain ⟨A, c, h1, _⟩ := h; exact ⟨_, h1⟩
  | map kt m f => obtain ⟨g, f', h1, _⟩ := h; exact ⟨_, h1⟩
  | siter s p => obtain ⟨g, h1, _⟩ := h; exact ⟨_, h1⟩
  | dead => exact Option.isSome_iff_exists.1 h
theorem Sat.wf (h : Sat P w S σ H) : WF H := fun id o ho => by
  have hk := h.obj id o ho
  obtain ⟨u, hu⟩ := hk.in_σ
  refine ⟨h.dom _ _ hu, ?_⟩
  cases o with
  | box t cs => obtain ⟨g, arr, h1, h2, h3, h4⟩ := hk; exact h3.clo h.dom
  | row t sz es =>
    obtain ⟨A, c, h1, h2, h3, h4, h5⟩ := hk
    intro e he a ha
    obtain ⟨i, hi⟩ := List.getElem?_of_mem he
    obtain ⟨j, hj⟩ := List.getElem?_of_mem ha
    rcases h5 with ⟨_, hc⟩ | ⟨g, o, arr, _, _, _, _, h6⟩
    · have := (List.getElem?_eq_some_iff.1 hi).1; omega
    · obtain ⟨v, _, hv⟩ := h6 i e j a hi hj; exact hv.cl h.dom
  | map kt n f =>
    obtain ⟨g, f', h1, h2, h3⟩ := hk
    intro k a ha
    rcases h3 k with ⟨h4, _⟩ | ⟨a', v, h4, _, h6⟩
    · rw [h4] at ha; cases ha
    · rw [h4] at ha; injection ha with ha; subst ha; exact h6.cl h.dom
  | _ => trivial
theorem ObjOk.cut {id : Nat} {o : AO} (h : ObjOk P w S σ id o) (hi : id < B) (hc : ClO B o) : ObjOk P w S (cutS B σ) id o := by
  cases o with
  | box t cs => obtain ⟨g, arr, h1, h2, h3, h4⟩ := h; exact ⟨g, arr, by rw [cutS_lt hi]; exact h1, h2, Clo.rps hc h3, h4⟩
  | row t sz es =>
    obtain ⟨A, c, h1, h2, h3, h4, h5⟩ := h
    refine ⟨A, c, by rw [cutS_lt hi]; exact h1, h2, h3, h4, ?_⟩
    rcases h5 with h5 | ⟨g, o, arr, k1, k2, k3, k4, k5⟩
    · exact .inl h5
    · refine .inr ⟨g, o, arr, k1, k2, k3, k4, fun i e j a he ha => ?_⟩
      obtain ⟨v, hv, hr⟩ := k5 i e j a he ha
      exact ⟨v, hv, hc e (List.mem_of_getElem? he) a (List.mem_of_getElem? ha) _ _ _ _ hr⟩
  | frz sz es => obtain ⟨A, c, h1, h2⟩ := h; exact ⟨A, c, by rw [cutS_lt hi]; exact h1, h2⟩
  | map kt n f =>
    obtain ⟨g, f', h1, h2, h3⟩ := h
    refine ⟨g, f', by rw [cutS_lt hi]; exact h1, h2, fun k => ?_⟩
    rcases h3 k with h4 | ⟨a, v, h4, h5, h6⟩
    · exact .inl h4
    · exact .inr ⟨a, v, h4, h5, hc k a h4 _ _ _ _ h6⟩
  | siter s p => obtain ⟨g, h1, h2⟩ := h; exact ⟨g, by rw [cutS_lt hi]; exact h1, h2⟩
  | dead => show (cutS B σ id).isSome = true; rw [cutS_lt hi]; exact h
/-- what was laid since is let go: the memory is as it was -/
theorem GW.back {vs : List AV} (hw : WF H0) (hg : H0.le H1) (hc : Clo H0.nx vs) : GW P H0.nx vs H1 vs H0 := by
  intro w S σ us hs hr
  have hcut : ∀ id u, cutS H0.nx σ id = some u → σ id = some u := fun id u h => (cutS_some h).2
  have hbl : ∀ {id b}, (cutS H0.nx σ id).bind blkOf = some b → (σ id).bind blkOf = some b := fun {id b} h => by
    cases hx : cutS H0.nx σ id with
    | none => rw [hx] at h; cases h
    | some u => rw [hx] at h; rw [hcut _ _ hx]; exact h
  refine ⟨S, cutS H0.nx σ, ⟨hs.sb, fun id u h => (cutS_some h).1, fun id o ho => (hs.obj id o (hg _ _ ho)).cut (hw id o ho).1 (hw id o ho).2, fun i j o o' b h1 h2 k1 k2 b1 b2 => hs.dj i j o o' b (hg _ _ h1) (hg _ _ h2) k1 k2 (hbl b1) (hbl b2), fun i o b h1 k1 b1 => hs.sep i o b (hg _ _ h1) k1 (hbl b1), fun i A n c h => hs.sl i A n c (hcut _ _ h)⟩, hc.rps hr, fun _ h => h, fun _ h => .inl h, ?_, fun id h => cutS_lt h, Nat.le_refl _⟩
  rintro b ⟨i, o, h1, h2, h3⟩
  exact ⟨i, o, hg _ _ h1, h2, hbl h3⟩
theorem GW.refl {vs : List AV} (h : B ≤ H.nx) : GW P B vs H vs H := fun w S σ us hs hr => ⟨S, σ, hs, hr, fun _ h => h, fun _ h => .inl h, fun _ h => h, fun _ _ => rfl, h⟩
theorem GW.trans {a b c : List AV} (h : GW P B a H0 b H1) (k : GW P B b H1 c H2) : GW P B a H0 c H2 := fun w S σ us hs hr => by
  obtain ⟨S', σ', h1, h2, h3, h4, h5, h6, h7⟩ := h w S σ us hs hr
  obtain ⟨S2, σ2, k1, k2, k3, k4, k5, k6, k7⟩ := k w S' σ' us h1 h2
  exact ⟨S2, σ2, k1, k2, fun b hb => k3 b (h3 b hb), fun b hb => (k4 b hb).elim (fun h => h4 b h) (fun h => .inr (h5 b h)), fun b hb => h5 b (k5 b hb), fun id hi => (k6 id hi).trans (h6 id hi), k7⟩
theorem GW.st {vs : List AV} (h : Gst P H H2) (hb : B ≤ H.nx) : GW P B vs H vs H2 := fun w S σ us hs hr => by
  obtain ⟨S', h1, h2, h3, h4⟩ := h.2 w S σ hs
  exact ⟨S', σ, h1, hr.mono h2 (fun _ _ => rfl) (fun _ _ h => h), h2, h3, h4, fun _ _ => rfl, Nat.le_trans hb h.1⟩
theorem Gh.refl {vs : List AV} {J : List AV → AH → Prop} (h : J vs H) (hb : B ≤ H.nx) : Gh P B vs H J := ⟨vs, H, .refl hb, h⟩
theorem Gh.back {vs : List AV} {J : List AV → AH → Prop} (hw : WF H0) (hg : H0.le H1) (hc : Clo H0.nx vs) (h : J vs H0) : Gh P H0.nx vs H1 J := ⟨vs, H0, .back hw hg hc, h⟩
theorem Gh.step {vs vs' : List AV} {J : List AV → AH → Prop} (h : GW P B vs H vs' H2) (k : Gh P B vs' H2 J) : Gh P B vs H J := by
  obtain ⟨v, h3, k1, k2⟩ := k; exact ⟨v, h3, h.trans k1, k2⟩
/-- one telling stands for another one -/
def Sub (P : Program) (H : AH) (a a' : AV) : Prop := ∀ w S σ u, Sat P w S σ H → Rp w S σ a u → Rp w S σ a' u
def Subs (P : Program) (H : AH) (ps qs : List AV) : Prop := ps.length = qs.length ∧ ∀ (i : Nat) (a b : AV), ps[i]? = some a → qs[i]? = some b → Sub P H a b
theorem Subs.rps {ps qs : List AV} (h : Subs P H ps qs) (hs : Sat P w S σ H) {us : List Value} (hr : Rps w S σ ps us) : Rps w S σ qs us := by
  refine ⟨h.1.symm.trans hr.1, fun i b u hb hu => ?_⟩
  have hi := (List.getElem?_eq_some_iff.1 hb).1
  have ha := List.getElem?_eq_getElem (l := ps) (i := i) (by rw [h.1]; exact hi)
  exact h.2 i _ b ha hb w S σ u hs (hr.2 i _ u ha hu)
theorem Sub.refl (a : AV) : Sub P H a a := fun _ _ _ _ _ h => h
theorem Sub.any (a : AV) : Sub P H a .any := fun _ _ _ _ _ _ => .any _
theorem Subs.nil : Subs P H [] [] := ⟨rfl, fun i a b h => by simp at h⟩
theorem Subs.cons {a b : AV} {ps qs : List AV} (h : Sub P H a b) (k : Subs P H ps qs) : Subs P H (a :: ps) (b :: qs) := by
  refine ⟨by simp [k.1], fun i x y hx hy => ?_⟩
  cases i with
  | zero => simp at hx hy; subst hx; subst hy; exact h
  | succ i => exact k.2 i x y (by simpa using hx) (by simpa using hy)
theorem Subs.refl : ∀ (ps : List AV), Subs P H ps ps
  | [] => .nil
  | a :: r => .cons (.refl a) (.refl r)
theorem Sub.tup {ps qs : List AV} (h : Subs P H ps qs) : Sub P H (.tup ps) (.tup qs) := fun w S σ u hs hr => by
  obtain ⟨vs, rfl, hv⟩ := hr.tup_inv
  exact Rps.tup (h.rps hs hv)
theorem Sub.agg {ps qs : List AV} (h : Subs P H ps qs) : Sub P H (.agg ps) (.agg qs) := fun w S σ u hs hr => by
  obtain ⟨vs, rfl, hv, h1⟩ := hr.agg_inv
  have := h.rps hs hv
  exact .agg _ _ (by simpa using this.1) (fun i a v ha hv => this.2 i a v ha (by simpa using hv)) h1
theorem Sub.nil (sz c : Nat) (hc : c ≤ maxLen) : Sub P H (.p (.slice none 0 c)) (.dsl sz []) := fun w S σ u _ hr => by
  obtain ⟨rfl, _⟩ := hr.p_inv
  exact .data _ _ (.dsl _ _ _ c (fun _ _ => .bool false) (Nat.zero_le _) hc (by simp) (by simp) (by simp) (fun _ _ => rfl))
/-- what is data wherever it lies -/
def Dt (a : AV) : Prop := ∀ w S σ v, Rp w S σ a v → RpD w S a v
def DtR (es : List (List AV)) : Prop := ∀ e ∈ es, ∀ a ∈ e, Dt a
theorem Dt.p (v : Value) : Dt (.p v) := fun _ _ _ u h => by obtain ⟨rfl, h1⟩ := h.p_inv; exact .p _ h1
theorem Dt.dsl (sz : Nat) (xs : List (List AV)) : Dt (.dsl sz xs) := fun _ _ _ _ h => h.dsl_inv
theorem Gst.freeze {r : Nat} {t : TypeId} {sz : Nat} {es : List (List AV)} (hg : H.get r = some (.row t sz es)) (hd : DtR es) : Gst P H (H.put r (.frz sz es)) := by
  refine ⟨Nat.le_refl _, fun w S σ hs => ?_⟩
  have hk := hs.obj r _ hg
  obtain ⟨A, c, h1, h2, h3, h4, h5⟩ := hk
  have hlt : ∀ b, (σ r).bind blkOf = some b → b < w.heap.size := by
    intro b hb
    rw [h1] at hb
    rcases h5 with ⟨rfl, _⟩ | ⟨g, o, arr, rfl, k1, _⟩
    · cases hb
    · injection hb with hb; subst hb; exact k1.lt
  have hget : ∀ id o, (H.put r (.frz sz es)).get id = some o → (id = r ∧ o = .frz sz es) ∨ (id ≠ r ∧ H.get id = some o) := by
    intro id o ho
    by_cases e : id = r
    · subst e; rw [AH.get_put_self] at ho; injection ho with ho; exact .inl ⟨rfl, ho.symm⟩
    · rw [AH.get_put_ne e] at ho; exact .inr ⟨e, ho⟩
  refine ⟨fun b => S b ∨ (σ r).bind blkOf = some b, ⟨fun b hb => hb.elim (hs.sb b) (hlt b), hs.dom, fun id o ho => ?_, fun i q o o' b h h' k k' => ?_, fun i o b h k hb hS => ?_, hs.sl⟩, fun b hb => .inl hb, fun b hb => hb.elim .inl fun hb => .inr ⟨r, _, hg, rfl, hb⟩, ?_⟩
  · rcases hget id o ho with ⟨rfl, rfl⟩ | ⟨e, ho⟩
    · refine ⟨A, c, h1, ?_⟩
      rcases h5 with ⟨rfl, rfl⟩ | ⟨g, o, arr, rfl, k1, k2, k3, k4⟩
      · have : es = [] := List.length_eq_zero_iff.1 (by omega)
        subst this
        exact .dsl _ _ _ _ (fun _ _ => .bool false) (Nat.zero_le _) h4 (by simp) (by simp) (by simp) (fun _ _ => rfl)
      · refine .dsl _ _ _ _ (fun i j => (arr[o + i * sz + j]?).getD (.bool false)) h3 h4 h2 (fun i e j a he ha => ?_) (fun i e j a he ha => ?_) (fun i j => ?_)
        · obtain ⟨v, hv, _⟩ := k4 i e j a he ha
          exact ⟨g, o, rfl, .inr (by rw [h1]; rfl), by rw [k1.cell, hv]; rfl⟩
        · obtain ⟨v, hv, hr⟩ := k4 i e j a he ha
          rw [hv]
          exact (hd e (List.mem_of_getElem? he) a (List.mem_of_getElem? ha) _ _ _ _ hr).mono (fun _ h => .inl h) (fun _ _ => rfl)
        · cases hv : arr[o + i * sz + j]? with
          | none => rfl
          | some u => exact k3 u (Array.mem_of_getElem? hv)
    · exact (hs.obj id o ho).mono (fun _ h => .inl h) (fun _ _ => rfl) (fun _ _ h => h) (fun _ _ _ => rfl)
  · rcases hget i o h with ⟨rfl, rfl⟩ | ⟨e, h⟩
    · cases k
    · rcases hget q o' h' with ⟨rfl, rfl⟩ | ⟨e', h'⟩
      · cases k'
      · exact fun b1 b2 => hs.dj i q o o' b h h' k k' b1 b2
  · rcases hget i o h with ⟨rfl, rfl⟩ | ⟨e, h⟩
    · cases k
    · rcases hS with hS | hS
      · exact hs.sep i o b h k hb hS
      · exact e (hs.dj i r o _ b h hg k rfl hb hS)
  · rintro b ⟨i, o, h, k, hb⟩
    rcases hget i o h with ⟨rfl, rfl⟩ | ⟨e, h⟩
    · cases k
    · exact ⟨i, o, h, k, hb⟩
theorem Sub.frz {r sz off n : Nat} {es : List (List AV)} (hg : H.get r = some (.frz sz es)) (hn : off + n ≤ es.length) : Sub P H (.osl r sz off n) (.dsl sz ((es.drop off).take n)) := fun w S σ u hs hr => by
  obtain ⟨A, Bx, N, c, cc, rfl, hσ, h1, h2, h3⟩ := hr.osl_inv
  obtain ⟨A', c', k1, k2⟩ := hs.obj r _ hg
  rw [hσ] at k1
  simp only [Option.some.injEq, Value.slice.injEq] at k1
  obtain ⟨rfl, rfl, rfl⟩ := k1
  obtain ⟨A2, c2, z, e1, r1, r2, r3, r4, r5, r6⟩ := k2.dsl_inv
  simp only [Value.slice.injEq] at e1
  obtain ⟨rfl, _, rfl⟩ := e1
  have hl : ((es.drop off).take n).length = n := by rw [List.length_take, List.length_drop]; omega
  have hget : ∀ i e, ((es.drop off).take n)[i]? = some e → i < n ∧ es[off + i]? = some e := by
    intro i e he
    rw [List.getElem?_take] at he
    split at he
    · rw [List.getElem?_drop] at he; exact ⟨by assumption, he⟩
    · cases he
  have := RpD.dsl (w := w) (S := S) sz ((es.drop off).take n) Bx cc (fun i j => z (off + i) j) (by omega) (by omega) (fun e he => r3 e (List.mem_of_mem_drop (List.mem_of_mem_take he))) (fun i e j a he ha => by
      obtain ⟨hi, he⟩ := hget i e he
      obtain ⟨g, o, rfl, hSg, hc⟩ := r4 _ e j a he ha
      refine ⟨g, o + off * sz, ?_, hSg, ?_⟩
      · rw [h3 (by omega)]; simp [Addr.add]
      · rw [show o + off * sz + i * sz + j = o + (off + i) * sz + j by rw [Nat.add_mul]; omega]; exact hc) (fun i e j a he ha => r5 _ e j a (hget i e he).2 ha) (fun i j => r6 _ _)
  rw [hl] at this
  exact .data _ _ this
/-- a slice that is held is handed over as data -/
theorem GW.freeze {r : Nat} {t : TypeId} {sz : Nat} {es : List (List AV)} {vs vs' : List AV} (hg : H.get r = some (.row t sz es)) (hd : DtR es) (hs : Subs P (H.put r (.frz sz es)) vs vs') (hb : B ≤ H.nx) : GW P B vs H vs' (H.put r (.frz sz es)) :=
  (GW.st (.freeze hg hd) hb).trans fun w S σ us h hr => ⟨S, σ, h, hs.rps h hr, fun _ h => h, fun _ h => .inl h, fun _ h => h, fun _ _ => rfl, hb⟩
theorem GW.sub {vs vs' : List AV} (hs : Subs P H vs vs') (hb : B ≤ H.nx) : GW P B vs H vs' H := fun w S σ us h hr => ⟨S, σ, h, hs.rps h hr, fun _ h => h, fun _ h => .inl h, fun _ h => h, fun _ _ => rfl, hb⟩
theorem rt_tup {vs : List AV} {Q : AV → AH → Prop} (hw : WF H0) (hg : H0.le H1) (hc : Clo H0.nx vs) (h : Q (.tup vs) H0) : Rt P H0.nx (.tup vs) Q H1 := Gh.back hw hg (.one (.tup hc)) ⟨_, rfl, h⟩
theorem rt_one {v : AV} {Q : AV → AH → Prop} (hw : WF H0) (hg : H0.le H1) (hc : Cl H0.nx v) (h : Q v H0) : Rt P H0.nx v Q H1 := Gh.back hw hg (.one hc) ⟨_, rfl, h⟩
theorem rt_refl {v : AV} {Q : AV → AH → Prop} (h : Q v H) (hb : B ≤ H.nx) : Rt P B v Q H := Gh.refl ⟨_, rfl, h⟩ hb
/-- a slice of one's own is given back as data, and all else is as it was -/
theorem rt_row {r : Nat} {t : TypeId} {sz n : Nat} {es : List (List AV)} {v v' : AV} {Q : AV → AH → Prop} (hw : WF H0) (hle : H0.nx ≤ H1.nx) (hr : H0.nx ≤ r) (hg : H0.le H1) (hrow : H1.get r = some (.row t sz es)) (hd : DtR es)
    (hs : Sub P (H1.put r (.frz sz es)) v v') (hc : Cl H0.nx v') (h : Q v' H0) : Rt P H0.nx v Q H1 :=
  Gh.step (.freeze hrow hd (.cons hs .nil) hle) (Gh.back hw (fun id o ho => by rw [AH.get_put_ne (by have := (hw id o ho).1; omega)]; exact hg id o ho) (.one hc) ⟨_, rfl, h⟩)
theorem tri_wf {f : FuncId} {ps : List AV} {Q : AV → AH → Prop} (h : WF H → Tri P f ps H Q) : Tri P f ps H Q := fun w S σ us hs hr => h hs.wf w S σ us hs hr
theorem Tri.args {f : FuncId} {ps qs : List AV} {Q : AV → AH → Prop} (hs : Subs P H ps qs) (h : Tri P f qs H Q) : Tri P f ps H Q := fun w S σ us h1 hr => h w S σ us h1 (hs.rps h1 hr)
theorem Tri.st {f : FuncId} {ps : List AV} {Q : AV → AH → Prop} (hs : Gst P H H2) (h : Tri P f ps H2 Q) : Tri P f ps H Q := fun w S σ us h1 hr => by
  obtain ⟨S', k1, k2, k3, k4⟩ := hs.2 w S σ h1
  refine (h w S' σ us k1 (hr.mono k2 (fun _ _ => rfl) (fun _ _ h => h))).mono fun e w' ⟨v, S2, σ2, r, H', q1, q2, q3, q4, q5, q6, q7⟩ => ⟨v, S2, σ2, r, H', q1, q2, q3, q4, ?_, Nat.le_trans hs.1 q6, fun id hi => q7 id (Nat.lt_of_lt_of_le hi hs.1)⟩
  exact ⟨q5.os, q5.tape, q5.output, q5.size, fun b hb hn => q5.keep b hb fun hf => hn (k4 b hf), fun b hb => q5.sup b (k2 b hb), fun b hb => by
    rcases q5.sub b hb with h | h | h
    · exact (k3 b h).elim .inl fun h => .inr (.inl h)
    · exact .inr (.inl (k4 b h))
    · exact .inr (.inr h), fun b hb => (q5.foot b hb).elim (fun h => .inl (k4 b h)) .inr, q5.sig⟩
/-- what a call gives that only reads -/
def PF (P : Program) (f : FuncId) (ps : List AV) (r : AV) : Prop := ∀ H, Tri P f ps H (fun v H' => H' = H ∧ v = r)
theorem ca_pure {f : FuncId} {first ps cap : List AV} {r : AV} {k : AV → AH → Prop} (hc : callable P f = true) (h : Tri P f (first ++ ps ++ cap) H (fun v H' => H' = H ∧ v = r)) (hk : k r H) : Ca P (.fn (.func f) first cap) ps k H :=
  ⟨f, first, cap, _, rfl, hc, h, fun v H' hq => by obtain ⟨rfl, rfl⟩ := hq; exact hk⟩
theorem ca_of {f : FuncId} {first ps cap : List AV} {Q : AV → AH → Prop} {k : AV → AH → Prop} (hc : callable P f = true) (h : Tri P f (first ++ ps ++ cap) H Q) (hk : ∀ v H', Q v H' → k v H') : Ca P (.fn (.func f) first cap) ps k H :=
  ⟨f, first, cap, Q, rfl, hc, h, hk⟩
theorem cav_pure {f : FuncId} {first ps cap : List AV} {r : AV} {k : AV → AH → Prop} (hc : callable P f = true) (h : ∀ H2, V.le H2 → Tri P f (first ++ ps ++ cap) H2 (fun v H' => H' = H2 ∧ v = r)) (hk : k r H) : CaV P V (.fn (.func f) first cap) ps k H :=
  ⟨f, first, cap, r, rfl, hc, h, hk⟩
end
end Go.Proofs.Ytcmnjoepadjioaa
