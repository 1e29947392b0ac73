/- Texts that the proof rests on, part 9: what each holds stands at its head. -/
import Derived.Test.YtcmnjoepadjioaaMc8

/- Ghost steps and contracts of abstract walks: what is let go, what is frozen, what is handed on. Nothing of the program is named here. -/
namespace Go.Proofs.Ytcmnjoepadjioaa
open Go.RowKit Go.Maps

section
variable {P : Program} {w : World} {S : Nat → Prop} {σ : Nat → Option Value} {H H0 H1 H2 V : AH} {B : Nat}
def cutS (B : Nat) (σ : Nat → Option Value) : Nat → Option Value := fun id => if id < B then σ id else none
theorem cutS_lt {id : Nat} (h : id < B) : cutS B σ id = σ id := by simp [cutS, h]
theorem cutS_some {id : Nat} {u : Value} (h : cutS B σ id = some u) : id < B ∧ σ id = some u := by
  unfold cutS at h
  split at h
  · exact ⟨by assumption, h⟩
  · cases h
/-- what names nothing from B on -/
def Cl (B : Nat) (a : AV) : Prop := ∀ w S σ v, Rp w S σ a v → Rp w S (cutS B σ) a v
def Clo (B : Nat) (ps : List AV) : Prop := ∀ a ∈ ps, Cl B a
theorem Clo.rps {ps : List AV} {vs : List Value} (h : Clo B ps) (hr : Rps w S σ ps vs) : Rps w S (cutS B σ) ps vs := ⟨hr.1, fun i a v ha hv => h a (List.mem_of_getElem? ha) _ _ _ _ (hr.2 i a v ha hv)⟩
theorem Clo.nil : Clo B [] := fun _ h => by cases h
theorem Clo.cons {a : AV} {ps : List AV} (h : Cl B a) (k : Clo B ps) : Clo B (a :: ps) := fun x hx => by
  rcases List.mem_cons.1 hx with rfl | hx
  · exact h
  · exact k x hx
theorem Clo.one {a : AV} (h : Cl B a) : Clo B [a] := .cons h .nil
theorem Cl.any : Cl B .any := fun _ _ _ _ _ => .any _
theorem Cl.p (v : Value) : Cl B (.p v) := fun _ _ _ u h => by obtain ⟨rfl, h1⟩ := h.p_inv; exact .data _ _ (.p _ h1)
theorem Cl.dsl (sz : Nat) (xs : List (List AV)) : Cl B (.dsl sz xs) := fun w S σ u h => by
  cases h with
  | data _ _ h => exact .data _ _ h
theorem Cl.dptr (sz : Nat) (xs : List (List AV)) (i j : Nat) : Cl B (.dptr sz xs i j) := fun w S σ u h => by
  cases h with
  | data _ _ h => cases h
  | dptr _ _ _ _ g o c h hi => exact .dptr _ _ _ _ g o c h hi
theorem Cl.ptr {id off : Nat} (h : id < B) : Cl B (.ptr id off) := fun w S σ u hr => by
  obtain ⟨g, rfl, hg⟩ := hr.ptr_inv; exact .ptr _ _ _ (by rw [cutS_lt h]; exact hg)
theorem Cl.mp {id : Nat} (h : id < B) : Cl B (.mp id) := fun w S σ u hr => by
  obtain ⟨g, rfl, hg⟩ := hr.mp_inv; exact .mp _ _ (by rw [cutS_lt h]; exact hg)
theorem Cl.eptr {id sz i j : Nat} (h : id < B) : Cl B (.eptr id sz i j) := fun w S σ u hr => by
  obtain ⟨g, o, n, c, rfl, hg⟩ := hr.eptr_inv; exact .eptr _ _ _ _ _ _ n c (by rw [cutS_lt h]; exact hg)
theorem Cl.osl {id sz off n : Nat} (h : id < B) : Cl B (.osl id sz off n) := fun w S σ u hr => by
  obtain ⟨A, Bx, N, c, cc, rfl, hg, h1, h2, h3⟩ := hr.osl_inv; exact .osl _ _ _ _ A _ N c _ (by rw [cutS_lt h]; exact hg) h1 h2 h3
theorem Cl.agg {cs : List AV} (h : Clo B cs) : Cl B (.agg cs) := fun w S σ u hr => by
  cases hr with
  | data _ _ hd => exact .data _ _ hd
  | agg _ vs hl hc h1 => exact .agg _ _ hl (fun i a v ha hv => h a (List.mem_of_getElem? ha) _ _ _ _ (hc i a v ha hv)) h1
theorem Cl.tup {cs : List AV} (h : Clo B cs) : Cl B (.tup cs) := fun w S σ u hr => by
  cases hr with
  | data _ _ hd => cases hd
  | tup _ vs hl hc => exact .tup _ _ hl (fun i a v ha hv => h a (List.mem_of_getElem? ha) _ _ _ _ (hc i a v ha hv))
theorem Cl.fn {f : Fn} {xs ys : List AV} (h : Clo B xs) (k : Clo B ys) : Cl B (.fn f xs ys) := fun w S σ u hr => by
  cases hr with
  | data _ _ hd => cases hd
  | fn _ _ _ fs cs h1 h2 h3 h4 => exact .fn _ _ _ fs cs h1 h2 (fun i a v ha hv => h a (List.mem_of_getElem? ha) _ _ _ _ (h3 i a v ha hv)) (fun i a v ha hv => k a (List.mem_of_getElem? ha) _ _ _ _ (h4 i a v ha hv))
theorem exRows {ps : List AV} {n : Nat} (hl : ps.length = n) {vs : List Value} (hv : vs.length = n) {i : Nat} {a : AV} (ha : ps[i]? = some a) : ∃ v, vs[i]? = some v := by
  have : i < ps.length := (List.getElem?_eq_some_iff.1 ha).1
  exact ⟨_, List.getElem?_eq_getElem (by omega)⟩
theorem RpD.cl {a : AV} {v : Value} (h : RpD w S a v) : Cl B a := by
  induction h with
  | p v _ => exact .p v
  | agg cs vs hl _ h1 ih =>
    refine .agg fun a ha => ?_
    obtain ⟨i, hi⟩ := List.getElem?_of_mem ha
    obtain ⟨u, hu⟩ := exRows hl (vs := vs.toList) (by simp) hi
    exact ih i a u hi (by simpa using hu)
  | dsl sz xs A c z h1 h2 h3 h4 _ h6 ih => exact .dsl _ _
theorem Rp.cl {a : AV} {v : Value} (h : Rp w S σ a v) (hd : ∀ id u, σ id = some u → id < B) : Cl B a := by
  induction h with
  | any v => exact .any
  | data a v h => exact h.cl
  | agg cs vs hl _ h1 ih =>
    refine .agg fun a ha => ?_
    obtain ⟨i, hi⟩ := List.getElem?_of_mem ha
    obtain ⟨u, hu⟩ := exRows hl (vs := vs.toList) (by simp) hi
    exact ih i a u hi (by simpa using hu)
  | tup cs vs hl _ ih =>
    refine .tup fun a ha => ?_
    obtain ⟨i, hi⟩ := List.getElem?_of_mem ha
    obtain ⟨u, hu⟩ := exRows hl (vs := vs.toList) (by simp) hi
    exact ih i a u hi (by simpa using hu)
  | dptr sz xs i j g o c h hi => exact .dptr _ _ _ _
  | ptr id off g h => exact .ptr (hd _ _ h)
  | eptr id sz i j g o n c h => exact .eptr (hd _ _ h)
  | osl id sz off n A Bx N c cc h h1 h2 h3 => exact .osl (hd _ _ h)
  | mp id g h => exact .mp (hd _ _ h)
  | fn f xs ys fs cs h1 h2 _ _ ih1 ih2 =>
    refine .fn (fun a ha => ?_) (fun a ha => ?_)
    · obtain ⟨i, hi⟩ := List.getElem?_of_mem ha
      obtain ⟨u, hu⟩ := exRows h1 (vs := fs.toList) (by simp) hi
      exact ih1 i a u hi (by simpa using hu)
    · obtain ⟨i, hi⟩ := List.getElem?_of_mem ha
      obtain ⟨u, hu⟩ := exRows h2 (vs := cs.toList) (by simp) hi
      exact ih2 i a u hi (by simpa using hu)
def ClO (B : Nat) : AO → Prop
  | .box _ cs => Clo B cs
  | .row _ _ es => ∀ e ∈ es, Clo B e
  | .map _ _ f => ∀ k a, f k = some a → Cl B a
  | _ => True
/-- each object names what is there -/
def WF (H : AH) : Prop := ∀ id o, H.get id = some o → id < H.nx ∧ ClO H.nx o
theorem Rps.clo {ps : List AV} {vs : List Value} (h : Rps w S σ ps vs) (hd : ∀ id u, σ id = some u → id < B) : Clo B ps := fun a ha => by
  obtain ⟨i, hi⟩ := List.getElem?_of_mem ha
  obtain ⟨u, hu⟩ := exRows h.1 (vs := vs) rfl hi
  exact (h.2 i a u hi hu).cl hd
theorem ObjOk.in_σ {id : Nat} {o : AO} (h : ObjOk P w S σ id o) : ∃ u, σ id = some u := by
  cases o with
  | box t cs => obtain ⟨g, arr, h1, _⟩ := h; exact ⟨_, h1⟩
  | row t sz es => obtain ⟨A, c, h1, _⟩ := h; exact ⟨_, h1⟩
  | frz sz es => obtain ⟨A, c, h1, _⟩ := h; exact ⟨_, h1⟩
  | map kt m f => obtain ⟨g, f', h1, _⟩ := h; exact ⟨_, h1⟩
  | siter s p => obtain ⟨g, h1, _⟩ := h; exact ⟨_, h1⟩
  | dead => exact Option.isSome_iff_exists.1 h
theorem Sat.wf (h : Sat P w S σ H) : WF H := fun id o ho => by
  have hk := h.obj id o ho
  obtain ⟨u, hu⟩ := hk.in_σ
  refine ⟨h.dom _ _ hu, ?_⟩
  cases o with
  | box t cs => obtain ⟨g, arr, h1, h2, h3, h4⟩ := hk; exact h3.clo h.dom
  | row t sz es =>
    obtain ⟨A, c, h1, h2, h3, h4, h5⟩ := hk
    intro e he a ha
    obtain ⟨i, hi⟩ := List.getElem?_of_mem he
    obtain ⟨j, hj⟩ := List.getElem?_of_mem ha
    rcases h5 with ⟨_, hc⟩ | ⟨g, o, arr, _, _, _, _, h6⟩
    · have := (List.getElem?_eq_some_iff.1 hi).1; omega
    · obtain ⟨v, _, hv⟩ := h6 i e j a hi hj; exact hv.cl h.dom
  | map kt n f =>
    obtain ⟨g, f', h1, h2, h3⟩ := hk
    intro k a ha
    rcases h3 k with ⟨h4, _⟩ | ⟨a', v, h4, _, h6⟩
    · rw [h4] at ha; cases ha
    · rw [h4] at ha; injection ha with ha; subst ha; exact h6.cl h.dom
  | _ => trivial
theorem ObjOk.cut {id : Nat} {o : AO} (h : ObjOk P w S σ id o) (hi : id < B) (hc : ClO B o) : ObjOk P w S (cutS B σ) id o := by
  cases o with
  | box t cs => obtain ⟨g, arr, h1, h2, h3, h4⟩ := h; exact ⟨g, arr, by rw [cutS_lt hi]; exact h1, h2, Clo.rps hc h3, h4⟩
  | row t sz es =>
    obtain ⟨A, c, h1, h2, h3, h4, h5⟩ := h
    refine ⟨A, c, by rw [cutS_lt hi]; exact h1, h2, h3, h4, ?_⟩
    rcases h5 with h5 | ⟨g, o, arr, k1, k2, k3, k4, k5⟩
    · exact .inl h5
    · refine .inr ⟨g, o, arr, k1, k2, k3, k4, fun i e j a he ha => ?_⟩
      obtain ⟨v, hv, hr⟩ := k5 i e j a he ha
      exact ⟨v, hv, hc e (List.mem_of_getElem? he) a (List.mem_of_getElem? ha) _ _ _ _ hr⟩
  | frz sz es => obtain ⟨A, c, h1, h2⟩ := h; exact ⟨A, c, by rw [cutS_lt hi]; exact h1, h2⟩
  | map kt n f =>
    obtain ⟨g, f', h1, h2, h3⟩ := h
    refine ⟨g, f', by rw [cutS_lt hi]; exact h1, h2, fun k => ?_⟩
    rcases h3 k with h4 | ⟨a, v, h4, h5, h6⟩
    · exact .inl h4
    · exact .inr ⟨a, v, h4, h5, hc k a h4 _ _ _ _ h6⟩
  | siter s p => obtain ⟨g, h1, h2⟩ := h; exact ⟨g, by rw [cutS_lt hi]; exact h1, h2⟩
  | dead => show (cutS B σ id).isSome = true; rw [cutS_lt hi]; exact h
/-- what was laid since is let go: the memory is as it was -/
theorem GW.back {vs : List AV} (hw : WF H0) (hg : H0.le H1) (hc : Clo H0.nx vs) : GW P H0.nx vs H1 vs H0 := by
  intro w S σ us hs hr
  have hcut : ∀ id u, cutS H0.nx σ id = some u → σ id = some u := fun id u h => (cutS_some h).2
  have hbl : ∀ {id b}, (cutS H0.nx σ id).bind blkOf = some b → (σ id).bind blkOf = some b := fun {id b} h => by
    cases hx : cutS H0.nx σ id with
    | none => rw [hx] at h; cases h
    | some u => rw [hx] at h; rw [hcut _ _ hx]; exact h
  refine ⟨S, cutS H0.nx σ, ⟨hs.sb, fun id u h => (cutS_some h).1, fun id o ho => (hs.obj id o (hg _ _ ho)).cut (hw id o ho).1 (hw id o ho).2, fun i j o o' b h1 h2 k1 k2 b1 b2 => hs.dj i j o o' b (hg _ _ h1) (hg _ _ h2) k1 k2 (hbl b1) (hbl b2), fun i o b h1 k1 b1 => hs.sep i o b (hg _ _ h1) k1 (hbl b1), fun i A n c h => hs.sl i A n c (hcut _ _ h)⟩, hc.rps hr, fun _ h => h, fun _ h => .inl h, ?_, fun id h => cutS_lt h, Nat.le_refl _⟩
  rintro b ⟨i, o, h1, h2, h3⟩
  exact ⟨i, o, hg _ _ h1, h2, hbl h3⟩
theorem GW.refl {vs : List AV} (h : B ≤ H.nx) : GW P B vs H vs H := fun w S σ us hs hr => ⟨S, σ, hs, hr, fun _ h => h, fun _ h => .inl h, fun _ h => h, fun _ _ => rfl, h⟩
theorem GW.trans {a b c : List AV} (h : GW P B a H0 b H1) (k : GW P B b H1 c H2) : GW P B a H0 c H2 := fun w S σ us hs hr => by
  obtain ⟨S', σ', h1, h2, h3, h4, h5, h6, h7⟩ := h w S σ us hs hr
  obtain ⟨S2, σ2, k1, k2, k3, k4, k5, k6, k7⟩ := k w S' σ' us h1 h2
  exact ⟨S2, σ2, k1, k2, fun b hb => k3 b (h3 b hb), fun b hb => (k4 b hb).elim (fun h => h4 b h) (fun h => .inr (h5 b h)), fun b hb => h5 b (k5 b hb), fun id hi => (k6 id hi).trans (h6 id hi), k7⟩
theorem GW.st {vs : List AV} (h : Gst P H H2) (hb : B ≤ H.nx) : GW P B vs H vs H2 := fun w S σ us hs hr => by
  obtain ⟨S', h1, h2, h3, h4⟩ := h.2 w S σ hs
  exact ⟨S', σ, h1, hr.mono h2 (fun _ _ => rfl) (fun _ _ h => h), h2, h3, h4, fun _ _ => rfl, Nat.le_trans hb h.1⟩
theorem Gh.refl {vs : List AV} {J : List AV → AH → Prop} (h : J vs H) (hb : B ≤ H.nx) : Gh P B vs H J := ⟨vs, H, .refl hb, h⟩
theorem Gh.back {vs : List AV} {J : List AV → AH → Prop} (hw : WF H0) (hg : H0.le H1) (hc : Clo H0.nx vs) (h : J vs H0) : Gh P H0.nx vs H1 J := ⟨vs, H0, .back hw hg hc, h⟩
theorem Gh.step {vs vs' : List AV} {J : List AV → AH → Prop} (h : GW P B vs H vs' H2) (k : Gh P B vs' H2 J) : Gh P B vs H J := by
  obtain ⟨v, h3, k1, k2⟩ := k; exact ⟨v, h3, h.trans k1, k2⟩
/-- one telling stands for another one -/
def Sub (P : Program) (H : AH) (a a' : AV) : Prop := ∀ w S σ u, Sat P w S σ H → Rp w S σ a u → Rp w S σ a' u
def Subs (P : Program) (H : AH) (ps qs : List AV) : Prop := ps.length = qs.length ∧ ∀ (i : Nat) (a b : AV), ps[i]? = some a → qs[i]? = some b → Sub P H a b
theorem Subs.rps {ps qs : List AV} (h : Subs P H ps qs) (hs : Sat P w S σ H) {us : List Value} (hr : Rps w S σ ps us) : Rps w S σ qs us := by
  refine ⟨h.1.symm.trans hr.1, fun i b u hb hu => ?_⟩
  have hi := (List.getElem?_eq_some_iff.1 hb).1
  have ha := List.getElem?_eq_getElem (l := ps) (i := i) (by rw [h.1]; exact hi)
  exact h.2 i _ b ha hb w S σ u hs (hr.2 i _ u ha hu)
theorem Sub.refl (a : AV) : Sub P H a a := fun _ _ _ _ _ h => h
theorem Sub.any (a : AV) : Sub P H a .any := fun _ _ _ _ _ _ => .any _
theorem Subs.nil : Subs P H [] [] := ⟨rfl, fun i a b h => by simp at h⟩
theorem Subs.cons {a b : AV} {ps qs : List AV} (h : Sub P H a b) (k : Subs P H ps qs) : Subs P H (a :: ps) (b :: qs) := by
  refine ⟨by simp [k.1], fun i x y hx hy => ?_⟩
  cases i with
  | zero => simp at hx hy; subst hx; subst hy; exact h
  | succ i => exact k.2 i x y (by simpa using hx) (by simpa using hy)
theorem Subs.refl : ∀ (ps : List AV), Subs P H ps ps
  | [] => .nil
  | a :: r => .cons (.refl a) (.refl r)
theorem Sub.tup {ps qs : List AV} (h : Subs P H ps qs) : Sub P H (.tup ps) (.tup qs) := fun w S σ u hs hr => by
  obtain ⟨vs, rfl, hv⟩ := hr.tup_inv
  exact Rps.tup (h.rps hs hv)
theorem Sub.agg {ps qs : List AV} (h : Subs P H ps qs) : Sub P H (.agg ps) (.agg qs) := fun w S σ u hs hr => by
  obtain ⟨vs, rfl, hv, h1⟩ := hr.agg_inv
  have := h.rps hs hv
  exact .agg _ _ (by simpa using this.1) (fun i a v ha hv => this.2 i a v ha (by simpa using hv)) h1
theorem Sub.nil (sz c : Nat) (hc : c ≤ maxLen) : Sub P H (.p (.slice none 0 c)) (.dsl sz []) := fun w S σ u _ hr => by
  obtain ⟨rfl, _⟩ := hr.p_inv
  exact .data _ _ (.dsl _ _ _ c (fun _ _ => .bool false) (Nat.zero_le _) hc (by simp) (by simp) (by simp) (fun _ _ => rfl))
theorem Gst.freeze {r : Nat} {t : TypeId} {sz : Nat} {es : List (List AV)} (hg : H.get r = some (.row t sz es)) (hd : DtR es) : Gst P H (H.put r (.frz sz es)) :=
  ⟨Nat.le_refl _, fun _ _ _ hs => hs.freeze hg hd⟩
theorem Sub.frz {r sz off n : Nat} {es : List (List AV)} (hg : H.get r = some (.frz sz es)) (hn : off + n ≤ es.length) : Sub P H (.osl r sz off n) (.dsl sz ((es.drop off).take n)) := fun w S σ u hs hr => by
  obtain ⟨A, Bx, N, c, cc, rfl, hσ, h1, h2, h3⟩ := hr.osl_inv
  obtain ⟨A', c', k1, k2⟩ := hs.obj r _ hg
  rw [hσ] at k1
  simp only [Option.some.injEq, Value.slice.injEq] at k1
  obtain ⟨rfl, rfl, rfl⟩ := k1
  obtain ⟨A2, c2, z, e1, r1, r2, r3, r4, r5, r6⟩ := k2.dsl_inv
  simp only [Value.slice.injEq] at e1
  obtain ⟨rfl, _, rfl⟩ := e1
  have hl : ((es.drop off).take n).length = n := by rw [List.length_take, List.length_drop]; omega
  have hget : ∀ i e, ((es.drop off).take n)[i]? = some e → i < n ∧ es[off + i]? = some e := by
    intro i e he
    rw [List.getElem?_take] at he
    split at he
    · rw [List.getElem?_drop] at he; exact ⟨by assumption, he⟩
    · cases he
  have := RpD.dsl (w := w) (S := S) sz ((es.drop off).take n) Bx cc (fun i j => z (off + i) j) (by omega) (by omega) (fun e he => r3 e (List.mem_of_mem_drop (List.mem_of_mem_take he))) (fun i e j a he ha => by
      obtain ⟨hi, he⟩ := hget i e he
      obtain ⟨g, o, rfl, hSg, hc⟩ := r4 _ e j a he ha
      refine ⟨g, o + off * sz, ?_, hSg, ?_⟩
      · rw [h3 (by omega)]; simp [Addr.add]
      · rw [show o + off * sz + i * sz + j = o + (off + i) * sz + j by rw [Nat.add_mul]; omega]; exact hc) (fun i e j a he ha => r5 _ e j a (hget i e he).2 ha) (fun i j => r6 _ _)
  rw [hl] at this
  exact .data _ _ this
/-- a slice that is held is handed over as data -/
theorem GW.freeze {r : Nat} {t : TypeId} {sz : Nat} {es : List (List AV)} {vs vs' : List AV} (hg : H.get r = some (.row t sz es)) (hd : DtR es) (hs : Subs P (H.put r (.frz sz es)) vs vs') (hb : B ≤ H.nx) : GW P B vs H vs' (H.put r (.frz sz es)) :=
  (GW.st (.freeze hg hd) hb).trans fun w S σ us h hr => ⟨S, σ, h, hs.rps h hr, fun _ h => h, fun _ h => .inl h, fun _ h => h, fun _ _ => rfl, hb⟩
theorem GW.sub {vs vs' : List AV} (hs : Subs P H vs vs') (hb : B ≤ H.nx) : GW P B vs H vs' H := fun w S σ us h hr => ⟨S, σ, h, hs.rps h hr, fun _ h => h, fun _ h => .inl h, fun _ h => h, fun _ _ => rfl, hb⟩
theorem rt_tup {vs : List AV} {Q : AV → AH → Prop} (hw : WF H0) (hg : H0.le H1) (hc : Clo H0.nx vs) (h : Q (.tup vs) H0) : Rt P H0.nx (.tup vs) Q H1 := Gh.back hw hg (.one (.tup hc)) ⟨_, rfl, h⟩
theorem rt_one {v : AV} {Q : AV → AH → Prop} (hw : WF H0) (hg : H0.le H1) (hc : Cl H0.nx v) (h : Q v H0) : Rt P H0.nx v Q H1 := Gh.back hw hg (.one hc) ⟨_, rfl, h⟩
theorem rt_refl {v : AV} {Q : AV → AH → Prop} (h : Q v H) (hb : B ≤ H.nx) : Rt P B v Q H := Gh.refl ⟨_, rfl, h⟩ hb
/-- a slice of one's own is given back as data, and all else is as it was -/
theorem rt_row {r : Nat} {t : TypeId} {sz n : Nat} {es : List (List AV)} {v v' : AV} {Q : AV → AH → Prop} (hw : WF H0) (hle : H0.nx ≤ H1.nx) (hr : H0.nx ≤ r) (hg : H0.le H1) (hrow : H1.get r = some (.row t sz es)) (hd : DtR es)
    (hs : Sub P (H1.put r (.frz sz es)) v v') (hc : Cl H0.nx v') (h : Q v' H0) : Rt P H0.nx v Q H1 :=
  Gh.step (.freeze hrow hd (.cons hs .nil) hle) (Gh.back hw (fun id o ho => by rw [AH.get_put_ne (by have := (hw id o ho).1; omega)]; exact hg id o ho) (.one hc) ⟨_, rfl, h⟩)
theorem tri_wf {f : FuncId} {ps : List AV} {Q : AV → AH → Prop} (h : WF H → Tri P f ps H Q) : Tri P f ps H Q := fun w S σ us hs hr => h hs.wf w S σ us hs hr
theorem Tri.args {f : FuncId} {ps qs : List AV} {Q : AV → AH → Prop} (hs : Subs P H ps qs) (h : Tri P f qs H Q) : Tri P f ps H Q := fun w S σ us h1 hr => h w S σ us h1 (hs.rps h1 hr)
theorem Tri.st {f : FuncId} {ps : List AV} {Q : AV → AH → Prop} (hs : Gst P H H2) (h : Tri P f ps H2 Q) : Tri P f ps H Q := fun w S σ us h1 hr => by
  obtain ⟨S', k1, k2, k3, k4⟩ := hs.2 w S σ h1
  refine (h w S' σ us k1 (hr.mono k2 (fun _ _ => rfl) (fun _ _ h => h))).mono fun e w' ⟨v, S2, σ2, r, H', q1, q2, q3, q4, q5, q6, q7⟩ => ⟨v, S2, σ2, r, H', q1, q2, q3, q4, ?_, Nat.le_trans hs.1 q6, fun id hi => q7 id (Nat.lt_of_lt_of_le hi hs.1)⟩
  exact ⟨q5.os, q5.tape, q5.output, q5.size, fun b hb hn => q5.keep b hb fun hf => hn (k4 b hf), fun b hb => q5.sup b (k2 b hb), fun b hb => by
    rcases q5.sub b hb with h | h | h
    · exact (k3 b h).elim .inl fun h => .inr (.inl h)
    · exact .inr (.inl (k4 b h))
    · exact .inr (.inr h), fun b hb => (q5.foot b hb).elim (fun h => .inl (k4 b h)) .inr, q5.sig⟩
/-- what a call gives that only reads -/
def PF (P : Program) (f : FuncId) (ps : List AV) (r : AV) : Prop := ∀ H, Tri P f ps H (fun v H' => H' = H ∧ v = r)
theorem ca_pure {f : FuncId} {first ps cap : List AV} {r : AV} {k : AV → AH → Prop} (hc : callable P f = true) (h : Tri P f (first ++ ps ++ cap) H (fun v H' => H' = H ∧ v = r)) (hk : k r H) : Ca P (.fn (.func f) first cap) ps k H :=
  ⟨f, first, cap, _, rfl, hc, h, fun v H' _ hq => by obtain ⟨rfl, rfl⟩ := hq; exact hk⟩
theorem ca_of {f : FuncId} {first ps cap : List AV} {Q : AV → AH → Prop} {k : AV → AH → Prop} (hc : callable P f = true) (h : Tri P f (first ++ ps ++ cap) H Q) (hk : ∀ v H', Q v H' → k v H') : Ca P (.fn (.func f) first cap) ps k H :=
  ⟨f, first, cap, Q, rfl, hc, h, fun v H' _ hq => hk v H' hq⟩
theorem ca_wf {f : FuncId} {first ps cap : List AV} {Q : AV → AH → Prop} {k : AV → AH → Prop} (hc : callable P f = true) (h : Tri P f (first ++ ps ++ cap) H Q) (hk : ∀ v H', WF H' → Q v H' → k v H') : Ca P (.fn (.func f) first cap) ps k H :=
  ⟨f, first, cap, Q, rfl, hc, h, fun v H' ⟨_, _, _, hs⟩ hq => hk v H' hs.wf hq⟩
theorem can_pure {sl : List Nat} {f : FuncId} {first ps cap : List AV} {r : AV} {k : AV → AH → Prop} (hc : callable P f = true) (h : ∀ H2, (mixV V H sl).le H2 → Tri P f (first ++ ps ++ cap) H2 (fun v H' => H' = H2 ∧ v = r)) (hk : k r H) : CaN P V sl (.fn (.func f) first cap) ps k H :=
  ⟨f, first, cap, r, [], rfl, hc, by simp, h, hk⟩
/-- a row that the region has laid is handed over as data -/
theorem can_frz {sl : List Nat} {i : Nat} {t sz : Nat} {es : List (List AV)} {f : FuncId} {first ps cap : List AV} {r : AV} {k : AV → AH → Prop} (hc : callable P f = true) (hi : i ∈ sl) (hv : V.get i = none) (hg : H.get i = some (.row t sz es)) (hd : DtR es)
    (h : ∀ H2, (mixV V (H.put i (.frz sz es)) sl).le H2 → Tri P f (first ++ ps ++ cap) H2 (fun v H' => H' = H2 ∧ v = r)) (hk : k r (H.put i (.frz sz es))) : CaN P V sl (.fn (.func f) first cap) ps k H := by
  have he : frzL H [i] = H.put i (.frz sz es) := by simp [frzL, frzE, hg, frzO, apE]
  refine ⟨f, first, cap, r, [i], rfl, hc, fun j hj => ?_, by rw [he]; exact h, by rw [he]; exact hk⟩
  simp at hj; subst hj
  exact ⟨hi, hv, by rw [hg]; exact hd⟩
theorem cav_pure {f : FuncId} {first ps cap : List AV} {r : AV} {k : AV → AH → Prop} (hc : callable P f = true) (h : ∀ H2, V.le H2 → Tri P f (first ++ ps ++ cap) H2 (fun v H' => H' = H2 ∧ v = r)) (hk : k r H) : CaV P V (.fn (.func f) first cap) ps k H :=
  ⟨f, first, cap, r, rfl, hc, h, hk⟩
end
end Go.Proofs.Ytcmnjoepadjioaa

/- The words that simplify an abstract walk. Nothing of the program is named here. -/
namespace Go.Proofs.Ytcmnjoepadjioaa
open Go.RowKit Go.Maps
attribute [congr] onSome_congr pu_congr rds_congr rd_congr al_congr wr_congr wrs_congr wrf_congr ca_congr cav_congr can_congr cdb_congr gdb_congr gvb_congr loop_congr cut_congr rt_congr ldF_congr lookF_congr stBox_congr stRow_congr appRow_congr appNil_congr msetF_congr clrRow_congr
attribute [simp ↓ high] cd_t cd_f gd_tt gd_ff gd_tf gd_ft gdv_tt gdv_ff gdv_tf gdv_ft gd_sk gdv_sk cdb_t cdb_f gdb_tt gdb_ff gdb_tf gdb_ft gvb_tt gvb_ff gvb_tf gvb_ft pick_t pick_f onSome_some
attribute [simp ↓] q_mv q_pick q_nil_ptr q_nil_eptr q_nil_dptr q_nil_fn q_add_ptr q_add_eptr q_add_dptr q_idx_dsl q_idx_osl q_aidx_ptr q_aidx_eptr q_aidx_dptr q_fld_agg q_add_i q_sub_i q_mul_i q_quo_i q_rem_i q_and_i q_or_i q_xor_i q_eql_i q_neq_i q_lss_i q_leq_i q_gtr_i q_geq_i q_shl_i q_shr_i q_eql_b q_neq_b q_eql_s q_neq_s q_add_s q_lss_s q_neg_i q_not_b q_conv_i q_same_s q_len_dsl q_len_osl q_len_nil q_len_s q_slc_00 q_slc_10 q_slc_01 q_slc_11 q_slo_00 q_slo_10 q_slo_01 q_slo_11 q_ssl_00 q_ssl_10 q_ssl_01 q_ssl_11 q_cap_nil q_slc_nil q_mn_i q_mx_i q_mkfn q_fld_one q_ext q_sidx q_bld rds_eq wrs_eq rdn_eq rd_ld rd_look al_nw al_bx al_mm al_ms al_bs wr_st_ptr wr_st_eptr wr_app_osl wr_app_nil q_mset wr_apz_nil wr_clr_osl wf_st cd_b gd_b gdv_b cdb_eq gdb_eq gvb_eq rg_eq vw_eq q_eqnil_p q_eqnil_dsl q_eqnil_osl q_nenil_p q_nenil_dsl q_nenil_osl
attribute [simp] mixV_nil mixV_cons mixO_some mixO_none bm_eq boxAt_box rowAt_row rowAt_frz atF_ptr atF_eptr atF_dptr ldF_t ldF_f elF_dsl elF_nil elF_osl elRow_row elRow_frz up_get up_nx put_nx kill_nx put_get stBox stRow appRow appNil msetF clrRow lookF fillA chunks
@[simp] theorem part_p (v : Value) : AV.part (.p v) = true := rfl
@[simp] theorem cells_p (v : Value) : AV.cells (.p v) = [(.p v)] := rfl
@[simp] theorem part_dsl (sz : Nat) (xs : List (List AV)) : AV.part (.dsl sz xs) = true := rfl
@[simp] theorem cells_dsl (sz : Nat) (xs : List (List AV)) : AV.cells (.dsl sz xs) = [(.dsl sz xs)] := rfl
@[simp] theorem part_dptr (sz : Nat) (xs : List (List AV)) (i j : Nat) : AV.part (.dptr sz xs i j) = true := rfl
@[simp] theorem cells_dptr (sz : Nat) (xs : List (List AV)) (i j : Nat) : AV.cells (.dptr sz xs i j) = [(.dptr sz xs i j)] := rfl
@[simp] theorem part_ptr (i j : Nat) : AV.part (.ptr i j) = true := rfl
@[simp] theorem cells_ptr (i j : Nat) : AV.cells (.ptr i j) = [(.ptr i j)] := rfl
@[simp] theorem part_eptr (i sz q j : Nat) : AV.part (.eptr i sz q j) = true := rfl
@[simp] theorem cells_eptr (i sz q j : Nat) : AV.cells (.eptr i sz q j) = [(.eptr i sz q j)] := rfl
@[simp] theorem part_osl (i sz q j : Nat) : AV.part (.osl i sz q j) = true := rfl
@[simp] theorem cells_osl (i sz q j : Nat) : AV.cells (.osl i sz q j) = [(.osl i sz q j)] := rfl
@[simp] theorem part_mp (i : Nat) : AV.part (.mp i) = true := rfl
@[simp] theorem cells_mp (i : Nat) : AV.cells (.mp i) = [(.mp i)] := rfl
@[simp] theorem part_fn (f : Fn) (xs ys : List AV) : AV.part (.fn f xs ys) = true := rfl
@[simp] theorem cells_fn (f : Fn) (xs ys : List AV) : AV.cells (.fn f xs ys) = [(.fn f xs ys)] := rfl
@[simp] theorem part_agg (cs : List AV) : AV.part (.agg cs) = true := rfl
@[simp] theorem cells_agg (cs : List AV) : AV.cells (.agg cs) = cs := rfl
@[simp] theorem val_p (v : Value) : AV.val (.p v) = some v := rfl
@[simp] theorem vals_nil : vals [] = some [] := rfl
@[simp] theorem vals_p (v : Value) (r : List AV) : vals (.p v :: r) = (vals r).map (v :: ·) := by cases h : vals r <;> simp [vals, h]
@[simp] theorem val_agg (cs : List AV) : AV.val (.agg cs) = (vals cs).map fun vs => .agg vs.toArray := by cases h : vals cs <;> simp [AV.val, h]
theorem wrapI {x : Int} (h : -9223372036854775808 ≤ x) (k : x ≤ 9223372036854775807) : IntKind.i64.wrap x = x := by rw [IntKind.wrap_i64]; omega
@[simp] theorem wrap_lit (n : Nat) (h : n < 9223372036854775808) : IntKind.i64.wrap (no_index (OfNat.ofNat n)) = OfNat.ofNat n := by
  show IntKind.i64.wrap ((n : Nat) : Int) = ((n : Nat) : Int)
  rw [IntKind.wrap_i64]; omega
@[simp] theorem wrap_neg_lit (n : Nat) (h : n < 9223372036854775808) : IntKind.i64.wrap (no_index (-OfNat.ofNat n)) = -OfNat.ofNat n := by
  show IntKind.i64.wrap (-((n : Nat) : Int)) = -((n : Nat) : Int)
  rw [IntKind.wrap_i64]; omega
end Go.Proofs.Ytcmnjoepadjioaa

/- Loops, joins and calls of abstract walks, as one uses them. Nothing of the program is named here. -/
namespace Go.Proofs.Ytcmnjoepadjioaa
open Go.RowKit Go.Maps

section
variable {P : Program} {w : World} {S : Nat → Prop} {σ : Nat → Option Value} {H H0 H1 H2 V : AH} {B : Nat}
theorem AH.le.refl (H : AH) : H.le H := fun _ _ h => h
theorem AH.le.trans (h : H0.le H1) (k : H1.le H2) : H0.le H2 := fun _ _ q => k _ _ (h _ _ q)
theorem AH.le.up {n : Nat} (h : H0.le H1) : H0.le (H1.up n) := h
theorem AH.le.put {i : Nat} {o : AO} (hw : WF H0) (hi : H0.nx ≤ i) (h : H0.le H1) : H0.le (H1.put i o) := fun id o' ho => by
  rw [AH.get_put_ne (by have := (hw id o' ho).1; omega)]; exact h _ _ ho
theorem AH.le.kill {i : Nat} (hw : WF H0) (hi : H0.nx ≤ i) (h : H0.le H1) : H0.le (H1.kill i) := AH.le.put hw hi h
theorem AH.le.get_ {i : Nat} {o : AO} (h : H0.le H1) (hg : H0.get i = some o) : H1.get i = some o := h _ _ hg
theorem wf_none (hw : WF H) {i : Nat} (h : H.nx ≤ i) : H.get i = none := by
  cases hg : H.get i with
  | none => rfl
  | some o => have := (hw i o hg).1; omega
theorem least {S : Nat → Prop} : ∀ n, S n → ∃ n, S n ∧ ∀ m, S m → n ≤ m := by
  intro n
  induction n using Nat.strongRecOn with
  | ind n ih =>
    intro h
    by_cases hx : ∃ m, m < n ∧ S m
    · obtain ⟨m, h1, h2⟩ := hx; exact ih m h1 h2
    · exact ⟨n, h, fun m hm => Nat.le_of_not_lt fun hl => hx ⟨m, hl, hm⟩⟩
open Classical in
noncomputable def low (S : Nat → Prop) : Nat := if h : ∃ n, S n then Classical.choose (least h.choose h.choose_spec) else 0
theorem low_spec {S : Nat → Prop} {n : Nat} (h : S n) : S (low S) ∧ low S ≤ n := by
  have hx : ∃ n, S n := ⟨n, h⟩
  have := Classical.choose_spec (least hx.choose hx.choose_spec)
  unfold low
  rw [dif_pos hx]
  exact ⟨this.1, this.2 n h⟩
/-- a loop, by what holds at its head -/
theorem loop_wf {α : Type} (enc : α → List AV) {m : Nat} (Inv : α → AH → Prop) (μ : α → Nat) (a0 : α) {vs0 : List AV} {F : List AV → (List AV → AH → Prop) → AH → Prop} (h0 : GW P H.nx vs0 H (enc a0) H0) (hi : Inv a0 H0)
    (hB : ∀ a H1, H.nx ≤ H1.nx → WF H1 → Inv a H1 → ∀ k : List AV → AH → Prop, (∀ a' H2 vs' H', GW P H.nx vs' H' (enc a') H2 → Inv a' H2 → μ a' < μ a → k vs' H') → F (enc a) k H1) : LoopA P m F vs0 H := by
  refine ⟨fun vs H' => ∃ a, vs = enc a ∧ Inv a H', fun vs H' => low fun n => ∃ a, vs = enc a ∧ Inv a H' ∧ μ a = n, ⟨_, _, h0, a0, rfl, hi⟩, ?_⟩
  rintro vs H1 _ hn ⟨w1, S1, σ1, hs1⟩ ⟨a, rfl, ha⟩
  obtain ⟨⟨b, hb, hbi, hbm⟩, _⟩ := low_spec (S := fun n => ∃ b, enc a = enc b ∧ Inv b H1 ∧ μ b = n) ⟨a, rfl, ha, rfl⟩
  rw [hb] at hbm ⊢
  refine hB b H1 hn hs1.wf hbi _ fun a' H2 vs' H' hg hi2 hlt => ⟨_, _, hg, ⟨a', rfl, hi2⟩, ?_⟩
  have h2 := (low_spec (S := fun n => ∃ b, enc a' = enc b ∧ Inv b H2 ∧ μ b = n) ⟨a', rfl, hi2, rfl⟩).2
  dsimp only
  rw [← hbm]
  exact Nat.lt_of_le_of_lt h2 hlt
theorem loop_st {α : Type} (enc : α → List AV) {m : Nat} (Inv : α → AH → Prop) (μ : α → Nat) (a0 : α) {vs0 : List AV} {F : List AV → (List AV → AH → Prop) → AH → Prop} (h0 : GW P H.nx vs0 H (enc a0) H0) (hi : Inv a0 H0)
    (hB : ∀ a H1, H.nx ≤ H1.nx → Inv a H1 → ∀ k : List AV → AH → Prop, (∀ a' H2 vs' H', GW P H.nx vs' H' (enc a') H2 → Inv a' H2 → μ a' < μ a → k vs' H') → F (enc a) k H1) : LoopA P m F vs0 H :=
  loop_wf enc Inv μ a0 h0 hi fun a H1 hn _ hi k hk => hB a H1 hn hi k hk
/-- a join, by what holds there -/
theorem cut_wf {α : Type} (enc : α → List AV) {m : Nat} (Inv : α → AH → Prop) {F : (List AV → AH → Prop) → AH → Prop} {K : List AV → AH → Prop} (hA : ∀ k : List AV → AH → Prop, (∀ a' H2 vs' H', GW P H.nx vs' H' (enc a') H2 → Inv a' H2 → k vs' H') → F k H)
    (hK : ∀ a H', H.nx ≤ H'.nx → WF H' → Inv a H' → K (enc a) H') : CutA P m F K H :=
  ⟨fun vs H' => ∃ a, vs = enc a ∧ Inv a H', hA _ fun a' H2 vs' H' hg hi => ⟨_, _, hg, a', rfl, hi⟩, fun vs H' _ hn ⟨_, _, _, hs⟩ ⟨a, e, hi⟩ => by subst e; exact hK a H' hn hs.wf hi⟩
theorem cut_st {α : Type} (enc : α → List AV) {m : Nat} (Inv : α → AH → Prop) {F : (List AV → AH → Prop) → AH → Prop} {K : List AV → AH → Prop} (hA : ∀ k : List AV → AH → Prop, (∀ a' H2 vs' H', GW P H.nx vs' H' (enc a') H2 → Inv a' H2 → k vs' H') → F k H)
    (hK : ∀ a H', H.nx ≤ H'.nx → Inv a H' → K (enc a) H') : CutA P m F K H :=
  ⟨fun vs H' => ∃ a, vs = enc a ∧ Inv a H', hA _ fun a' H2 vs' H' hg hi => ⟨_, _, hg, a', rfl, hi⟩, fun vs H' _ hn _ ⟨a, e, hi⟩ => by subst e; exact hK a H' hn hi⟩
/-- how long a slice can be -/
theorem tri_len {f : FuncId} {ps : List AV} {Q : AV → AH → Prop} (i : Nat) {sz : Nat} {xs : List (List AV)} (hi : ps[i]? = some (.dsl sz xs)) (h : xs.length ≤ maxLen → (∀ e ∈ xs, e.length = sz) → Tri P f ps H Q) : Tri P f ps H Q := fun w S σ us hs hr => by
  obtain ⟨v, hv, hrv⟩ := hr.at_ hi
  obtain ⟨A, c, z, rfl, h1, h2, h3, _⟩ := hrv.dsl_inv.dsl_inv
  exact h (by omega) h3 w S σ us hs hr
theorem ivn {i : Nat} (h : i < 9223372036854775807) : IntKind.i64.wrap ((i : Int) + 1) = ((i + 1 : Nat) : Int) := by rw [IntKind.wrap_i64]; omega
/-- a slice of one's own that grows: nil, or a row laid since -/
def Grows (t sz : Nat) (H0 H1 : AH) (v : AV) (es : List (List AV)) : Prop :=
  (v = .p (.slice none 0 0) ∧ es = []) ∨ ∃ r xs, v = .osl r sz 0 es.length ∧ H0.nx ≤ r ∧ r < H1.nx ∧ H1.get r = some (.row t sz xs) ∧ xs.take es.length = es ∧ DtR xs
theorem Grows.nil (t sz : Nat) (H0 H1 : AH) : Grows t sz H0 H1 (.p (.slice none 0 0)) [] := .inl ⟨rfl, rfl⟩
theorem Grows.row {t sz r n : Nat} {xs : List (List AV)} (h1 : H0.nx ≤ r) (h2 : r < H1.nx) (h3 : H1.get r = some (.row t sz xs)) (h4 : DtR xs) (h5 : n = xs.length) : Grows t sz H0 H1 (.osl r sz 0 n) xs :=
  .inr ⟨r, xs, by rw [h5], h1, h2, h3, List.take_length, h4⟩
theorem Grows.keep {t sz : Nat} {v : AV} {es : List (List AV)} (h : Grows t sz H0 H1 v es) (hn : H1.nx ≤ H2.nx) (hk : ∀ j o, H0.nx ≤ j → H1.get j = some o → H2.get j = some o) : Grows t sz H0 H2 v es := by
  rcases h with h | ⟨r, xs, h1, h2, h3, h4, h5, h6⟩
  · exact .inl h
  · exact .inr ⟨r, xs, h1, h2, by omega, hk _ _ h2 h4, h5, h6⟩
theorem DtR.app {xs ys : List (List AV)} (h : DtR xs) (k : DtR ys) : DtR (xs ++ ys) := fun e he => (List.mem_append.1 he).elim (h e) (k e)
theorem DtR.take {xs : List (List AV)} {n : Nat} (h : DtR xs) : DtR (xs.take n) := fun e he => h e (List.mem_of_mem_take he)
theorem DtR.drop {xs : List (List AV)} {n : Nat} (h : DtR xs) : DtR (xs.drop n) := fun e he => h e (List.mem_of_mem_drop he)
theorem Grows.len {t sz : Nat} {v : AV} {es : List (List AV)} {k : AV → AH → Prop} {H : AH} (h : Grows t sz H0 H1 v es) : Pu P .len [v] k H = k (.p (.int .i64 es.length)) H := by
  rcases h with ⟨rfl, rfl⟩ | ⟨r, xs, rfl, _⟩
  · rw [q_len_nil]; rfl
  · rw [q_len_osl]
/-- what is appended stands behind -/
theorem Grows.app {t sz bytes id : Nat} {v x : AV} {es ys : List (List AV)} {k : AV → AH → AH → Prop} (hw : WF H0) (hg : Grows t sz H0 H1 v es) (hle : H0.le H1) (hid : H0.nx ≤ id) (hid2 : id < H1.nx) (hx : elF H1 sz x = some ys) (hd : DtR ys) (h1 : es.length + ys.length ≤ maxLen) (h2 : (es.length + ys.length) * bytes ≤ 140737488355328)
    (hk : ∀ v' H2, Grows t sz H0 H2 v' (es ++ ys) → H0.le H2 → H2.nx = H1.nx → (∀ j, j ≠ id → (∀ n, v ≠ .osl j sz 0 n) → H2.get j = H1.get j) → (∃ n, v' = .osl id sz 0 n) → k v' H2 H2) : Wr P id (.app t sz bytes) [v, x] k H1 := by
  rcases hg with ⟨rfl, rfl⟩ | ⟨r, xs, rfl, g1, g2, g3, g4, g5⟩
  · rw [wr_app_nil, hx]
    simp only [List.length_nil, Nat.zero_add] at h1 h2
    refine ⟨h1, h2, hk _ _ ?_ (.put hw hid hle) rfl (fun j hj _ => AH.get_put_ne hj) ⟨_, rfl⟩⟩
    exact .row hid hid2 (by rw [AH.get_put_self]; rfl) (by simpa using hd) (by simp)
  · rw [wr_app_osl, hx, g3]
    refine ⟨rfl, rfl, ?_, h1, h2, hk _ _ ?_ (.put hw hid (.kill hw g1 hle)) rfl (fun j hj hv => ?_) ⟨_, rfl⟩⟩
    · have := congrArg List.length g4
      rw [List.length_take] at this
      omega
    · refine .inr ⟨id, _, by rw [List.length_append], hid, hid2, AH.get_put_self, ?_, ?_⟩
      · rw [List.drop_zero, g4, List.take_length]
      · rw [List.drop_zero, g4]; exact DtR.app (by rw [← g4]; exact g5.take) hd
    · have hr : j ≠ r := fun e => hv es.length (by rw [e])
      rw [AH.get_put_ne hj, AH.kill, AH.get_put_ne hr]
theorem Grows.not {t sz j : Nat} {v : AV} {es : List (List AV)} (h : Grows t sz H0 H1 v es) (hj : ∀ xs, H1.get j ≠ some (.row t sz xs)) : ∀ n, v ≠ .osl j sz 0 n := fun n hn => by
  rcases h with ⟨h1, _⟩ | ⟨r, xs, h1, _, _, h4, _⟩
  · rw [h1] at hn; cases hn
  · rw [h1] at hn; injection hn with hn; subst hn; exact hj _ h4
theorem Grows.part {t sz : Nat} {v : AV} {es : List (List AV)} (h : Grows t sz H0 H1 v es) : AV.part v = true ∧ AV.cells v = [v] := by
  rcases h with ⟨rfl, _⟩ | ⟨r, xs, rfl, _⟩ <;> exact ⟨rfl, rfl⟩
theorem Grows.lt {t sz j n : Nat} {v : AV} {es : List (List AV)} (h : Grows t sz H0 H1 v es) (hj : v = .osl j sz 0 n) : j < H1.nx := by
  rcases h with ⟨h1, _⟩ | ⟨r, xs, h1, _, h3, _⟩
  · rw [h1] at hj; cases hj
  · rw [h1] at hj; injection hj with hj; omega
theorem Grows.same {t sz : Nat} {v : AV} {es : List (List AV)} (h : Grows t sz H0 H1 v es) (hn : H1.nx ≤ H2.nx) (hk : ∀ j, j < H1.nx → (∃ n, v = .osl j sz 0 n) → H2.get j = H1.get j) : Grows t sz H0 H2 v es := by
  rcases h with h | ⟨r, xs, h1, h2, h3, h4, h5, h6⟩
  · exact .inl h
  · exact .inr ⟨r, xs, h1, h2, by omega, by rw [hk r h3 ⟨_, h1⟩]; exact h4, h5, h6⟩
theorem Grows.at_ {t sz : Nat} {v : AV} {es : List (List AV)} (h : Grows t sz H0 H1 v es) (hn : 0 < es.length) : ∃ r xs, v = .osl r sz 0 es.length ∧ r < H1.nx ∧ H1.get r = some (.row t sz xs) ∧ ∀ i, i < es.length → xs[i]? = es[i]? := by
  rcases h with ⟨_, h2⟩ | ⟨r, xs, h1, h2, h3, h4, h5, h6⟩
  · rw [h2] at hn; simp at hn
  · refine ⟨r, xs, h1, h3, h4, fun i hi => ?_⟩
    rw [← h5, List.getElem?_take, if_pos hi]
theorem Grows.el {t sz : Nat} {v : AV} {es : List (List AV)} (h : Grows t sz H0 H1 v es) : elF H1 sz v = some es := by
  rcases h with ⟨rfl, rfl⟩ | ⟨r, xs, rfl, _, _, h3, h4, _⟩
  · rfl
  · rw [elF_osl, h3, elRow_row, List.drop_zero, h4]
    have := congrArg List.length h4
    rw [List.length_take] at this
    omega
/-- it is handed over as data, in a memory that keeps all else -/
theorem Grows.fz {t sz : Nat} {v : AV} {es : List (List AV)} (h : Grows t sz H0 H1 v es) (hw : WF H0) (hle : H0.le H1) (hn : H0.nx ≤ H1.nx) : ∃ H2, Gst P H1 H2 ∧ H0.le H2 ∧ H2.nx = H1.nx ∧ (∀ j, (∀ n, v ≠ .osl j sz 0 n) → H2.get j = H1.get j) ∧ Sub P H2 v (.dsl sz es) := by
  rcases h with ⟨rfl, rfl⟩ | ⟨r, xs, rfl, h1, h2, h3, h4, h5⟩
  · exact ⟨H1, ⟨Nat.le_refl _, fun w S σ hs => ⟨S, hs, fun _ h => h, fun _ h => .inl h, fun _ h => h⟩⟩, hle, rfl, fun _ _ => rfl, .nil _ _ (Nat.zero_le _)⟩
  · refine ⟨_, .freeze h3 h5, .put hw h1 hle, rfl, fun j hj => AH.get_put_ne fun e => hj es.length (by rw [e]), ?_⟩
    have := Sub.frz (P := P) (H := H1.put r (.frz sz xs)) (r := r) (sz := sz) (off := 0) (n := es.length) AH.get_put_self (by
      have := congrArg List.length h4
      rw [List.length_take] at this
      omega)
    rwa [List.drop_zero, h4] at this
theorem Grows.rt {t sz : Nat} {v : AV} {es : List (List AV)} {Q : AV → AH → Prop} (h : Grows t sz H0 H1 v es) (hw : WF H0) (hle : H0.le H1) (hn : H0.nx ≤ H1.nx) (hq : Q (.dsl sz es) H0) : Rt P H0.nx v Q H1 := by
  obtain ⟨H2, k1, k2, k3, _, k4⟩ := h.fz (P := P) hw hle hn
  exact Gh.step ((GW.st k1 hn).trans (GW.sub (.cons k4 .nil) (by omega))) (Gh.back hw k2 (.one (.dsl _ _)) ⟨_, rfl, hq⟩)
/-- the cells of a box are told anew -/
theorem Gst.box {b : Nat} {t : TypeId} {cs cs' : List AV} (hg : H.get b = some (.box t cs)) (hs : Subs P H cs cs') : Gst P H (H.put b (.box t cs')) := by
  refine ⟨Nat.le_refl _, fun w S σ h => ?_⟩
  have hget : ∀ id o, (H.put b (.box t cs')).get id = some o → ∃ o', H.get id = some o' ∧ o'.owned = o.owned ∧ (id = b ∨ o' = o) := by
    intro id o ho
    by_cases e : id = b
    · subst e; rw [AH.get_put_self] at ho; injection ho with ho; subst ho; exact ⟨_, hg, rfl, .inl rfl⟩
    · rw [AH.get_put_ne e] at ho; exact ⟨_, ho, rfl, .inr rfl⟩
  refine ⟨S, ⟨h.sb, h.dom, fun id o ho => ?_, fun i j o o' x h1 h2 k1 k2 b1 b2 => ?_, fun i o x h1 k1 b1 => ?_, h.sl⟩, fun _ q => q, fun _ q => .inl q, ?_⟩
  · by_cases e : id = b
    · subst e
      rw [AH.get_put_self] at ho; injection ho with ho; subst ho
      obtain ⟨g, arr, h1, h2, h3, h4⟩ := h.obj id _ hg
      exact ⟨g, arr, h1, h2, hs.rps h h3, h4⟩
    · rw [AH.get_put_ne e] at ho; exact h.obj id o ho
  · obtain ⟨p1, q1, r1, _⟩ := hget i o h1
    obtain ⟨p2, q2, r2, _⟩ := hget j o' h2
    exact h.dj i j p1 p2 x q1 q2 (r1.trans k1) (r2.trans k2) b1 b2
  · obtain ⟨p1, q1, r1, _⟩ := hget i o h1
    exact h.sep i p1 x q1 (r1.trans k1) b1
  · rintro x ⟨i, o, h1, k1, b1⟩
    obtain ⟨p1, q1, r1, _⟩ := hget i o h1
    exact ⟨i, p1, q1, r1.trans k1, b1⟩
end
end Go.Proofs.Ytcmnjoepadjioaa

/- What the small functions of prove and of its answer compute. -/
namespace Go.Proofs.Ytcmnjoepadjioaa
open Go.RowKit Go.Maps
def Clm.cs (c : Clm) : List AV := [.p (.bool c.so), .p (.int .i64 c.a), .p (.int .i64 c.b)]
def Clm.av (c : Clm) : AV := .agg c.cs
def iv (i : Int) : AV := .p (.int .i64 i)
def bv (b : Bool) : AV := .p (.bool b)
theorem c_literal (n : Int) : PF Try.prog 22 [iv n] (bv (decide (litOk n))) := fun H => tri_wf fun hw => tri_prove_literal (by
  unfold S_prove_literal iv bv litOk
  simp +contextual
  refine ⟨fun h => ⟨fun _ => rt_refl ⟨rfl, by simp [*]⟩ (Nat.le_refl _), fun h2 => ⟨fun h3 => by omega, ?_⟩⟩, fun h => rt_refl ⟨rfl, rfl⟩ (Nat.le_refl _)⟩
  rw [if_neg (by omega)]
  exact rt_refl ⟨rfl, by simp [show ¬ -6 ≤ n by omega]⟩ (Nat.le_refl _))
theorem c_Check (c : Clm) : PF Try.prog 11 [c.av] (iv (if c.ok then 0 else 3)) := fun H => tri_wf fun hw => tri_prove_Check (by
  unfold S_prove_Check Clm.av Clm.cs
  simp +contextual
  refine ca_pure (by kernel_rfl) (c_literal _ _) ?_
  cases h1 : decide (litOk c.a) <;> simp [bv, Clm.ok]
  · exact rt_one hw (by repeat (first | with_reducible assumption | with_reducible exact AH.le.refl _ | with_reducible apply AH.le.up | (with_reducible refine AH.le.put hw ?_ ?_; · first | omega | (simp only [up_nx, put_nx, kill_nx]; done) | (simp only [up_nx, put_nx, kill_nx]; omega)) | (with_reducible refine AH.le.kill hw ?_ ?_; · first | omega | (simp only [up_nx, put_nx, kill_nx]; done) | (simp only [up_nx, put_nx, kill_nx]; omega)))) (by repeat (first | exact Cl.p _ | exact Cl.dsl _ _ | exact Cl.any | refine Cl.tup ?_ | refine Cl.agg ?_ | exact Clo.nil | refine Clo.cons ?_ ?_)) ⟨rfl, by simp at h1; simp [h1, iv]⟩
  · refine ca_pure (by kernel_rfl) (c_literal _ _) ?_
    simp at h1
    cases h2 : decide (litOk c.b) <;> simp [bv, h1] <;> simp at h2 <;> exact rt_one hw (by repeat (first | with_reducible assumption | with_reducible exact AH.le.refl _ | with_reducible apply AH.le.up | (with_reducible refine AH.le.put hw ?_ ?_; · first | omega | (simp only [up_nx, put_nx, kill_nx]; done) | (simp only [up_nx, put_nx, kill_nx]; omega)) | (with_reducible refine AH.le.kill hw ?_ ?_; · first | omega | (simp only [up_nx, put_nx, kill_nx]; done) | (simp only [up_nx, put_nx, kill_nx]; omega)))) (by repeat (first | exact Cl.p _ | exact Cl.dsl _ _ | exact Cl.any | refine Cl.tup ?_ | refine Cl.agg ?_ | exact Clo.nil | refine Clo.cons ?_ ?_)) ⟨rfl, by simp [h2, iv]⟩)

theorem any_take {α : Type} {xs : List α} {p : α → Bool} {i : Nat} {x : α} (h : ∀ y ∈ xs.take i, p y = false) (hx : xs[i]? = some x) (hp : p x = false) : ∀ y ∈ xs.take (i + 1), p y = false := fun y hy => by
  rw [List.take_add_one, hx] at hy
  simp at hy
  rcases hy with hy | rfl
  · exact h y hy
  · exact hp
theorem c_IndexFunc_int {H : AH} {xs : List Int} {g : FuncId} {first cap : List AV} {p : Int → Bool} (hg : callable Try.prog g = true) (hp : ∀ x ∈ xs, Tri Try.prog g (first ++ [iv x] ++ cap) H (fun v H' => H' = H ∧ v = bv (p x))) :
    Tri Try.prog 37 [.dsl 1 (xs.map fun x => [iv x]), .fn (.func g) first cap] H (fun v H' => H' = H ∧ ∃ i : Int, v = iv i ∧ decide (i ≥ 0) = xs.any p) := tri_wf fun hw => tri_len 0 rfl fun hl _ => tri_slices_IndexFunc_s_int_int (by
  have hml : maxLen = 9223372036854775807 := by decide
  rw [List.length_map] at hl
  unfold S_slices_IndexFunc_s_int_int
  simp +contextual
  refine loop_st (fun i : Nat => [iv i]) (fun i H' => H' = H ∧ i ≤ xs.length ∧ ∀ y ∈ xs.take i, p y = false) (fun i => xs.length - i) 0 (.refl (Nat.le_refl _)) ⟨rfl, Nat.zero_le _, by simp⟩ ?_
  rintro i _ _ ⟨rfl, hi, hno⟩ k hk
  simp only [iv, List.getD_cons_zero]
  simp +contextual
  refine ⟨fun h => ?_, fun h => ?_⟩
  · have hx := List.getElem?_eq_getElem h
    refine ca_pure hg (hp _ (List.getElem_mem h)) ?_
    cases hq : p xs[i]
    · simp [bv]
      rw [ivn (by omega)]
      exact hk (i + 1) _ _ _ (.refl (Nat.le_refl _)) ⟨rfl, h, any_take hno hx hq⟩ (by omega)
    · simp [bv]
      exact rt_refl ⟨rfl, _, rfl, by simp; exact ⟨_, List.getElem_mem h, hq⟩⟩ (Nat.le_refl _)
  · have : xs.any p = false := by
      rw [List.any_eq_false]; intro y hy; rw [hno y (by rw [List.take_of_length_le (by omega)]; exact hy)]; simp
    exact rt_refl ⟨rfl, _, rfl, by rw [this]; rfl⟩ (Nat.le_refl _))
theorem c_ContainsFunc_int {H : AH} {xs : List Int} {g : FuncId} {first cap : List AV} {p : Int → Bool} (hg : callable Try.prog g = true) (hp : ∀ x ∈ xs, Tri Try.prog g (first ++ [iv x] ++ cap) H (fun v H' => H' = H ∧ v = bv (p x))) :
    Tri Try.prog 19 [.dsl 1 (xs.map fun x => [iv x]), .fn (.func g) first cap] H (fun v H' => H' = H ∧ v = bv (xs.any p)) := tri_wf fun hw => tri_slices_ContainsFunc_s_int_int (by
  unfold S_slices_ContainsFunc_s_int_int
  refine ca_of (by kernel_rfl) (c_IndexFunc_int hg hp) ?_
  rintro _ _ ⟨rfl, i, rfl, hi⟩
  simp only [iv, ↓q_geq_i]
  exact rt_refl ⟨rfl, by rw [hi]; rfl⟩ (Nat.le_refl _))
theorem isL_div {w n : Nat} : w.testBit n = decide (w / 2 ^ n % 2 = 1) := Nat.testBit_eq_decide_div_mod_eq
theorem c_is (w : Nat) (hw64 : w < 9223372036854775808) : ∀ x : Int, litOk x → PF Try.prog 39 [iv w, iv x] (bv (isL w x)) := by
  have pos : ∀ x : Int, litOk x → 0 < x → PF Try.prog 39 [iv w, iv x] (bv (isL w x)) := fun x hx h0 H => tri_wf fun hw => tri_prove_is (by
    unfold S_prove_is iv
    obtain ⟨n, rfl⟩ := Int.eq_ofNat_of_zero_le (by omega : 0 ≤ x)
    have h2 : ¬ ((n : Int) < 0) := by omega
    have h3 : IntKind.i64.wrap ((n : Int) - 1) = ((n - 1 : Nat) : Int) := by rw [IntKind.wrap_i64]; unfold litOk at hx; omega
    have h4 : min (n - 1) IntKind.i64.bits = n - 1 := by unfold litOk at hx; show min (n - 1) 64 = n - 1; omega
    have h5 : (w : Int).fdiv (2 ^ (n - 1)) = ((w / 2 ^ (n - 1) : Nat) : Int) := by
      rw [Int.fdiv_eq_ediv_of_nonneg _ (by exact_mod_cast Nat.zero_le _)]; push_cast; rfl
    have h6 : w / 2 ^ (n - 1) < 9223372036854775808 := Nat.lt_of_le_of_lt (Nat.div_le_self _ _) hw64
    have h7 := i64_and_nat _ 1 h6 (by omega)
    change bit_and .i64 ((w / 2 ^ (n - 1) : Nat) : Int) 1 = _ at h7
    have h8 : (((w / 2 ^ (n - 1) &&& 1 : Nat) : Int) = 1) ↔ w.testBit (n - 1) = true := by
      rw [isL_div, Nat.and_one_is_mod, decide_eq_true_iff]; omega
    have h9 : bit_and .i64 ((w : Int) / 2 ^ (n - 1)) 1 = ((w / 2 ^ (n - 1) &&& 1 : Nat) : Int) := by rw [← h7]; push_cast; rfl
    simp [h2, h3, h4, h5]
    refine rt_refl ⟨rfl, ?_⟩ (Nat.le_refl _)
    simp [bv, isL, h2]
    rw [h9, Bool.eq_iff_iff, decide_eq_true_iff]; exact h8)
  intro x hx H
  by_cases h0 : 0 < x
  · exact pos x hx h0 H
  refine tri_prove_is ?_
  unfold S_prove_is
  have h1 : x < 0 := by unfold litOk at hx; omega
  have h2 : IntKind.i64.wrap (0 - x) = -x := by rw [IntKind.wrap_i64]; unfold litOk at hx; omega
  have h2' : IntKind.i64.wrap (-x) = -x := by rw [IntKind.wrap_i64]; unfold litOk at hx; omega
  simp [iv, h1, h2, h2']
  refine ca_pure (by kernel_rfl) (pos (-x) (lit_neg hx) (by omega) H) ?_
  simp [bv]
  refine rt_refl ⟨rfl, ?_⟩ (Nat.le_refl _)
  rw [isL_neg hx, Bool.not_not]
theorem c_holds1 {H : AH} {w : Nat} (hw64 : w < 9223372036854775808) {c : Clm} (hc : c.ok) {i : Nat} {t : TypeId} (hg : H.get i = some (.box t c.cs)) : Tri Try.prog 38 [iv w, .ptr i 0] H (fun v H' => H' = H ∧ v = bv (holds1 w c)) := tri_prove_holds_fn1 (by
  unfold S_prove_holds_fn1
  simp [hg, Clm.cs]
  refine cav_pure (by kernel_rfl) (fun H2 _ => c_is w hw64 c.a hc.1 H2) ?_
  unfold holds1
  cases h : isL w c.a
  · simp [bv]
    exact rt_refl ⟨rfl, rfl⟩ (Nat.le_refl _)
  · simp [bv, hg, Clm.cs]
    refine cav_pure (by kernel_rfl) (fun H2 _ => c_is w hw64 c.b hc.2 H2) ?_
    simp [bv, hg, Clm.cs]
    exact rt_refl ⟨rfl, rfl⟩ (Nat.le_refl _))
end Go.Proofs.Ytcmnjoepadjioaa

/- What Holds, the claims' checks and their twins in the answer compute. -/
namespace Go.Proofs.Ytcmnjoepadjioaa
open Go.RowKit Go.Maps
def wE (xs : List Int) : AV := .dsl 1 (xs.map fun x => [iv x])
def natL (xs : List Int) : List Nat := xs.map Int.toNat
def inWd (x : Int) : Prop := 0 ≤ x ∧ x < 64
instance (x : Int) : Decidable (inWd x) := by unfold inWd; infer_instance
theorem any_map_congr {α β : Type} {xs : List α} {f : α → β} {p : α → Bool} {q : β → Bool} (h : ∀ x ∈ xs, p x = q (f x)) : xs.any p = (xs.map f).any q := by
  induction xs with
  | nil => rfl
  | cons x xs ih => simp only [List.any_cons, List.map_cons, h x (by simp), ih fun y hy => h y (by simp [hy])]
theorem c_holds {xs : List Int} (hx : ∀ x ∈ xs, inWd x) {c : Clm} (hc : c.ok) : PF Try.prog 21 [wE xs, c.av] (bv (holdsC (natL xs) c)) := fun H => tri_wf fun hw => tri_prove_holds (by
  unfold S_prove_holds Clm.av wE
  simp +contextual
  refine ca_pure (by kernel_rfl) (c_ContainsFunc_int (p := fun x => holds1 x.toNat c) (by kernel_rfl) fun x hxs => ?_) ?_
  · obtain ⟨n, rfl⟩ := Int.eq_ofNat_of_zero_le (hx x hxs).1
    exact c_holds1 (by have := (hx _ hxs).2; omega) hc (put_get _ _)
  · simp [Clm.cs, bv]
    refine rt_one hw (by repeat (first | with_reducible assumption | with_reducible exact AH.le.refl _ | with_reducible apply AH.le.up | (with_reducible refine AH.le.put hw ?_ ?_; · first | omega | (simp only [up_nx, put_nx, kill_nx]; done) | (simp only [up_nx, put_nx, kill_nx]; omega)) | (with_reducible refine AH.le.kill hw ?_ ?_; · first | omega | (simp only [up_nx, put_nx, kill_nx]; done) | (simp only [up_nx, put_nx, kill_nx]; omega)))) (by repeat (first | exact Cl.p _ | exact Cl.dsl _ _ | exact Cl.any | refine Cl.tup ?_ | refine Cl.agg ?_ | exact Clo.nil | refine Clo.cons ?_ ?_)) ⟨rfl, ?_⟩
    unfold holdsC natL
    rw [any_map_congr (f := Int.toNat) (q := fun w => holds1 w c) (fun _ _ => rfl)])
theorem c_Holds_fn1 (x : Int) : PF Try.prog 20 [iv x] (bv (!decide (inWd x))) := fun H => tri_wf fun hw => tri_prove_Holds_fn1 (by
  unfold S_prove_Holds_fn1 iv
  cases h : decide (x < 0) <;> cases h2 : decide (64 ≤ x) <;> simp [h, h2] <;> simp at h h2 <;> refine rt_refl ⟨rfl, ?_⟩ (Nat.le_refl _)
  · rw [show decide (inWd x) = true from decide_eq_true (by unfold inWd; omega)]; rfl
  all_goals rw [show decide (inWd x) = false from decide_eq_false (by unfold inWd; omega)]; rfl)
def okW (xs : List Int) : Int := if xs.length > 64 then 7 else if xs.all (fun x => decide (inWd x)) then 0 else 3
theorem c_Holds (xs : List Int) (c : Clm) : PF Try.prog 7 [wE xs, c.av] (.tup [bv (decide (okW xs = 0 ∧ c.ok) && holdsC (natL xs) c), iv (if okW xs = 0 then (if c.ok then 0 else 3) else okW xs)]) := fun H => tri_wf fun hw => tri_prove_Holds (by
  unfold S_prove_Holds Clm.av wE
  simp +contextual
  refine ⟨fun h => ?_, fun h => ?_⟩
  · refine rt_tup hw (by repeat (first | with_reducible assumption | with_reducible exact AH.le.refl _ | with_reducible apply AH.le.up | (with_reducible refine AH.le.put hw ?_ ?_; · first | omega | (simp only [up_nx, put_nx, kill_nx]; done) | (simp only [up_nx, put_nx, kill_nx]; omega)) | (with_reducible refine AH.le.kill hw ?_ ?_; · first | omega | (simp only [up_nx, put_nx, kill_nx]; done) | (simp only [up_nx, put_nx, kill_nx]; omega)))) (by repeat (first | exact Cl.p _ | exact Cl.dsl _ _ | exact Cl.any | refine Cl.tup ?_ | refine Cl.agg ?_ | exact Clo.nil | refine Clo.cons ?_ ?_)) ⟨rfl, ?_⟩
    have h2 : okW xs = 7 := by unfold okW; rw [if_pos (by omega)]
    simp [h2, bv, iv]
  · refine ca_pure (by kernel_rfl) (c_ContainsFunc_int (p := fun x => !decide (inWd x)) (by kernel_rfl) fun x hxs => c_Holds_fn1 x _) ?_
    cases h3 : xs.any (fun x => !decide (inWd x)) <;> simp [bv, Clm.cs]
    · have hall : ∀ x ∈ xs, inWd x := by simpa using h3
      have h2 : okW xs = 0 := by unfold okW; rw [if_neg (by omega), if_pos (by simpa using hall)]
      refine ca_pure (by kernel_rfl) (c_Check c _) ?_
      by_cases hc : c.ok <;> simp [hc, iv]
      · refine ca_pure (by kernel_rfl) (c_holds hall hc _) ?_
        exact rt_tup hw (by repeat (first | with_reducible assumption | with_reducible exact AH.le.refl _ | with_reducible apply AH.le.up | (with_reducible refine AH.le.put hw ?_ ?_; · first | omega | (simp only [up_nx, put_nx, kill_nx]; done) | (simp only [up_nx, put_nx, kill_nx]; omega)) | (with_reducible refine AH.le.kill hw ?_ ?_; · first | omega | (simp only [up_nx, put_nx, kill_nx]; done) | (simp only [up_nx, put_nx, kill_nx]; omega)))) (by repeat (first | exact Cl.p _ | exact Cl.dsl _ _ | exact Cl.any | refine Cl.tup ?_ | refine Cl.agg ?_ | exact Clo.nil | refine Clo.cons ?_ ?_)) ⟨rfl, by simp [h2, bv]⟩
      · exact rt_tup hw (by repeat (first | with_reducible assumption | with_reducible exact AH.le.refl _ | with_reducible apply AH.le.up | (with_reducible refine AH.le.put hw ?_ ?_; · first | omega | (simp only [up_nx, put_nx, kill_nx]; done) | (simp only [up_nx, put_nx, kill_nx]; omega)) | (with_reducible refine AH.le.kill hw ?_ ?_; · first | omega | (simp only [up_nx, put_nx, kill_nx]; done) | (simp only [up_nx, put_nx, kill_nx]; omega)))) (by repeat (first | exact Cl.p _ | exact Cl.dsl _ _ | exact Cl.any | refine Cl.tup ?_ | refine Cl.agg ?_ | exact Clo.nil | refine Clo.cons ?_ ?_)) ⟨rfl, by simp [h2]⟩
    · have h2 : okW xs = 3 := by unfold okW; rw [if_neg (by omega), if_neg (by simpa using h3)]
      exact rt_tup hw (by repeat (first | with_reducible assumption | with_reducible exact AH.le.refl _ | with_reducible apply AH.le.up | (with_reducible refine AH.le.put hw ?_ ?_; · first | omega | (simp only [up_nx, put_nx, kill_nx]; done) | (simp only [up_nx, put_nx, kill_nx]; omega)) | (with_reducible refine AH.le.kill hw ?_ ?_; · first | omega | (simp only [up_nx, put_nx, kill_nx]; done) | (simp only [up_nx, put_nx, kill_nx]; omega)))) (by repeat (first | exact Cl.p _ | exact Cl.dsl _ _ | exact Cl.any | refine Cl.tup ?_ | refine Cl.agg ?_ | exact Clo.nil | refine Clo.cons ?_ ?_)) ⟨rfl, by simp [h2, iv]⟩)
theorem c_RCheckClaim (c : Clm) : PF Try.prog 9 [c.av] (iv (if c.ok then 0 else 3)) := fun H => tri_wf fun hw => tri_wordhoardref_CheckClaim (by
  unfold S_wordhoardref_CheckClaim Clm.av Clm.cs
  cases h1 : decide (c.a = 0) <;> cases h2 : decide (c.a < -6) <;> cases h3 : decide (6 < c.a) <;> cases h4 : decide (c.b = 0) <;> cases h5 : decide (c.b < -6) <;> cases h6 : decide (6 < c.b) <;> simp [h1, h2, h3, h4, h5, h6] <;> simp at h1 h2 h3 h4 h5 h6 <;>
    exact rt_one hw (by repeat (first | with_reducible assumption | with_reducible exact AH.le.refl _ | with_reducible apply AH.le.up | (with_reducible refine AH.le.put hw ?_ ?_; · first | omega | (simp only [up_nx, put_nx, kill_nx]; done) | (simp only [up_nx, put_nx, kill_nx]; omega)) | (with_reducible refine AH.le.kill hw ?_ ?_; · first | omega | (simp only [up_nx, put_nx, kill_nx]; done) | (simp only [up_nx, put_nx, kill_nx]; omega)))) (by repeat (first | exact Cl.p _ | exact Cl.dsl _ _ | exact Cl.any | refine Cl.tup ?_ | refine Cl.agg ?_ | exact Clo.nil | refine Clo.cons ?_ ?_)) ⟨rfl, by first | (rw [if_pos (by unfold Clm.ok litOk; omega)]; rfl) | (rw [if_neg (by unfold Clm.ok litOk; omega)]; rfl)⟩)
theorem c_RCheckWorld (xs : List Int) : PF Try.prog 8 [wE xs] (iv (okW xs)) := fun H => tri_wf fun hw => tri_len 0 rfl fun hl _ => tri_wordhoardref_CheckWorld (by
  have hml : maxLen = 9223372036854775807 := by decide
  rw [List.length_map] at hl
  unfold S_wordhoardref_CheckWorld wE
  simp +contextual
  refine ⟨fun h => rt_refl ⟨rfl, by unfold okW iv; rw [if_pos (by omega)]⟩ (Nat.le_refl _), fun h => ?_⟩
  refine loop_st (fun i : Nat => [iv i]) (fun i H' => H' = H ∧ i ≤ xs.length ∧ ∀ y ∈ xs.take i, (!decide (inWd y)) = false) (fun i => xs.length - i) 0 (.refl (Nat.le_refl _)) ⟨rfl, Nat.zero_le _, by simp⟩ ?_
  rintro i _ _ ⟨rfl, hi, hno⟩ k hk
  simp only [iv, List.getD_cons_zero]
  by_cases hi2 : i < xs.length
  · have hx := List.getElem?_eq_getElem hi2
    cases h1 : decide (xs[i] < 0) <;> cases h2 : decide (63 < xs[i]) <;> simp [hi2, h1, h2] <;> simp at h1 h2
    · rw [ivn (by omega)]
      exact hk (i + 1) _ _ _ (.refl (Nat.le_refl _)) ⟨rfl, by omega, any_take hno hx (by rw [show decide (inWd xs[i]) = true from decide_eq_true (by unfold inWd; omega)]; rfl)⟩ (by omega)
    all_goals
      refine rt_refl ⟨rfl, ?_⟩ (Nat.le_refl _)
      unfold okW
      rw [if_neg (by omega), if_neg]
      simp only [List.all_eq_true, decide_eq_true_eq]
      intro hall
      have := hall _ (List.getElem_mem hi2)
      unfold inWd at this
      omega
  · simp [hi2]
    refine rt_refl ⟨rfl, ?_⟩ (Nat.le_refl _)
    unfold okW
    rw [if_neg (by omega), if_pos]
    rw [List.take_of_length_le (by omega)] at hno
    simpa using hno)
theorem c_RIs (w : Nat) (hw64 : w < 9223372036854775808) (x : Int) (hx : litOk x) : PF Try.prog 23 [iv w, iv x] (bv (isL w x)) := fun H => tri_wf fun hw => tri_wordhoardref_Is (by
  unfold S_wordhoardref_Is
  refine cut_st (α := Unit) (fun _ => [iv (if x < 0 then -x else x)]) (fun _ H' => H' = H) (fun k hk => ?_) ?_
  · have h2' : IntKind.i64.wrap (-x) = -x := by rw [IntKind.wrap_i64]; unfold litOk at hx; omega
    cases h : decide (x < 0) <;> simp [iv, h, h2'] <;> simp at h <;> refine hk () _ _ _ ?_ rfl
    · rw [if_neg (by omega)]; exact .refl (Nat.le_refl _)
    · rw [if_pos (by omega)]; exact .refl (Nat.le_refl _)
  · rintro _ H _ rfl
    obtain ⟨n, hn⟩ : ∃ n : Nat, (if x < 0 then -x else x) = (n : Int) := Int.eq_ofNat_of_zero_le (by split <;> omega)
    rw [hn]
    have hn0 : 0 < n ∧ n ≤ 6 := by unfold litOk at hx; split at hn <;> omega
    refine loop_st (fun i : Nat => [iv ((w / 2 ^ i : Nat) : Int), iv ((i + 1 : Nat) : Int)]) (fun i H' => H' = H ∧ i < n) (fun i => n - i) 0 ?_ ⟨rfl, by omega⟩ ?_
    · simp
      exact .refl (Nat.le_refl _)
    · rintro i _ _ ⟨rfl, hi⟩ k hk
      simp only [iv, List.getD_cons_zero, List.getD_cons_succ]
      obtain ⟨m, hm⟩ : ∃ m : Nat, w / 2 ^ i = m := ⟨_, rfl⟩
      have hm1 : w / 2 ^ (i + 1) = m / 2 := by rw [Nat.pow_succ, ← Nat.div_div_eq_div_mul, hm]
      have hmw : m ≤ w := by rw [← hm]; exact Nat.div_le_self _ _
      rw [hm]
      have hq : IntKind.i64.wrap (Int.tdiv (m : Int) 2) = ((w / 2 ^ (i + 1) : Nat) : Int) := by
        rw [hm1, Int.tdiv_eq_ediv_of_nonneg (by omega), IntKind.wrap_i64]; omega
      have hi1 : IntKind.i64.wrap (((i + 1 : Nat) : Int) + 1) = ((i + 1 + 1 : Nat) : Int) := ivn (by omega)
      have hr : Int.tmod (m : Int) 2 = ((m % 2 : Nat) : Int) := by rw [Int.tmod_eq_emod_of_nonneg (by omega)]; omega
      rw [q_lss_i, cd_eq]
      refine ⟨fun h => ?_, fun h => ?_⟩
      · rw [decide_eq_true_iff] at h
        rw [q_quo_i, q_add_i, hq, hi1]
        exact ⟨by omega, hk (i + 1) _ _ _ (.refl (Nat.le_refl _)) ⟨rfl, by omega⟩ (by omega)⟩
      · rw [decide_eq_false_iff_not] at h
        rw [q_rem_i, hr, q_eql_i, q_gtr_i, q_eql_b]
        refine ⟨by omega, by kernel_rfl, rt_refl ⟨rfl, ?_⟩ (Nat.le_refl _)⟩
        have hin : i = n - 1 := by omega
        subst hin
        clear hi1 hq
        unfold bv isL
        congr 2
        by_cases hx0 : x < 0
        · rw [if_pos hx0] at hn ⊢
          rw [hn, Int.toNat_natCast, isL_div, hm, Bool.eq_iff_iff]
          simp
          omega
        · rw [if_neg hx0] at hn ⊢
          rw [hn, Int.toNat_natCast, isL_div, hm, Bool.eq_iff_iff]
          simp
          omega)
end Go.Proofs.Ytcmnjoepadjioaa

/- HoldsIn of the answer; the lists of claims that are checked. -/
namespace Go.Proofs.Ytcmnjoepadjioaa
open Go.RowKit Go.Maps
theorem c_RHoldsIn {xs : List Int} (hx : ∀ x ∈ xs, inWd x) {c : Clm} (hc : c.ok) : PF Try.prog 12 [wE xs, c.av] (bv (holdsC (natL xs) c)) := fun H => tri_wf fun hw => tri_len 0 rfl fun hl _ => tri_wordhoardref_HoldsIn (by
  have hml : maxLen = 9223372036854775807 := by decide
  rw [List.length_map] at hl
  unfold S_wordhoardref_HoldsIn wE Clm.av
  simp +contextual
  refine loop_st (fun i : Nat => [iv i]) (fun i H' => H' = (H.up 2).put H.nx (.box 24 c.cs) ∧ i ≤ xs.length ∧ ∀ y ∈ xs.take i, holds1 y.toNat c = false) (fun i => xs.length - i) 0 (.refl (Nat.le_refl _)) ⟨rfl, Nat.zero_le _, by simp⟩ ?_
  rintro i _ _ ⟨rfl, hi, hno⟩ k hk
  simp only [iv, List.getD_cons_zero]
  by_cases hi2 : i < xs.length
  · have hg := List.getElem?_eq_getElem hi2
    obtain ⟨n, hn⟩ := Int.eq_ofNat_of_zero_le (hx _ (List.getElem_mem hi2)).1
    have hn2 : n < 64 := by have := (hx _ (List.getElem_mem hi2)).2; omega
    have hnat : (xs[i]).toNat = n := by rw [hn]; rfl
    have hany : holds1 n c = true → holdsC (natL xs) c = c.so := fun h => by
      unfold holdsC natL
      rw [List.any_map, show xs.any ((fun w => holds1 w c) ∘ Int.toNat) = true from List.any_eq_true.2 ⟨_, List.getElem_mem hi2, by simp [hnat, h]⟩]
      cases c.so <;> rfl
    simp [hi2, Clm.cs, hn]
    refine cav_pure (by kernel_rfl) (fun H2 _ => c_RIs n (by omega) c.a hc.1 H2) ?_
    cases h1 : isL n c.a
    · simp [bv]
      rw [ivn (by omega)]
      exact hk (i + 1) _ _ _ (.refl (Nat.le_refl _)) ⟨rfl, hi2, any_take hno hg (by rw [hnat]; simp [holds1, h1])⟩ (by omega)
    · simp [bv, hi2, Clm.cs, hn]
      refine cav_pure (by kernel_rfl) (fun H2 _ => c_RIs n (by omega) c.b hc.2 H2) ?_
      simp [bv, Clm.cs]
      refine ⟨fun h2 => ?_, fun h2 => ?_⟩
      · refine rt_one hw (by repeat (first | with_reducible assumption | with_reducible exact AH.le.refl _ | with_reducible apply AH.le.up | (with_reducible refine AH.le.put hw ?_ ?_; · first | omega | (simp only [up_nx, put_nx, kill_nx]; done) | (simp only [up_nx, put_nx, kill_nx]; omega)) | (with_reducible refine AH.le.kill hw ?_ ?_; · first | omega | (simp only [up_nx, put_nx, kill_nx]; done) | (simp only [up_nx, put_nx, kill_nx]; omega)))) (by repeat (first | exact Cl.p _ | exact Cl.dsl _ _ | exact Cl.any | refine Cl.tup ?_ | refine Cl.agg ?_ | exact Clo.nil | refine Clo.cons ?_ ?_)) ⟨rfl, ?_⟩
        rw [hany (by simp [holds1, h1, h2])]
      · rw [ivn (by omega)]
        exact hk (i + 1) _ _ _ (.refl (Nat.le_refl _)) ⟨rfl, hi2, any_take hno hg (by rw [hnat]; simp [holds1, h1, h2])⟩ (by omega)
  · simp [hi2, Clm.cs]
    refine rt_one hw (by repeat (first | with_reducible assumption | with_reducible exact AH.le.refl _ | with_reducible apply AH.le.up | (with_reducible refine AH.le.put hw ?_ ?_; · first | omega | (simp only [up_nx, put_nx, kill_nx]; done) | (simp only [up_nx, put_nx, kill_nx]; omega)) | (with_reducible refine AH.le.kill hw ?_ ?_; · first | omega | (simp only [up_nx, put_nx, kill_nx]; done) | (simp only [up_nx, put_nx, kill_nx]; omega)))) (by repeat (first | exact Cl.p _ | exact Cl.dsl _ _ | exact Cl.any | refine Cl.tup ?_ | refine Cl.agg ?_ | exact Clo.nil | refine Clo.cons ?_ ?_)) ⟨rfl, ?_⟩
    rw [List.take_of_length_le (by omega)] at hno
    unfold holdsC natL
    rw [List.any_map, show xs.any ((fun w => holds1 w c) ∘ Int.toNat) = false from List.any_eq_false.2 fun y hy => by simp [hno y hy]]
    cases c.so <;> rfl)
def cE (l : List Clm) : AV := .dsl 3 (l.map Clm.cs)
theorem dt_cs (l : List Clm) : DtR (l.map Clm.cs) := by
  intro e he a ha
  obtain ⟨c, _, rfl⟩ := List.mem_map.1 he
  simp only [Clm.cs, List.mem_cons, List.not_mem_nil, or_false] at ha
  rcases ha with rfl | rfl | rfl <;> exact Dt.p _
theorem c_Grow {H : AH} {n : Int} (h0 : 0 ≤ n) (h1 : n * 24 ≤ 140737488355328) : Tri Try.prog 45 [.p (.slice none 0 0), iv n] H (fun v H' => Grows 24 3 H H' v [] ∧ H.le H' ∧ H.nx ≤ H'.nx) := tri_wf fun hw => tri_slices_Grow_s_api_Claim_api_Claim (by
  have hml : maxLen = 9223372036854775807 := by decide
  unfold S_slices_Grow_s_api_Claim_api_Claim
  refine cut_st (α := Unit) (fun _ => []) (fun _ H' => H' = H) (fun k hk => ?_) ?_
  · simp [iv]
    exact ⟨h0, fun _ => hk () _ _ _ (.refl (Nat.le_refl _)) rfl⟩
  · rintro _ _ _ rfl
    have hz : IntKind.i64.wrap (0 - 0) = 0 := by decide
    have hz2 : IntKind.i64.wrap 0 = 0 := by decide
    have hz3 : IntKind.i64.wrap n = n := by rw [IntKind.wrap_i64]; omega
    simp [iv, hz, hz2, hz3]
    refine ⟨fun h => ⟨h0, by omega, h1, by omega, ?_⟩, fun h => ?_⟩
    · refine rt_refl ⟨?_, (by repeat (first | with_reducible assumption | with_reducible exact AH.le.refl _ | with_reducible apply AH.le.up | (with_reducible refine AH.le.put hw ?_ ?_; · first | omega | (simp only [up_nx, put_nx, kill_nx]; done) | (simp only [up_nx, put_nx, kill_nx]; omega)) | (with_reducible refine AH.le.kill hw ?_ ?_; · first | omega | (simp only [up_nx, put_nx, kill_nx]; done) | (simp only [up_nx, put_nx, kill_nx]; omega)))), (by first | omega | (simp only [up_nx, put_nx, kill_nx]; done) | (simp only [up_nx, put_nx, kill_nx]; omega))⟩ (by first | omega | (simp only [up_nx, put_nx, kill_nx]; done) | (simp only [up_nx, put_nx, kill_nx]; omega))
      refine .inr ⟨_, _, rfl, (by first | omega | (simp only [up_nx, put_nx, kill_nx]; done) | (simp only [up_nx, put_nx, kill_nx]; omega)), (by first | omega | (simp only [up_nx, put_nx, kill_nx]; done) | (simp only [up_nx, put_nx, kill_nx]; omega)), put_get _ _, rfl, fun e he a ha => ?_⟩
      rw [List.mem_replicate] at he
      rw [he.2] at ha
      simp at ha
      rcases ha with rfl | rfl | rfl <;> exact Dt.p _
    · exact rt_refl ⟨.nil _ _ _ _, .refl _, Nat.le_refl _⟩ (Nat.le_refl _))
theorem flat_take {α : Type} {ls : List (List α)} {i : Nat} {l : List α} (h : ls[i]? = some l) : (ls.take (i + 1)).flatten = (ls.take i).flatten ++ l := by
  rw [List.take_add_one, h]; simp
theorem flat_take_le {α : Type} {ls : List (List α)} {i : Nat} : (ls.take i).flatten.length ≤ ls.flatten.length := by
  conv => rhs; rw [← List.take_append_drop i ls, List.flatten_append, List.length_append]
  omega
def tot {α : Type} (ls : List (List α)) (i : Nat) : Nat := (ls.take i).flatten.length
theorem tot_succ {α : Type} {ls : List (List α)} {i : Nat} {l : List α} (h : ls[i]? = some l) : tot ls (i + 1) = tot ls i + l.length := by unfold tot; rw [flat_take h, List.length_append]
theorem tot_le {α : Type} {ls : List (List α)} {i : Nat} : tot ls i ≤ ls.flatten.length := flat_take_le
theorem c_Concat (ls : List (List Clm)) (hb : ls.flatten.length * 24 ≤ 140737488355328) : PF Try.prog 40 [.dsl 1 (ls.map fun l => [cE l])] (cE ls.flatten) := fun H => tri_wf fun hw => tri_len 0 rfl fun hl _ => tri_slices_Concat_s_api_Claim_api_Claim (by
  have hml : maxLen = 9223372036854775807 := by decide
  rw [List.length_map] at hl
  unfold S_slices_Concat_s_api_Claim_api_Claim
  simp +contextual
  refine loop_st (fun i : Nat => [iv (tot ls i), iv i]) (fun i H' => H = H' ∧ i ≤ ls.length) (fun i => ls.length - i) 0 (.refl (Nat.le_refl _)) ⟨rfl, Nat.zero_le _⟩ ?_
  rintro i _ _ ⟨rfl, hi⟩ k hk
  simp only [iv, List.getD_cons_zero, List.getD_cons_succ]
  by_cases hi2 : i < ls.length
  · have hg := List.getElem?_eq_getElem hi2
    have hle := tot_le (ls := ls) (i := i + 1)
    rw [tot_succ hg] at hle
    have hws : IntKind.i64.wrap ((tot ls i : Int) + ((ls[i]).length : Int)) = (tot ls (i + 1) : Int) := by rw [tot_succ hg, IntKind.wrap_i64]; omega
    simp [hi2, cE, hws]
    rw [ivn (by omega)]
    exact hk (i + 1) _ _ _ (.refl (Nat.le_refl _)) ⟨rfl, hi2⟩ (by omega)
  · have hii : i = ls.length := by omega
    simp [hi2]
    have htot : tot ls i = ls.flatten.length := by unfold tot; rw [hii, List.take_length]
    refine ca_of (by kernel_rfl) (c_Grow (by omega) (by omega)) ?_
    rintro v H1 ⟨hg, hle, hn⟩
    simp +contextual
    refine loop_st (fun x : Nat × AV => [x.2, iv x.1]) (fun x H' => Grows 24 3 H H' x.2 ((ls.take x.1).flatten.map Clm.cs) ∧ H.le H' ∧ H.nx ≤ H'.nx ∧ x.1 ≤ ls.length) (fun x => ls.length - x.1) (0, v) (.refl (Nat.le_refl _)) ⟨by simpa using hg, hle, hn, Nat.zero_le _⟩ ?_
    rintro ⟨j, u⟩ H2 hn2 ⟨g2, hle2, hn3, hj⟩ k2 hk2
    dsimp only at g2 hj
    simp only [iv, List.getD_cons_zero, List.getD_cons_succ]
    by_cases hj2 : j < ls.length
    · have hgj := List.getElem?_eq_getElem hj2
      have hlej := tot_le (ls := ls) (i := j + 1)
      rw [tot_succ hgj] at hlej
      simp [hj2, cE]
      unfold tot at hlej
      refine Grows.app (H1 := H2.up 4) hw (g2.keep (Nat.le_add_right _ _) fun _ _ _ h => h) hle2 (by first | omega | (simp only [up_nx, put_nx, kill_nx]; done) | (simp only [up_nx, put_nx, kill_nx]; omega)) (by first | omega | (simp only [up_nx, put_nx, kill_nx]; done) | (simp only [up_nx, put_nx, kill_nx]; omega)) (elF_dsl _ _) (dt_cs _) (by rw [List.length_map, List.length_map]; omega) (by rw [List.length_map, List.length_map]; omega) fun v' H3 g3 l3 n3 _ _ => ?_
      have hiv := ivn (i := j) (by omega)
      simp [hiv]
      exact hk2 (j + 1, v') _ _ _ (.refl (by rw [n3]; exact Nat.le_trans hn2 (Nat.le_add_right _ _))) ⟨by rw [flat_take hgj, List.map_append]; exact g3, l3, by rw [n3]; exact Nat.le_trans hn3 (Nat.le_add_right _ _), hj2⟩ (by simp only; omega)
    · simp [hj2]
      have hjj : j = ls.length := by omega
      subst hjj
      rw [List.take_length] at g2
      exact g2.rt hw hle2 hn3 ⟨rfl, rfl⟩)
def okL (l : List Clm) : Int := if l.all (fun c => decide c.ok) then 0 else 3
def okP (p l : List Clm) : Int := if p.length > 20 then 7 else okL (p ++ l)
theorem all_take {α : Type} {xs : List α} {p : α → Bool} {i : Nat} {x : α} (h : ∀ y ∈ xs.take i, p y = true) (hx : xs[i]? = some x) (hp : p x = true) : ∀ y ∈ xs.take (i + 1), p y = true := fun y hy => by
  rw [List.take_add_one, hx] at hy
  simp at hy
  rcases hy with hy | rfl
  · exact h y hy
  · exact hp
theorem c_checkAll (p l : List Clm) (hb : l.length * 24 ≤ 140737488354328) : PF Try.prog 24 [cE p, cE l] (iv (okP p l)) := fun H => tri_wf fun hw => tri_prove_checkAll (by
  have hml : maxLen = 9223372036854775807 := by decide
  unfold S_prove_checkAll
  simp +contextual [cE]
  refine ⟨fun h => rt_refl ⟨rfl, by unfold okP; rw [if_pos (by omega)]; rfl⟩ (Nat.le_refl _), fun h => ?_⟩
  refine ca_of (by kernel_rfl) (Tri.st (.freeze (put_get _ _) (fun e he a ha => ?_)) (Tri.args (.cons (Sub.frz AH.get_put_self (by simp)) .nil) (c_Concat [p, l] (by simp; omega) _))) ?_
  · simp at he; rcases he with rfl | rfl <;> (simp at ha; subst ha; exact .dsl _ _)
  rintro _ _ ⟨rfl, rfl⟩
  simp [cE]
  rw [← List.map_append]
  refine loop_st (fun i : Nat => [iv i]) (fun i H' => H.le H' ∧ H.nx ≤ H'.nx ∧ i ≤ (p ++ l).length ∧ ∀ y ∈ (p ++ l).take i, decide y.ok = true) (fun i => (p ++ l).length - i) 0 (.refl (by first | omega | (simp only [up_nx, put_nx, kill_nx]; done) | (simp only [up_nx, put_nx, kill_nx]; omega))) ⟨(by repeat (first | with_reducible assumption | with_reducible exact AH.le.refl _ | with_reducible apply AH.le.up | (with_reducible refine AH.le.put hw ?_ ?_; · first | omega | (simp only [up_nx, put_nx, kill_nx]; done) | (simp only [up_nx, put_nx, kill_nx]; omega)) | (with_reducible refine AH.le.kill hw ?_ ?_; · first | omega | (simp only [up_nx, put_nx, kill_nx]; done) | (simp only [up_nx, put_nx, kill_nx]; omega)))), (by first | omega | (simp only [up_nx, put_nx, kill_nx]; done) | (simp only [up_nx, put_nx, kill_nx]; omega)), Nat.zero_le _, by simp⟩ ?_
  rintro i H1 hn1 ⟨hle, hn, hi, hall⟩ k hk
  have hlen : ((p.length : Int) + (l.length : Int)) = (((p ++ l).length : Nat) : Int) := by simp
  have hb2 : (p ++ l).length < 9223372036854775807 := by rw [List.length_append]; omega
  rw [hlen]
  have hokp : okP p l = okL (p ++ l) := by unfold okP; rw [if_neg (by omega)]
  rw [hokp]
  generalize p ++ l = xs at *
  by_cases hi2 : i < xs.length
  · have hg := List.getElem?_eq_getElem hi2
    simp [iv, hi2, Clm.cs]
    refine ca_pure (by kernel_rfl) (c_Check xs[i] _) ?_
    by_cases hok : xs[i].ok
    · simp [hok, iv]
      rw [ivn (by omega)]
      exact hk (i + 1) _ _ _ (.refl (by simp only [up_nx, put_nx] at hn1 ⊢; omega)) ⟨(by repeat (first | with_reducible assumption | with_reducible exact AH.le.refl _ | with_reducible apply AH.le.up | (with_reducible refine AH.le.put hw ?_ ?_; · first | omega | (simp only [up_nx, put_nx, kill_nx]; done) | (simp only [up_nx, put_nx, kill_nx]; omega)) | (with_reducible refine AH.le.kill hw ?_ ?_; · first | omega | (simp only [up_nx, put_nx, kill_nx]; done) | (simp only [up_nx, put_nx, kill_nx]; omega)))), (by first | omega | (simp only [up_nx, put_nx, kill_nx]; done) | (simp only [up_nx, put_nx, kill_nx]; omega)), hi2, all_take hall hg (by simp [hok])⟩ (by omega)
    · simp [hok, iv]
      refine rt_one hw (by repeat (first | with_reducible assumption | with_reducible exact AH.le.refl _ | with_reducible apply AH.le.up | (with_reducible refine AH.le.put hw ?_ ?_; · first | omega | (simp only [up_nx, put_nx, kill_nx]; done) | (simp only [up_nx, put_nx, kill_nx]; omega)) | (with_reducible refine AH.le.kill hw ?_ ?_; · first | omega | (simp only [up_nx, put_nx, kill_nx]; done) | (simp only [up_nx, put_nx, kill_nx]; omega)))) (by repeat (first | exact Cl.p _ | exact Cl.dsl _ _ | exact Cl.any | refine Cl.tup ?_ | refine Cl.agg ?_ | exact Clo.nil | refine Clo.cons ?_ ?_)) ⟨rfl, ?_⟩
      unfold okL
      rw [if_neg]
      simp
      exact ⟨_, List.getElem_mem hi2, hok⟩
  · simp [iv, hi2]
    refine rt_one hw (by repeat (first | with_reducible assumption | with_reducible exact AH.le.refl _ | with_reducible apply AH.le.up | (with_reducible refine AH.le.put hw ?_ ?_; · first | omega | (simp only [up_nx, put_nx, kill_nx]; done) | (simp only [up_nx, put_nx, kill_nx]; omega)) | (with_reducible refine AH.le.kill hw ?_ ?_; · first | omega | (simp only [up_nx, put_nx, kill_nx]; done) | (simp only [up_nx, put_nx, kill_nx]; omega)))) (by repeat (first | exact Cl.p _ | exact Cl.dsl _ _ | exact Cl.any | refine Cl.tup ?_ | refine Cl.agg ?_ | exact Clo.nil | refine Clo.cons ?_ ?_)) ⟨rfl, ?_⟩
    unfold okL
    rw [List.take_of_length_le (by omega)] at hall
    rw [if_pos (by simpa using hall)])
end Go.Proofs.Ytcmnjoepadjioaa
