/- Texts that the proof rests on, part 4: what each holds stands at its head. -/
import Derived.Test.YtgkkilbeingleaaZo3
import Derived.Orders
import Derived.WideKeyEntry

/- What names only things that are there; what is data wherever it lies; a row that a call has laid is told as one laid here. Nothing of the program is named here. -/
namespace Go.Proofs.Ytgkkilbeingleaa
open Go.RowKit Go.Maps

/-- what is data wherever it lies -/
def Dt (a : AV) : Prop := ∀ w S σ v, Rp w S σ a v → RpD w S a v
def DtR (es : List (List AV)) : Prop := ∀ e ∈ es, ∀ a ∈ e, Dt a
theorem Dt.p (v : Value) : Dt (.p v) := fun _ _ _ u h => by obtain ⟨rfl, h1⟩ := h.p_inv; exact .p _ h1
theorem Dt.dsl (sz : Nat) (xs : List (List AV)) : Dt (.dsl sz xs) := fun _ _ _ _ h => h.dsl_inv
section
variable {P : Program} {w : World} {S : Nat → Prop} {σ : Nat → Option Value} {H H0 H1 H2 V : AH} {B : Nat}
def cutS (B : Nat) (σ : Nat → Option Value) : Nat → Option Value := fun id => if id < B then σ id else none
theorem cutS_lt {id : Nat} (h : id < B) : cutS B σ id = σ id := by simp [cutS, h]
theorem cutS_some {id : Nat} {u : Value} (h : cutS B σ id = some u) : id < B ∧ σ id = some u := by
  unfold cutS at h
  split at h
  · exact ⟨by assumption, h⟩
  · cases h
/-- what names nothing from B on -/
def Cl (B : Nat) (a : AV) : Prop := ∀ w S σ v, Rp w S σ a v → Rp w S (cutS B σ) a v
def Clo (B : Nat) (ps : List AV) : Prop := ∀ a ∈ ps, Cl B a
theorem Clo.rps {ps : List AV} {vs : List Value} (h : Clo B ps) (hr : Rps w S σ ps vs) : Rps w S (cutS B σ) ps vs := ⟨hr.1, fun i a v ha hv => h a (List.mem_of_getElem? ha) _ _ _ _ (hr.2 i a v ha hv)⟩
theorem Clo.nil : Clo B [] := fun _ h => by cases h
theorem Clo.cons {a : AV} {ps : List AV} (h : Cl B a) (k : Clo B ps) : Clo B (a :: ps) := fun x hx => by
  rcases List.mem_cons.1 hx with rfl | hx
  · exact h
  · exact k x hx
theorem Clo.one {a : AV} (h : Cl B a) : Clo B [a] := .cons h .nil
theorem Cl.any : Cl B .any := fun _ _ _ _ _ => .any _
theorem Cl.p (v : Value) : Cl B (.p v) := fun _ _ _ u h => by obtain ⟨rfl, h1⟩ := h.p_inv; exact .data _ _ (.p _ h1)
theorem Cl.dsl (sz : Nat) (xs : List (List AV)) : Cl B (.dsl sz xs) := fun w S σ u h => by
  cases h with
  | data _ _ h => exact .data _ _ h
theorem Cl.dptr (sz : Nat) (xs : List (List AV)) (i j : Nat) : Cl B (.dptr sz xs i j) := fun w S σ u h => by
  cases h with
  | data _ _ h => cases h
  | dptr _ _ _ _ g o c h hi => exact .dptr _ _ _ _ g o c h hi
theorem Cl.ptr {id off : Nat} (h : id < B) : Cl B (.ptr id off) := fun w S σ u hr => by
  obtain ⟨g, rfl, hg⟩ := hr.ptr_inv; exact .ptr _ _ _ (by rw [cutS_lt h]; exact hg)
theorem Cl.mp {id : Nat} (h : id < B) : Cl B (.mp id) := fun w S σ u hr => by
  obtain ⟨g, rfl, hg⟩ := hr.mp_inv; exact .mp _ _ (by rw [cutS_lt h]; exact hg)
theorem Cl.eptr {id sz i j : Nat} (h : id < B) : Cl B (.eptr id sz i j) := fun w S σ u hr => by
  obtain ⟨g, o, n, c, rfl, hg⟩ := hr.eptr_inv; exact .eptr _ _ _ _ _ _ n c (by rw [cutS_lt h]; exact hg)
theorem Cl.osl {id sz off n : Nat} (h : id < B) : Cl B (.osl id sz off n) := fun w S σ u hr => by
  obtain ⟨A, Bx, N, c, cc, rfl, hg, h1, h2, h3⟩ := hr.osl_inv; exact .osl _ _ _ _ A _ N c _ (by rw [cutS_lt h]; exact hg) h1 h2 h3
theorem Cl.agg {cs : List AV} (h : Clo B cs) : Cl B (.agg cs) := fun w S σ u hr => by
  cases hr with
  | data _ _ hd => exact .data _ _ hd
  | agg _ vs hl hc h1 => exact .agg _ _ hl (fun i a v ha hv => h a (List.mem_of_getElem? ha) _ _ _ _ (hc i a v ha hv)) h1
theorem Cl.tup {cs : List AV} (h : Clo B cs) : Cl B (.tup cs) := fun w S σ u hr => by
  cases hr with
  | data _ _ hd => cases hd
  | tup _ vs hl hc => exact .tup _ _ hl (fun i a v ha hv => h a (List.mem_of_getElem? ha) _ _ _ _ (hc i a v ha hv))
theorem Cl.fn {f : Fn} {xs ys : List AV} (h : Clo B xs) (k : Clo B ys) : Cl B (.fn f xs ys) := fun w S σ u hr => by
  cases hr with
  | data _ _ hd => cases hd
  | fn _ _ _ fs cs h1 h2 h3 h4 => exact .fn _ _ _ fs cs h1 h2 (fun i a v ha hv => h a (List.mem_of_getElem? ha) _ _ _ _ (h3 i a v ha hv)) (fun i a v ha hv => k a (List.mem_of_getElem? ha) _ _ _ _ (h4 i a v ha hv))
theorem exRows {ps : List AV} {n : Nat} (hl : ps.length = n) {vs : List Value} (hv : vs.length = n) {i : Nat} {a : AV} (ha : ps[i]? = some a) : ∃ v, vs[i]? = some v := by
  have : i < ps.length := (List.getElem?_eq_some_iff.1 ha).1
  exact ⟨_, List.getElem?_eq_getElem (by omega)⟩
theorem RpD.cl {a : AV} {v : Value} (h : RpD w S a v) : Cl B a := by
  induction h with
  | p v _ => exact .p v
  | agg cs vs hl _ h1 ih =>
    refine .agg fun a ha => ?_
    obtain ⟨i, hi⟩ := List.getElem?_of_mem ha
    obtain ⟨u, hu⟩ := exRows hl (vs := vs.toList) (by simp) hi
    exact ih i a u hi (by simpa using hu)
  | dsl sz xs A c z h1 h2 h3 h4 _ h6 ih => exact .dsl _ _
theorem Rp.cl {a : AV} {v : Value} (h : Rp w S σ a v) (hd : ∀ id u, σ id = some u → id < B) : Cl B a := by
  induction h with
  | any v => exact .any
  | data a v h => exact h.cl
  | agg cs vs hl _ h1 ih =>
    refine .agg fun a ha => ?_
    obtain ⟨i, hi⟩ := List.getElem?_of_mem ha
    obtain ⟨u, hu⟩ := exRows hl (vs := vs.toList) (by simp) hi
    exact ih i a u hi (by simpa using hu)
  | tup cs vs hl _ ih =>
    refine .tup fun a ha => ?_
    obtain ⟨i, hi⟩ := List.getElem?_of_mem ha
    obtain ⟨u, hu⟩ := exRows hl (vs := vs.toList) (by simp) hi
    exact ih i a u hi (by simpa using hu)
  | dptr sz xs i j g o c h hi => exact .dptr _ _ _ _
  | ptr id off g h => exact .ptr (hd _ _ h)
  | eptr id sz i j g o n c h => exact .eptr (hd _ _ h)
  | osl id sz off n A Bx N c cc h h1 h2 h3 => exact .osl (hd _ _ h)
  | mp id g h => exact .mp (hd _ _ h)
  | fn f xs ys fs cs h1 h2 _ _ ih1 ih2 =>
    refine .fn (fun a ha => ?_) (fun a ha => ?_)
    · obtain ⟨i, hi⟩ := List.getElem?_of_mem ha
      obtain ⟨u, hu⟩ := exRows h1 (vs := fs.toList) (by simp) hi
      exact ih1 i a u hi (by simpa using hu)
    · obtain ⟨i, hi⟩ := List.getElem?_of_mem ha
      obtain ⟨u, hu⟩ := exRows h2 (vs := cs.toList) (by simp) hi
      exact ih2 i a u hi (by simpa using hu)
def ClO (B : Nat) : AO → Prop
  | .box _ cs => Clo B cs
  | .row _ _ es => ∀ e ∈ es, Clo B e
  | .crow _ _ _ es => ∀ e ∈ es, Clo B e
  | .map _ _ f => ∀ k a, f k = some a → Cl B a
  | .smap _ _ f _ _ => ∀ k a, f k = some a → Cl B a
  | .miter m _ _ _ => m < B
  | _ => True
/-- each object names what is there -/
def WF (H : AH) : Prop := ∀ id o, H.get id = some o → id < H.nx ∧ ClO H.nx o
theorem Rps.clo {ps : List AV} {vs : List Value} (h : Rps w S σ ps vs) (hd : ∀ id u, σ id = some u → id < B) : Clo B ps := fun a ha => by
  obtain ⟨i, hi⟩ := List.getElem?_of_mem ha
  obtain ⟨u, hu⟩ := exRows h.1 (vs := vs) rfl hi
  exact (h.2 i a u hi hu).cl hd
theorem ObjOk.in_σ {id : Nat} {o : AO} (h : ObjOk P w S σ id o) : ∃ u, σ id = some u := by
  cases o with
  | box t cs => obtain ⟨g, arr, h1, _⟩ := h; exact ⟨_, h1⟩
  | row t sz es => obtain ⟨A, c, h1, _⟩ := h; exact ⟨_, h1⟩
  | frz sz es => obtain ⟨A, c, h1, _⟩ := h; exact ⟨_, h1⟩
  | crow t sz c es => obtain ⟨A, N, h1, _⟩ := h; exact ⟨_, h1⟩
  | map kt m f => obtain ⟨g, f', h1, _⟩ := h; exact ⟨_, h1⟩
  | siter s p => obtain ⟨g, h1, _⟩ := h; exact ⟨_, h1⟩
  | dead => exact Option.isSome_iff_exists.1 h
  | smap kt m f st c => obtain ⟨g, f', es, h1, _⟩ := h; exact ⟨_, h1⟩
  | miter m st c vis => obtain ⟨r, g, seen, h1, _⟩ := h; exact ⟨_, h1⟩
theorem Sat.wf (h : Sat P w S σ H) : WF H := fun id o ho => by
  have hk := h.obj id o ho
  obtain ⟨u, hu⟩ := hk.in_σ
  refine ⟨h.dom _ _ hu, ?_⟩
  cases o with
  | box t cs => obtain ⟨g, arr, h1, h2, h3, h4⟩ := hk; exact h3.clo h.dom
  | row t sz es =>
    obtain ⟨A, c, h1, h2, h3, h4, h5⟩ := hk
    intro e he a ha
    obtain ⟨i, hi⟩ := List.getElem?_of_mem he
    obtain ⟨j, hj⟩ := List.getElem?_of_mem ha
    rcases h5 with ⟨_, hc⟩ | ⟨g, o, arr, _, _, _, _, h6⟩
    · have := (List.getElem?_eq_some_iff.1 hi).1; omega
    · obtain ⟨v, _, hv⟩ := h6 i e j a hi hj; exact hv.cl h.dom
  | crow t sz c es =>
    obtain ⟨A, N, h1, h2, h3, h4, h5⟩ := hk
    intro e he a ha
    obtain ⟨i, hi⟩ := List.getElem?_of_mem he
    obtain ⟨j, hj⟩ := List.getElem?_of_mem ha
    rcases h5 with ⟨_, hc⟩ | ⟨g, o, arr, _, _, _, _, h6⟩
    · have := (List.getElem?_eq_some_iff.1 hi).1; omega
    · obtain ⟨v, _, hv⟩ := h6 i e j a hi hj; exact hv.cl h.dom
  | map kt n f =>
    obtain ⟨g, f', h1, h2, h3⟩ := hk
    intro k a ha
    rcases h3 k with ⟨h4, _⟩ | ⟨a', v, h4, _, h6⟩
    · rw [h4] at ha; cases ha
    · rw [h4] at ha; injection ha with ha; subst ha; exact h6.cl h.dom
  | smap kt n f st c =>
    obtain ⟨g, f', es, h1, h2, _, _, h3⟩ := hk
    intro k a ha
    rcases h3 k with ⟨h4, _⟩ | ⟨a', v, h4, _, h6⟩
    · rw [h4] at ha; cases ha
    · rw [h4] at ha; injection ha with ha; subst ha; exact h6.cl h.dom
  | miter m st c vis => obtain ⟨r, g, seen, h1, h2, _⟩ := hk; exact h.dom _ _ h2
  | _ => trivial
theorem ObjOk.cut {id : Nat} {o : AO} (h : ObjOk P w S σ id o) (hi : id < B) (hc : ClO B o) : ObjOk P w S (cutS B σ) id o := by
  cases o with
  | box t cs => obtain ⟨g, arr, h1, h2, h3, h4⟩ := h; exact ⟨g, arr, by rw [cutS_lt hi]; exact h1, h2, Clo.rps hc h3, h4⟩
  | row t sz es =>
    obtain ⟨A, c, h1, h2, h3, h4, h5⟩ := h
    refine ⟨A, c, by rw [cutS_lt hi]; exact h1, h2, h3, h4, ?_⟩
    rcases h5 with h5 | ⟨g, o, arr, k1, k2, k3, k4, k5⟩
    · exact .inl h5
    · refine .inr ⟨g, o, arr, k1, k2, k3, k4, fun i e j a he ha => ?_⟩
      obtain ⟨v, hv, hr⟩ := k5 i e j a he ha
      exact ⟨v, hv, hc e (List.mem_of_getElem? he) a (List.mem_of_getElem? ha) _ _ _ _ hr⟩
  | frz sz es => obtain ⟨A, c, h1, h2⟩ := h; exact ⟨A, c, by rw [cutS_lt hi]; exact h1, h2⟩
  | crow t sz c es =>
    obtain ⟨A, N, h1, h2, h3, h4, h5⟩ := h
    refine ⟨A, N, by rw [cutS_lt hi]; exact h1, h2, h3, h4, ?_⟩
    rcases h5 with h5 | ⟨g, o, arr, k1, k2, k3, k4, k5⟩
    · exact .inl h5
    · refine .inr ⟨g, o, arr, k1, k2, k3, k4, fun i e j a he ha => ?_⟩
      obtain ⟨v, hv, hr⟩ := k5 i e j a he ha
      exact ⟨v, hv, hc e (List.mem_of_getElem? he) a (List.mem_of_getElem? ha) _ _ _ _ hr⟩
  | map kt n f =>
    obtain ⟨g, f', h1, h2, h3⟩ := h
    refine ⟨g, f', by rw [cutS_lt hi]; exact h1, h2, fun k => ?_⟩
    rcases h3 k with h4 | ⟨a, v, h4, h5, h6⟩
    · exact .inl h4
    · exact .inr ⟨a, v, h4, h5, hc k a h4 _ _ _ _ h6⟩
  | siter s p => obtain ⟨g, h1, h2⟩ := h; exact ⟨g, by rw [cutS_lt hi]; exact h1, h2⟩
  | dead => show (cutS B σ id).isSome = true; rw [cutS_lt hi]; exact h
  | smap kt n f st c =>
    obtain ⟨g, f', es, h1, h2, q1, q2, h3⟩ := h
    refine ⟨g, f', es, by rw [cutS_lt hi]; exact h1, h2, q1, q2, fun k => ?_⟩
    rcases h3 k with h4 | ⟨a, v, h4, h5, h6⟩
    · exact .inl h4
    · exact .inr ⟨a, v, h4, h5, hc k a h4 _ _ _ _ h6⟩
  | miter m st c vis =>
    have hc : m < B := hc
    obtain ⟨r, g, seen, h1, h2, h3, h4⟩ := h
    exact ⟨r, g, seen, by rw [cutS_lt hi]; exact h1, by rw [cutS_lt hc]; exact h2, h3, h4⟩
def AH.le (V H : AH) : Prop := ∀ id o, V.get id = some o → H.get id = some o
/-- what a call gives that has laid a row of its own: nil, or that row -/
def RowR (t sz : Nat) (H H' : AH) (v : AV) (es : List (List AV)) : Prop :=
  (v = .p (.slice none 0 0) ∧ es = []) ∨ ∃ r xs, v = .osl r sz 0 es.length ∧ H.nx ≤ r ∧ H'.get r = some (.row t sz xs) ∧ xs.take es.length = es ∧ DtR xs
theorem relaid {w' : World} {S1 : Nat → Prop} {σ1 : Nat → Option Value} {t sz id : Nat} {r : AV} {v : Value} {es : List (List AV)} (hs : Sat P w S σ H) (hs1 : Sat P w' S1 σ1 H1) (he : Ext w S σ H w' S1 σ1 H1) (hn : H.nx ≤ H1.nx) (hσ : ∀ j, j < H.nx → σ1 j = σ j) (hle : H.le H1)
    (hr : RowR t sz H H1 r es) (hv : Rp w' S1 σ1 r v) (hid : id < H.nx) (hi : σ id = none) (hd : ∀ e ∈ es, e.length = sz) :
    ∃ σ2, Sat P w' S1 σ2 (H.put id (.row t sz es)) ∧ Rp w' S1 σ2 (.osl id sz 0 es.length) v ∧ Ext w S σ H w' S1 σ2 (H.put id (.row t sz es)) ∧ ∀ j, j ≠ id → j < H.nx → σ2 j = σ j := by
  have hw := hs.wf
  have key : ∃ u : Value, (∀ σ2 : Nat → Option Value, σ2 id = some u → Rp w' S1 σ2 (.osl id sz 0 es.length) v ∧ ObjOk P w' S1 σ2 id (.row t sz es)) ∧ (∀ b, blkOf u = some b → (∃ r o, H1.get r = some o ∧ o.owned = true ∧ H.nx ≤ r ∧ (σ1 r).bind blkOf = some b)) ∧ ∀ A n c, u = .slice A n c → n ≤ c ∧ (0 < c → ∃ g o, A = some ⟨g, o, none⟩) ∧ c ≤ maxLen := by
    rcases hr with ⟨rfl, rfl⟩ | ⟨r0, xs, rfl, h1, h2, h3, h4⟩
    · obtain ⟨rfl, _⟩ := hv.p_inv
      refine ⟨.slice none 0 0, fun σ2 h => ⟨.osl _ _ _ _ none none 0 0 0 h (Nat.le_refl _) rfl (fun h => absurd h (Nat.lt_irrefl _)), none, 0, h, by simp, Nat.le_refl _, Nat.zero_le _, .inl ⟨rfl, rfl⟩⟩, fun b hb => by (cases hb), fun A n c e => ?_⟩
      injection e with e1 e2 e3; subst e1; subst e2; subst e3
      exact ⟨Nat.le_refl _, fun h => absurd h (Nat.lt_irrefl _), Nat.zero_le _⟩
    · obtain ⟨A, Bx, N, c, cc, rfl, k1, k2, k3, k4⟩ := hv.osl_inv
      obtain ⟨A', c', m1, m2, m3, m4, m5⟩ := hs1.obj r0 _ h2
      rw [k1] at m1
      injection m1 with m1
      injection m1 with e1 e2 e3
      subst e1; subst e2; subst e3
      have hel : es.length ≤ xs.length := by have := congrArg List.length h3; rw [List.length_take] at this; omega
      have hat : ∀ (i : Nat) (e : List AV), es[i]? = some e → xs[i]? = some e := fun i e h => by
        rw [← h3, List.getElem?_take] at h
        split at h
        · exact h
        · cases h
      refine ⟨.slice A es.length c, fun σ2 h => ⟨.osl _ _ _ _ A _ es.length c cc h k2 k3 k4, A, c, h, hd, by omega, m4, ?_⟩, fun b hb => ?_, fun A' n c' e => ?_⟩
      · rcases m5 with m5 | ⟨g, o, arr, q1, q2, q3, q4, q5⟩
        · exact .inl m5
        · refine .inr ⟨g, o, arr, q1, q2, q3, q4, fun i e j a he ha => ?_⟩
          obtain ⟨z, hz, hzr⟩ := q5 i e j a (hat i e he) ha
          have hda := h4 e (List.mem_of_getElem? (hat i e he)) a (List.mem_of_getElem? ha) _ _ _ _ hzr
          exact ⟨z, hz, .data _ _ hda⟩
      · exact ⟨r0, _, h2, rfl, h1, by rw [k1]; cases A <;> simp [blkOf] at hb ⊢ <;> exact hb⟩
      · injection e with e1 e2 e3; subst e1; subst e2; subst e3
        have := hs1.sl r0 A xs.length c k1
        exact ⟨by omega, this.2.1, this.2.2⟩
  obtain ⟨u, hu, hub, hul⟩ := key
  let σ2 : Nat → Option Value := fun j => if j = id then some u else if j < H.nx then σ1 j else none
  have e1 : σ2 id = some u := by simp [σ2]
  have e2 : ∀ j, j ≠ id → j < H.nx → σ2 j = σ1 j := fun j h1 h2 => by simp [σ2, h1, h2]
  have e3 : ∀ j x, σ2 j = some x → j < H.nx := fun j x h => by
    simp only [σ2] at h
    split at h
    · omega
    · split at h
      · assumption
      · cases h
  have up : ∀ j x, cutS H.nx σ1 j = some x → σ2 j = some x := fun j x h => by
    obtain ⟨h1, h2⟩ := cutS_some h
    have hne : j ≠ id := fun e => by subst e; rw [hσ _ h1, hi] at h2; cases h2
    rw [e2 j hne h1]; exact h2
  have hget : ∀ j o, (H.put id (.row t sz es)).get j = some o → (j = id ∧ o = .row t sz es) ∨ (j ≠ id ∧ H.get j = some o ∧ j < H.nx) := fun j o h => by
    by_cases e : j = id
    · subst e; rw [AH.get_put_self] at h; injection h with h; exact .inl ⟨rfl, h.symm⟩
    · rw [AH.get_put_ne e] at h; exact .inr ⟨e, h, (hw j o h).1⟩
  obtain ⟨hur, huo⟩ := hu σ2 e1
  have hfoot : ∀ b, Foot σ2 (H.put id (.row t sz es)) b → Foot σ1 H1 b := by
    rintro b ⟨j, o, h1, h2, h3⟩
    rcases hget j o h1 with ⟨rfl, rfl⟩ | ⟨hne, hj, hlt⟩
    · rw [e1] at h3
      obtain ⟨r, o, q1, q2, _, q3⟩ := hub b h3
      exact ⟨r, o, q1, q2, q3⟩
    · exact ⟨j, o, hle j o hj, h2, by rw [← e2 j hne hlt]; exact h3⟩
  have sep : ∀ j o b, (H.put id (.row t sz es)).get j = some o → o.owned = true → (σ2 j).bind blkOf = some b → ∃ r o', H1.get r = some o' ∧ o'.owned = true ∧ (σ1 r).bind blkOf = some b ∧ ((j = id ∧ H.nx ≤ r) ∨ (j ≠ id ∧ r = j ∧ j < H.nx)) := by
    intro j o b h1 h2 h3
    rcases hget j o h1 with ⟨rfl, rfl⟩ | ⟨hne, hj, hlt⟩
    · rw [e1] at h3
      obtain ⟨r, o, q1, q2, q4, q3⟩ := hub b h3
      exact ⟨r, o, q1, q2, q3, .inl ⟨rfl, q4⟩⟩
    · exact ⟨j, o, hle j o hj, h2, by rw [← e2 j hne hlt]; exact h3, .inr ⟨hne, rfl, hlt⟩⟩
  refine ⟨σ2, ⟨hs1.sb, e3, fun j o ho => ?_, fun i j o o' b h1 h2 k1 k2 b1 b2 => ?_, fun i o b h1 k1 b1 => ?_, fun j A n c h => ?_⟩, hur, ⟨he.os, he.tape, he.output, he.size, he.keep, he.sup, he.sub, fun b hb => he.foot b (hfoot b hb), fun j x h => ?_⟩, fun j h1 h2 => (e2 j h1 h2).trans (hσ j h2)⟩
  · rcases hget j o ho with ⟨rfl, rfl⟩ | ⟨hne, hj, hlt⟩
    · exact huo
    · exact ((hs1.obj j o (hle j o hj)).cut (hw j o hj).1 (hw j o hj).2).mono (fun _ h => h) (fun _ _ => rfl) up (fun _ _ _ => rfl)
  · obtain ⟨r, p, a1, a2, a3, a4⟩ := sep i o b h1 k1 b1
    obtain ⟨r', p', c1, c2, c3, c4⟩ := sep j o' b h2 k2 b2
    have := hs1.dj r r' p p' b a1 c1 a2 c2 a3 c3
    rcases a4 with ⟨rfl, a4⟩ | ⟨a5, rfl, a4⟩ <;> rcases c4 with ⟨rfl, c4⟩ | ⟨c5, rfl, c4⟩
    · rfl
    · omega
    · omega
    · exact this
  · obtain ⟨r, p, a1, a2, a3, _⟩ := sep i o b h1 k1 b1
    exact hs1.sep r p b a1 a2 a3
  · by_cases e : j = id
    · subst e; rw [e1] at h; injection h with h; exact hul A n c h
    · rw [e2 j e (e3 j _ h)] at h; exact hs1.sl j A n c h
  · by_cases e : j = id
    · subst e; rw [hi] at h; cases h
    · have hlt := hs.dom j x h
      rw [e2 j e hlt, hσ j hlt]; exact h
end
end Go.Proofs.Ytgkkilbeingleaa

/- Ranging over maps, told abstractly: the stamps of a map; an iterator and what it has shown. Nothing of the program is named here. -/
namespace Go.Proofs.Ytgkkilbeingleaa
open Go.RowKit Go.Maps Go.ChangeMaps Go.MapKept Go.WideShapes
open Go.WideElems (Fit rd rg pl rd_key rd_val rg_of other_key findIdx_born findIdx_arr set_self)

theorem nodup_len {α : Type} : ∀ {l m : List α}, l.Nodup → (∀ x ∈ l, x ∈ m) → l.length ≤ m.length
  | [], m, _, _ => Nat.zero_le _
  | a :: l, m, h, hs => by
    obtain ⟨h1, h2⟩ := List.nodup_cons.1 h
    obtain ⟨s, t, rfl⟩ := List.append_of_mem (hs a (by simp))
    have := nodup_len (m := s ++ t) h2 fun x hx => by
      have hm := hs x (List.mem_cons_of_mem _ hx)
      have hne : x ≠ a := fun e => h1 (by rw [← e]; exact hx)
      simp only [List.mem_append, List.mem_cons] at hm ⊢
      rcases hm with hm | hm | hm
      · exact .inl hm
      · exact absurd hm hne
      · exact .inr hm
    simp only [List.length_append, List.length_cons] at this ⊢
    omega
def avOfV : Value → AV
  | .agg cs => bif cs.all (·.oneCell') then .agg (cs.toList.map .p) else .any
  | .tuple _ => .any
  | v => .p v
inductive NO where
  | rng (kt : TypeId)
  | nxt
  | ent
  | bs0 (e : TypeId)
  | ment (kt : TypeId) (z : AV)
  | est (kt : TypeId)
def mapOf : Option AO → Option (TypeId × Nat × (Value → Option AV))
  | some (.map kt n f) => some (kt, n, f)
  | some (.smap kt n f _ _) => some (kt, n, f)
  | _ => none
/-- what may come -/
inductive NdR (P : Program) (id : Nat) (H : AH) : NO → List AV → (AV → AH → Prop) → Prop
  | rng (kt : TypeId) (m n : Nat) (f : Value → Option AV) : mapOf (H.get m) = some (kt, n, f) → Keyed P kt → NdR P id H (.rng kt) [.mp m] (fun a H' => ∃ st c, a = .ptr id 0 ∧ H' = (H.put m (.smap kt n f st c)).put id (.miter m st c []))
  | nxt (it m : Nat) (st : Value → Nat) (c : Nat) (vis : List Value) (kt : TypeId) (n : Nat) (f : Value → Option AV) : H.get it = some (.miter m st c vis) → H.get m = some (.smap kt n f st c) → Keyed P kt → (∀ k ∈ vis, (f k).isSome = true ∧ (keyOf P kt k).isSome = true) → vis.Nodup →
      NdR P id H .nxt [.ptr it 0] (fun a H' => (a = .tup [.p (.bool false)] ∧ H' = H ∧ ∀ k, (keyOf P kt k).isSome = true → (f k).isSome = true → k ∈ vis) ∨ ∃ k v, (keyOf P kt k).isSome = true ∧ f k = some v ∧ k ∉ vis ∧ vis.length < n ∧ a = .tup [.p (.bool true), avOfV k, v] ∧ H' = H.put it (.miter m st c (vis ++ [k])))
  | ent (it m : Nat) (st : Value → Nat) (c : Nat) (vis : List Value) (kt : TypeId) (n : Nat) (f : Value → Option AV) (k : Value) (v : AV) : H.get it = some (.miter m st c (vis ++ [k])) → H.get m = some (.smap kt n f st c) → Keyed P kt → f k = some v → (keyOf P kt k).isSome = true →
      NdR P id H .ent [.ptr it 0] (fun a H' => a = .tup [avOfV k, v] ∧ H' = H)
  | bs0 (e : TypeId) : NdR P id H (.bs0 e) [] (fun a H' => ∃ g : Nat, a = .p (.slice (some ⟨g, 0, none⟩) 0 0) ∧ H' = H.put id (.row e 1 []))
  | ment (kt : TypeId) (z : AV) (m n : Nat) (f : Value → Option AV) (key : AV) (u : Value) : mapOf (H.get m) = some (kt, n, f) → Keyed P kt → key.val = some u → (keyOf P kt u).isSome = true → n < maxLen →
      NdR P id H (.ment kt z) [.mp m, key] (fun a H' => ∃ st c, a = .tup [(f u).getD z, .p (.int .i64 (st u : Nat))] ∧ H' = H.put m (.smap kt (n + 1) (putA f u ((f u).getD z)) st c))
  | est (kt : TypeId) (m n : Nat) (f : Value → Option AV) (st : Value → Nat) (c : Nat) (u : Value) (s : Int) (x : AV) : H.get m = some (.smap kt n f st c) → Keyed P kt → (keyOf P kt u).isSome = true → (f u).isSome = true → ((st u : Nat) : Int) = s → n < maxLen →
      NdR P id H (.est kt) [.mp m, .p (.int .i64 s), x] (fun a H' => a = .any ∧ H' = H.put m (.map kt (n + 1) (putA f u x)))
def clsN (P : Program) (o : Op) : Option (NO × List Operand) :=
  match o with
  | .range t x => match P.underlying t with
    | some (.map kt _) => some (.rng kt, [x])
    | _ => none
  | .next it false => some (.nxt, [it])
  | .entry it => some (.ent, [it])
  | .mapEntry t m k => match P.underlying t with
    | some (.map kt e) => match zeroV P e with
      | some z => some (.ment kt z, [m, k])
      | none => none
    | _ => none
  | .entryStore t m s x => match P.underlying t with
    | some (.map kt _) => some (.est kt, [m, s, x])
    | _ => none
  | _ => none
section
variable {P : Program} {w : World} {S : Nat → Prop} {σ : Nat → Option Value} {ev : Operand → Value} {H : AH}
theorem avOfV_rp (v : Value) : Rp w S σ (avOfV v) v := by
  cases v <;> try exact .data _ _ (.p _ rfl)
  · rename_i cs
    simp only [avOfV]
    cases hall : cs.all (·.oneCell') with
    | false => exact .any _
    | true =>
      rw [cond_true]
      rw [Array.all_eq_true'] at hall
      refine .agg _ _ (by simp) (fun k a u ha hu => ?_) hall
      rw [List.getElem?_map, Array.getElem?_toList, hu] at ha
      simp at ha; subst ha
      exact .data _ _ (.p _ (hall u (Array.mem_of_getElem? hu)))
  · exact .any _
/-- one object is told anew -/
theorem Sat.retell (h : Sat P w S σ H) {i : Nat} {o o' : AO} (hg : H.get i = some o) (ho : ObjOk P w S σ i o') (hw : o'.owned = true → o.owned = true) : Sat P w S σ (H.put i o') := by
  have hget : ∀ id x, (H.put i o').get id = some x → x.owned = true → ∃ x', H.get id = some x' ∧ x'.owned = true := by
    intro id x hx hox
    by_cases e : id = i
    · subst e; rw [AH.get_put_self] at hx; injection hx with hx; subst hx; exact ⟨_, hg, hw hox⟩
    · rw [AH.get_put_ne e] at hx; exact ⟨_, hx, hox⟩
  refine ⟨h.sb, h.dom, fun id x hx => ?_, fun j k x y b h1 h2 k1 k2 b1 b2 => ?_, fun j x b h1 k1 b1 => ?_, h.sl⟩
  · by_cases e : id = i
    · subst e; rw [AH.get_put_self] at hx; injection hx with hx; subst hx; exact ho
    · rw [AH.get_put_ne e] at hx; exact h.obj id x hx
  · obtain ⟨x', q1, q2⟩ := hget j x h1 k1
    obtain ⟨y', r1, r2⟩ := hget k y h2 k2
    exact h.dj j k x' y' b q1 r1 q2 r2 b1 b2
  · obtain ⟨x', q1, q2⟩ := hget j x h1 k1
    exact h.sep j x' b q1 q2 b1
theorem Foot.retell {i : Nat} {o o' : AO} (hg : H.get i = some o) (ho : o.owned = true) {b : Nat} (h : Foot σ (H.put i o') b) : Foot σ H b := by
  obtain ⟨j, x, h1, h2, h3⟩ := h
  by_cases e : j = i
  · subst e; exact ⟨j, o, hg, ho, h3⟩
  · rw [AH.get_put_ne e] at h1; exact ⟨j, x, h1, h2, h3⟩
/-- what an entry of a map is, by its key -/
theorem entry_at (w : World) {kt : TypeId} {es : Array MapEntry} {clock : Nat} {f' : Value → Option Value} (K : Keyed P kt) (F : Fit P kt rHeld es clock) (hf : Reads1 P kt (.map ((es.toList.map (rg P kt rHeld)).foldr DataW.insert [])) f') {key : Value} (hk : (keyOf P kt key).isSome = true) :
    ((∀ x ∈ es.toList, x.key ≠ key) ∧ f' key = none) ∨ ∃ e0 ∈ es.toList, e0.key = key ∧ f' key = some e0.val := by
  obtain ⟨kl, hkey⟩ := Option.isSome_iff_exists.1 hk
  have hat := atKey_sorted (es.toList.map (rg P kt rHeld)) (fit_rising K F) kl (K.key hkey)
  have hfl := hf key kl hkey
  rcases K.find w hkey es.toList F.keys with ⟨h1, h2⟩ | ⟨j, e0, h1, h2, h3⟩
  · refine .inl ⟨h2, ?_⟩
    have hn : ∀ zd, (DataW.map ((es.toList.map (rg P kt rHeld)).foldr DataW.insert [])).atKey kl zd = zd := hat.1 fun p hp e1 => by
      obtain ⟨x, hx, rfl⟩ := List.mem_map.1 hp
      obtain ⟨y, hy⟩ := F.reads x hx
      have m1 := rd_key hy
      rw [rg_of hy] at e1
      rw [e1] at m1
      exact h2 x hx (K.inj m1 hkey)
    have a1 := hfl (.held (.bool false))
    have a2 := hfl (.lit (.int .i64 0))
    rw [hn] at a1 a2
    cases hk : f' key with
    | none => rfl
    | some v => rw [hk] at a1 a2; simp only at a1 a2; rw [← a1] at a2; cases a2
  · have hm0 : e0 ∈ es.toList := List.mem_of_getElem? h2
    obtain ⟨y0, hy0⟩ := F.reads e0 hm0
    obtain ⟨zv, hzv, hd⟩ := rd_val hy0
    refine .inr ⟨e0, hm0, h3, ?_⟩
    have m0 := rd_key hy0
    rw [h3, hkey] at m0
    have hn := hat.2 (rg P kt rHeld e0) (List.mem_map.2 ⟨e0, hm0, rfl⟩) (by rw [rg_of hy0]; exact (Option.some.inj m0).symm)
    have hv := rHeld_inv hzv
    subst hv
    have a1 := hfl (.lit (.int .i64 0))
    rw [hn, rg_of hy0, hd] at a1
    cases hk : f' key with
    | none => rw [hk] at a1; simp only at a1; cases a1
    | some v => rw [hk] at a1; simp only at a1; injection a1 with a1; rw [a1]
theorem entry_in (w : World) {kt : TypeId} {es : Array MapEntry} {clock : Nat} {f' : Value → Option Value} (K : Keyed P kt) (F : Fit P kt rHeld es clock) (hf : Reads1 P kt (.map ((es.toList.map (rg P kt rHeld)).foldr DataW.insert [])) f') {x : MapEntry} (hx : x ∈ es.toList) : (keyOf P kt x.key).isSome = true ∧ f' x.key = some x.val := by
  obtain ⟨y, hy⟩ := F.reads x hx
  have hk : (keyOf P kt x.key).isSome = true := by rw [rd_key hy]; rfl
  refine ⟨hk, ?_⟩
  rcases entry_at w K F hf hk with ⟨h, _⟩ | ⟨e0, he, hke, hv⟩
  · exact absurd rfl (h x hx)
  · rw [entry_eq_of_key ((stamped_iff es clock).1 F.stamped).2.2 hx he hke.symm]
    rw [hke] at *
    exact hv
open Classical in
noncomputable def stampOf (es : Array MapEntry) (k : Value) : Nat := if h : ∃ x ∈ es.toList, x.key = k then h.choose.born else 0
theorem stampOf_eq {es : Array MapEntry} {clock : Nat} (hs : Stamped es clock) {x : MapEntry} (hx : x ∈ es.toList) : stampOf es x.key = x.born := by
  have h : ∃ y ∈ es.toList, y.key = x.key := ⟨x, hx, rfl⟩
  unfold stampOf
  rw [dif_pos h]
  obtain ⟨h1, h2⟩ := h.choose_spec
  exact congrArg MapEntry.born (entry_eq_of_key ((stamped_iff es clock).1 hs).2.2 h1 hx h2)
/-- a map's stamps are told -/
theorem Sat.stamp (h : Sat P w S σ H) {m n : Nat} {kt : TypeId} {f : Value → Option AV} (hg : mapOf (H.get m) = some (kt, n, f)) : ∃ st c, Sat P w S σ (H.put m (.smap kt n f st c)) := by
  cases ho : H.get m with
  | none => rw [ho] at hg; cases hg
  | some o =>
    rw [ho] at hg
    have hk := h.obj m o ho
    cases o with
    | map kt' n' f0 =>
      simp only [mapOf, Option.some.injEq, Prod.mk.injEq] at hg
      obtain ⟨rfl, rfl, rfl⟩ := hg
      obtain ⟨g, f', h1, h2, h3⟩ := hk
      have h2' := h2
      obtain ⟨D, ⟨es, clock, hb, F, _, _⟩, _⟩ := h2'
      exact ⟨stampOf es, clock, h.retell ho ⟨g, f', es, h1, h2, hb, fun x hx => stampOf_eq F.stamped hx, h3⟩ (fun _ => rfl)⟩
    | smap kt' n' f0 st c =>
      simp only [mapOf, Option.some.injEq, Prod.mk.injEq] at hg
      obtain ⟨rfl, rfl, rfl⟩ := hg
      exact ⟨st, c, h.retell ho hk (fun h => h)⟩
    | _ => cases hg
theorem Ext.retell {w' : World} {S' : Nat → Prop} {σ' : Nat → Option Value} {H' : AH} {i : Nat} {o o' : AO} (hg : H.get i = some o) (ho : o.owned = true) (h : Ext w S σ (H.put i o') w' S' σ' H') : Ext w S σ H w' S' σ' H' :=
  ⟨h.os, h.tape, h.output, h.size, fun b hb hn => h.keep b hb fun hf => hn (hf.retell hg ho), h.sup, fun b hb => (h.sub b hb).imp_right fun q => q.imp_left fun hf => hf.retell hg ho, fun b hb => (h.foot b hb).imp_left fun hf => hf.retell hg ho, h.sig⟩
theorem mapOf_owned {m : Nat} {x : TypeId × Nat × (Value → Option AV)} (h : mapOf (H.get m) = some x) : ∃ o, H.get m = some o ∧ o.owned = true ∧ ∀ {P : Program} {w : World} {S : Nat → Prop} {σ : Nat → Option Value}, ObjOk P w S σ m o → ∃ g, σ m = some (.map (some g)) := by
  cases ho : H.get m with
  | none => rw [ho] at h; cases h
  | some o =>
    rw [ho] at h
    cases o with
    | map => exact ⟨_, rfl, rfl, fun ⟨g, _, h1, _⟩ => ⟨g, h1⟩⟩
    | smap => exact ⟨_, rfl, rfl, fun ⟨g, _, _, h1, _⟩ => ⟨g, h1⟩⟩
    | _ => cases h
/-- a new row without elements, that is not nil -/
def bs0T (ao : AOp) (xs : List Operand) : Option TypeId := match ao with
  | .bs e sz n _ [] => bif Nat.beq sz 1 && Nat.beq n 0 && xs.isEmpty then some e else none
  | _ => none
theorem bs0_spec {ao : AOp} {xs : List Operand} {e : TypeId} (h : bs0T ao xs = some e) : ∃ z, ao = .bs e 1 0 z [] ∧ xs = [] := by
  unfold bs0T at h
  split at h
  · rename_i e' sz n z
    cases hb : (Nat.beq sz 1 && Nat.beq n 0 && xs.isEmpty) with
    | false => rw [hb] at h; cases h
    | true =>
      rw [hb] at h
      simp only [Bool.and_eq_true] at hb
      injection h with h
      subst h
      exact ⟨z, by rw [Nat.eq_of_beq_eq_true hb.1.1, Nat.eq_of_beq_eq_true hb.1.2], List.isEmpty_iff.1 hb.2⟩
  · cases h
theorem bs0_sound {o : Oper} {e sz : Nat} {z : List AV} {id : Nat} (hs : Sat P w S σ H) (hid : id < H.nx) (hσ : σ id = none) (hc : clsA P o.op = some (.bs e sz 0 z [], [])) : ∃ g : Nat, Eff P w S σ H ev o id (.p (.slice (some ⟨g, 0, none⟩) 0 0)) (H.put id (.row e sz [])) := by
  cases ho : o.op <;> rw [ho] at hc <;> simp only [clsA] at hc <;> try (cases hc; done)
  case alloc t => cases hz : zeroA P t <;> rw [hz] at hc <;> simp at hc
  case makeMap t r => split at hc <;> (try (cases hc; done)) <;> simp at hc
  case makeSlice t l c =>
    cases hu : P.underlying t with
    | none => rw [hu] at hc; cases hc
    | some d =>
      rw [hu] at hc
      cases d <;> (try simp only at hc) <;> try (cases hc; done)
      rename_i e'
      cases hz : zeroA P e' <;> cases hi : P.info? e' <;> rw [hz, hi] at hc <;> simp only at hc <;> try (cases hc; done)
      split at hc <;> simp at hc
  case buildSlice t len parts =>
    cases hu : P.underlying t with
    | none => rw [hu] at hc; cases hc
    | some d =>
      rw [hu] at hc
      cases d <;> (try simp only at hc) <;> try (cases hc; done)
      rename_i e'
      cases hz : zeroA P e' with
      | none => rw [hz] at hc; cases hc
      | some z' =>
        cases hi : P.info? e' with
        | none => rw [hz, hi] at hc; cases hc
        | some j =>
          rw [hz, hi] at hc
          simp only at hc
          split at hc
          · cases hc
          · simp only [Option.some.injEq, Prod.mk.injEq, AOp.bs.injEq, List.map_eq_nil_iff] at hc
            obtain ⟨⟨rfl, rfl, rfl, rfl, hp1⟩, hp2⟩ := hc
            have hparts : parts = #[] := by
              cases parts with
              | mk l => simp at hp2; rw [hp2]
            subst hparts
            have hrun : (execOp ev o).run P w = .ok (.value (.slice (some ⟨w.heap.size, 0, none⟩) 0 0)) (w.alloc (.cells #[] e')) := by
              simp [execOp, ho, Instr.buildSlice, run_underlying hu, sizeOf, typeInfo, hi, Array.range_zero', Instr.fill, newRow]
            refine ⟨w.heap.size, new_eff hs ⟨rfl, rfl, rfl, rfl⟩ hid hσ (u := .slice (some ⟨w.heap.size, 0, none⟩) 0 0) rfl ⟨_, 0, sput_self, by simp, Nat.le_refl _, by decide, .inr ⟨w.heap.size, 0, #[], rfl, Blk.new w e' #[], by simp, by simp, by simp⟩⟩ ?_ hrun (.data _ _ (.p _ rfl))⟩
            intro A n c' h
            injection h with h1 h2 h3
            subst h1; subst h2; subst h3
            exact ⟨Nat.le_refl _, fun h => absurd h (Nat.lt_irrefl _), by decide⟩
/-- an entry is looked for, and laid if there is none -/
theorem MapOf.entry {k t e : TypeId} {b n : Nat} {f : Value → Option Value} (h : MapOf P k w b n f) (K : Keyed P k) (ht : P.underlying t = some (.map k e)) (hn : n < maxLen) {z : Value} (hz : (zeroValue e).run P w = .ok z w) {key : Value} (hk : (keyOf P k key).isSome = true) :
    ∃ w' es c x, (Instr.mapEntry t (.map (some b)) key).run P w = .ok (.tuple #[(f key).getD z, goInt x.born]) w' ∧ MapOf P k w' b (n + 1) (putO f key ((f key).getD z)) ∧ w.grownBy w' (some b) ∧ w'.heap[b]? = some (.map es c) ∧ x ∈ es.toList ∧ x.key = key := by
  obtain ⟨w', h1, h2, h3⟩ := h.store K ht hn hk ((f key).getD z)
  obtain ⟨D, ⟨es, clock, hb, F, hs, rfl⟩, hf⟩ := h
  obtain ⟨l, hl⟩ := Option.isSome_iff_exists.1 hk
  have he := entry_at w K F hf hk
  rcases K.find w hl es.toList F.keys with ⟨q1, q2⟩ | ⟨j, e0, q1, q2, q3⟩
  · have hfn : f key = none := by
      rcases he with ⟨_, he⟩ | ⟨e0, he, hke, _⟩
      · exact he
      · exact absurd hke (q2 e0 he)
    rw [hfn, Option.getD_none] at h1 h2 ⊢
    have hup : (Instr.mapUpdate t (.map (some b)) key z).run P w = .ok () (setBlock w b (.map (es.push ⟨key, z, clock⟩) (clock + 1))) := by
      simp [Instr.mapUpdate, run_underlying ht, MapKept.run_getObj_map hb, K.check w false hl, q1, MapKept.run_setObj_map _ hb, Result.andThen, setBlock]
    rw [hup] at h1
    injection h1 with _ h1
    subst h1
    exact ⟨_, es.push ⟨key, z, clock⟩, clock + 1, ⟨key, z, clock⟩, by simp [Instr.mapEntry, run_underlying ht, MapKept.run_getObj_map hb, K.check w false hl, q1, hz, MapKept.run_setObj_map _ hb, Result.andThen, setBlock], h2, h3, heap_setBlock_same hb _, by simp, rfl⟩
  · have hj : es[j]? = some e0 := by simpa using q2
    have hm0 : e0 ∈ es.toList := List.mem_of_getElem? q2
    have hfs : f key = some e0.val := by
      have := (entry_in w K F hf hm0).2
      rw [q3] at this
      exact this
    rw [hfs, Option.getD_some] at h1 h2 ⊢
    have hsame : es.modify j (fun e => { e with key := key }) = es := by
      apply Array.ext'
      rw [Array.toList_modify, modify_eq_set _ _ _ _ q2]
      have : ({ e0 with key := key } : MapEntry) = e0 := by rw [← q3]
      rw [this]
      exact set_self _ _ _ q2
    have hsame2 : es.modify j (fun e => { e with key := key, val := e0.val }) = es := by
      apply Array.ext'
      rw [Array.toList_modify, modify_eq_set _ _ _ _ q2]
      have : ({ e0 with key := key, val := e0.val } : MapEntry) = e0 := by rw [← q3]
      rw [this]
      exact set_self _ _ _ q2
    have hup : (Instr.mapUpdate t (.map (some b)) key e0.val).run P w = .ok () (setBlock w b (.map es clock)) := by
      simp [Instr.mapUpdate, run_underlying ht, MapKept.run_getObj_map hb, K.check w false hl, q1, hj, q3, K.stays w hl, hsame2, MapKept.run_setObj_map _ hb, Result.andThen, setBlock]
    rw [hup] at h1
    injection h1 with _ h1
    subst h1
    exact ⟨_, es, clock, e0, by simp [Instr.mapEntry, run_underlying ht, MapKept.run_getObj_map hb, K.check w false hl, q1, hj, q3, K.stays w hl, hsame, MapKept.run_setObj_map _ hb, Result.andThen, setBlock], h2, h3, heap_setBlock_same hb _, hm0, q3⟩
/-- an entry is written by its stamp -/
theorem MapOf.restamp {k t e : TypeId} {b n : Nat} {f : Value → Option Value} (h : MapOf P k w b n f) (K : Keyed P k) (ht : P.underlying t = some (.map k e)) (hn : n < maxLen) {es : Array MapEntry} {c : Nat} (hb : w.heap[b]? = some (.map es c)) {x : MapEntry} (hx : x ∈ es.toList) (hk : (keyOf P k x.key).isSome = true) (ty : TypeId) (v : Value) :
    ∃ w', (Instr.entryStore ty (.map (some b)) (goInt x.born) v).run P w = .ok () w' ∧ MapOf P k w' b (n + 1) (putO f x.key v) ∧ w.grownBy w' (some b) := by
  obtain ⟨w', h1, h2, h3⟩ := h.store K ht hn hk v
  obtain ⟨D, ⟨es', clock, hb', F, hs, rfl⟩, hf⟩ := h
  rw [hb] at hb'
  simp only [Option.some.injEq, Obj.map.injEq] at hb'
  obtain ⟨rfl, rfl⟩ := hb'
  obtain ⟨l, hl⟩ := Option.isSome_iff_exists.1 hk
  obtain ⟨s1, s2, s3⟩ := F.stamped
  rcases K.find w hl es.toList F.keys with ⟨q1, q2⟩ | ⟨j, e0, q1, q2, q3⟩
  · exact absurd rfl (q2 x hx)
  · have hj : es[j]? = some e0 := by simpa using q2
    have hex : e0 = x := entry_eq_of_key ((stamped_iff es c).1 F.stamped).2.2 (List.mem_of_getElem? q2) hx q3
    subst hex
    have hmod : es.modify j (fun e => { e with val := v }) = es.modify j (fun e' => { e' with key := e0.key, val := v }) := by
      apply Array.ext'
      rw [Array.toList_modify, Array.toList_modify, modify_eq_set _ _ _ _ q2, modify_eq_set _ _ _ _ q2]
    have hidx : es.findIdx? (fun e => ((e.born : Nat) : Int) == ((e0.born : Nat) : Int)) = some j := by
      rw [findIdx_arr]
      exact findIdx_born s2 q2
    have hup : (Instr.mapUpdate t (.map (some b)) e0.key v).run P w = .ok () (setBlock w b (.map (es.modify j (fun e' => { e' with key := e0.key, val := v })) c)) := by
      simp [Instr.mapUpdate, run_underlying ht, MapKept.run_getObj_map hb, K.check w false hl, q1, hj, K.stays w hl, MapKept.run_setObj_map _ hb, Result.andThen, setBlock]
    rw [hup] at h1
    injection h1 with _ h1
    subst h1
    exact ⟨_, by simp [Instr.entryStore, MapKept.run_getObj_map hb, asInt, asIntOf, goInt, hidx, hmod, MapKept.run_setObj_map _ hb, Result.andThen, setBlock], h2, h3⟩
theorem Sat.mapOf (h : Sat P w S σ H) {m n : Nat} {kt : TypeId} {f : Value → Option AV} (hg : mapOf (H.get m) = some (kt, n, f)) : ∃ o g f', H.get m = some o ∧ o.owned = true ∧ σ m = some (.map (some g)) ∧ MapOf P kt w g n f' ∧ ∀ k, (f k = none ∧ f' k = none) ∨ ∃ a v, f k = some a ∧ f' k = some v ∧ Rp w S σ a v := by
  cases ho : H.get m with
  | none => rw [ho] at hg; cases hg
  | some o =>
    rw [ho] at hg
    have hk := h.obj m o ho
    cases o with
    | map kt' n' f0 =>
      simp only [Go.Proofs.Ytgkkilbeingleaa.mapOf, Option.some.injEq, Prod.mk.injEq] at hg
      obtain ⟨rfl, rfl, rfl⟩ := hg
      obtain ⟨g, f', h1, h2, h3⟩ := hk
      exact ⟨_, g, f', rfl, rfl, h1, h2, h3⟩
    | smap kt' n' f0 st c =>
      simp only [Go.Proofs.Ytgkkilbeingleaa.mapOf, Option.some.injEq, Prod.mk.injEq] at hg
      obtain ⟨rfl, rfl, rfl⟩ := hg
      obtain ⟨g, f', es, h1, h2, _, _, h3⟩ := hk
      exact ⟨_, g, f', rfl, rfl, h1, h2, h3⟩
    | _ => cases hg
/-- a map is written: the world that comes holds it -/
theorem map_eff (hs : Sat P w S σ H) {m g : Nat} {o o' : AO} (hg : H.get m = some o) (ho : o.owned = true) (hσ : σ m = some (.map (some g))) {w' : World} (hgr : w.grownBy w' (some g)) (hok : (∀ a v, Rp w S σ a v → Rp w' S σ a v) → ObjOk P w' S σ m o') (ho' : o'.owned = true) :
    Sat P w' S σ (H.put m o') ∧ Ext w S σ H w' S σ (H.put m o') ∧ ∀ a v, Rp w S σ a v → Rp w' S σ a v := by
  have hnone : ∀ x, σ m = some x → x = .map (some g) := fun x hx => by rw [hσ] at hx; injection hx with hx; exact hx.symm
  have hsp : sput σ m (.map (some g)) = σ := sput_id hσ
  have hbk : (σ m).bind blkOf = some g := by rw [hσ]; rfl
  have hkeep : ∀ b, b < w.heap.size → blkOf (.map (some g)) ≠ some b → w'.heap[b]? = w.heap[b]? := fun b hb hne => hgr.block b hb (fun e => hne (by rw [e]; rfl))
  have hS : ∀ b, S b → w'.heap[b]? = w.heap[b]? := fun b hb => hkeep b (hs.sb b hb) (fun e => hs.sep m _ b hg ho (by rw [hσ]; exact e) hb)
  have hmono : ∀ a v, Rp w S σ a v → Rp w' S σ a v := fun a v h => h.mono (fun _ h => h) hS (fun _ _ h => h)
  have hsat := hs.upd (w' := w') (k := m) (o' := o') (hs.dom _ _ hσ) hnone hgr.size hkeep (fun b hb => by
      simp only [blkOf, Option.some.injEq] at hb; subst hb
      exact ⟨hs.sep m _ g hg ho hbk, fun k o2 hk h2 h3 h4 => hk (hs.dj k m o2 _ g h2 hg h3 ho h4 hbk)⟩)
    (by rw [hsp]; exact hok hmono)
    (fun j o b h1 h2 h3 => hs.lt h1 h2 h3) (fun A n c e => by cases e)
  have hext := Ext.upd (w' := w') (k := m) (o' := o') hs hnone hgr.os hgr.tape hgr.output hgr.size hkeep (fun b hb => by
      simp only [blkOf, Option.some.injEq] at hb; subst hb; exact .inl ⟨m, _, hg, ho, hbk⟩)
  rw [hsp] at hsat hext
  exact ⟨hsat, hext, hmono⟩
theorem putA_rp {w' : World} {f : Value → Option AV} {f' : Value → Option Value} (hm : ∀ a v, Rp w S σ a v → Rp w' S σ a v) (h : ∀ k, (f k = none ∧ f' k = none) ∨ ∃ a v, f k = some a ∧ f' k = some v ∧ Rp w S σ a v) {u : Value} {a : AV} {v : Value} (ha : Rp w' S σ a v) :
    ∀ k, (putA f u a k = none ∧ putO f' u v k = none) ∨ ∃ b y, putA f u a k = some b ∧ putO f' u v k = some y ∧ Rp w' S σ b y := fun x => by
  by_cases hxu : x = u
  · subst hxu; exact .inr ⟨a, v, putA_same _ _ _, putO_same _ _ _, ha⟩
  · rw [putA_other _ _ hxu, putO_other _ _ hxu]
    rcases h x with h | ⟨b, y, h1, h2, h3⟩
    · exact .inl h
    · exact .inr ⟨b, y, h1, h2, hm _ _ h3⟩
theorem nd_sound {o : Oper} {no : NO} {xs : List Operand} {args : List AV} {Q : AV → AH → Prop} {id : Nat} (hs : Sat P w S σ H) (hid : id < H.nx) (hσ : σ id = none) (hc : clsN P o.op = some (no, xs)) (hp : NdR P id H no args Q) (hr : Rps w S σ args (xs.map ev)) :
    ∃ a H', Q a H' ∧ Eff P w S σ H ev o id a H' ∧ H'.nx = H.nx := by
  cases ho : o.op <;> rw [ho] at hc <;> simp only [clsN] at hc <;> try (cases hc; done)
  case range t x =>
    split at hc
    · rename_i kt e hu
      simp only [Option.some.injEq, Prod.mk.injEq] at hc
      obtain ⟨rfl, rfl⟩ := hc
      cases hp with
      | rng _ m n f hg K =>
        obtain ⟨v, e1, hv⟩ := hr.one_inv
        simp only [List.map_cons, List.map_nil, List.cons.injEq, and_true] at e1
        obtain ⟨g, hx, hσm⟩ := hv.mp_inv
        subst hx
        obtain ⟨st, c, hs1⟩ := hs.stamp hg
        obtain ⟨om, hgm, hown, hmm⟩ := mapOf_owned hg
        have hne : m ≠ id := fun e => by subst e; rw [hσm] at hσ; cases hσ
        obtain ⟨g', f', es, k1, k2, k3, k4, k5⟩ := hs1.obj m _ AH.get_put_self
        rw [hσm] at k1
        simp only [Option.some.injEq, Value.map.injEq] at k1
        subst k1
        have hrun : (execOp ev o).run P w = .ok (.value (.pointer (some ⟨w.heap.size, 0, none⟩))) (w.alloc (.mapIter (some g) c #[] c)) := by
          simp [execOp, ho, e1, Go.run_range_map w t kt e g es c hu k3]
        have heff : Eff P w S σ (H.put m (.smap kt n f st c)) ev o id (.ptr id 0) ((H.put m (.smap kt n f st c)).put id (.miter m st c [])) :=
          new_eff hs1 ⟨rfl, rfl, rfl, rfl⟩ hid hσ (u := .pointer (some ⟨w.heap.size, 0, none⟩)) rfl ⟨w.heap.size, g, #[], sput_self, by rw [sput_ne hne]; exact hσm, (MapKept.heap_alloc w _).1, rfl⟩ (fun _ _ _ h => by cases h) hrun (.ptr id 0 _ sput_self)
        obtain ⟨nx, w', σ', q1, q2, q3, q4, q5⟩ := heff
        exact ⟨_, _, ⟨st, c, rfl, rfl⟩, ⟨nx, w', σ', q1, q2, q3, q4.retell hgm hown, q5⟩, rfl⟩
    · cases hc
  case next it s =>
    cases s with
    | true => cases hc
    | false =>
      simp only [Option.some.injEq, Prod.mk.injEq] at hc
      obtain ⟨rfl, rfl⟩ := hc
      cases hp with
      | nxt i m st c vis kt n f hi hm K hvis hnd =>
        obtain ⟨v, e1, hv⟩ := hr.one_inv
        simp only [List.map_cons, List.map_nil, List.cons.injEq, and_true] at e1
        obtain ⟨r, hx, hσi⟩ := hv.ptr_inv
        subst hx
        obtain ⟨r', g, seen, i1, i2, i3, i4⟩ := hs.obj i _ hi
        rw [hσi] at i1
        simp only [Option.some.injEq, Value.pointer.injEq, Addr.mk.injEq, and_true] at i1
        subst i1
        obtain ⟨g', f', es, k1, k2, k3, k4, k5⟩ := hs.obj m _ hm
        rw [i2] at k1
        simp only [Option.some.injEq, Value.map.injEq] at k1
        subst k1
        obtain ⟨D, ⟨es', clock', hb', F, hsz, rfl⟩, hrd⟩ := k2
        rw [k3] at hb'
        simp only [Option.some.injEq, Obj.map.injEq] at hb'
        obtain ⟨rfl, rfl⟩ := hb'
        have hst := (stamped_iff es c).1 F.stamped
        have hkey : ∀ k, (keyOf P kt k).isSome = true → (f k).isSome = true → ∃ x ∈ es.toList, x.key = k := fun k h1 h2 => by
          rcases entry_at w K F hrd h1 with ⟨_, h3⟩ | ⟨e0, h3, h4, _⟩
          · rcases k5 k with ⟨h5, _⟩ | ⟨a, u, _, h5, _⟩
            · rw [h5] at h2; cases h2
            · rw [h5] at h3; cases h3
          · exact ⟨e0, h3, h4⟩
        have hseen : ∀ x ∈ es.toList, (seen.contains x.born = true ↔ x.key ∈ vis) := fun x hx => by
          rw [Array.contains_iff_mem, ← Array.mem_toList_iff, i4, List.mem_map]
          constructor
          · rintro ⟨k, hk, he⟩
            obtain ⟨y, hy, rfl⟩ := hkey k (hvis k hk).2 (hvis k hk).1
            rw [k4 y hy] at he
            rw [← born_inj hst.2.1 hy hx he]; exact hk
          · exact fun h => ⟨_, h, k4 x hx⟩
        have hvl : ∀ k, k ∉ vis → (∃ x ∈ es.toList, x.key = k) → vis.length < n := fun k hk ⟨x, hx, hxk⟩ => by
          have hsub : ∀ y ∈ (k :: vis), y ∈ es.toList.map (·.key) := fun y hy => by
            rcases List.mem_cons.1 hy with rfl | hy
            · exact List.mem_map.2 ⟨x, hx, hxk⟩
            · obtain ⟨z, hz, hzk⟩ := hkey y (hvis y hy).2 (hvis y hy).1
              exact List.mem_map.2 ⟨z, hz, hzk⟩
          have := nodup_len (List.nodup_cons.2 ⟨hk, hnd⟩) hsub
          rw [List.length_cons, List.length_map] at this
          have h2 : es.toList.length = es.size := Array.length_toList
          omega
        rcases Go.run_next_at (P := P) w o.type r g c c seen es c i3 k3 hst.1 (Nat.le_refl _) with ⟨h0, hrun⟩ | ⟨e, he, w1, hal, hrun⟩
        · refine ⟨_, _, .inl ⟨rfl, rfl, fun k h1 h2 => ?_⟩, ⟨.value (.tuple #[.bool false]), w, σ, by simp [execOp, ho, e1, hrun], .inl ⟨_, rfl, ?_⟩, hs, .refl _ _ _ _, fun _ _ => rfl⟩, rfl⟩
          · obtain ⟨x, hx, hxk⟩ := hkey k h1 h2
            rw [← hxk]
            exact (hseen x hx).1 (all_seen es seen h0 x hx)
          · exact Rps.tup (Rps.cons (.data _ _ (.p _ rfl)) .nil)
        · obtain ⟨he1, he2⟩ := mem_left he
          obtain ⟨n1, n2⟩ := entry_in w K F hrd he1
          have hnv : e.key ∉ vis := fun h => by rw [(hseen e he1).2 h] at he2; cases he2
          obtain ⟨v, hfv, hrv⟩ : ∃ v, f e.key = some v ∧ Rp w S σ v e.val := by
            rcases k5 e.key with ⟨_, h⟩ | ⟨a, u, h1, h2, h3⟩
            · rw [n2] at h; cases h
            · rw [n2] at h2; injection h2 with h2; subst h2; exact ⟨a, h1, h3⟩
          have hheap1 : w1.heap = w.heap ∧ w1.os = w.os ∧ w1.tape = w.tape ∧ w1.output = w.output := by rcases hal with rfl | rfl <;> exact ⟨rfl, rfl, rfl, rfl⟩
          have hrlt : r < w.heap.size := heap_lt i3
          have hown : (AO.miter m st c vis).owned = true := rfl
          have hbk : (σ i).bind blkOf = some r := by rw [hσi]; rfl
          have hw' : ∀ b, b ≠ r → (setBlock w1 r (.mapIter (some g) c (seen.push e.born) c)).heap[b]? = w.heap[b]? := fun b hb => by
            simp only [setBlock, hheap1.1]
            rw [Array.getElem?_setIfInBounds_ne (Ne.symm hb)]
          have hwr : (setBlock w1 r (.mapIter (some g) c (seen.push e.born) c)).heap[r]? = some (.mapIter (some g) c (seen.push e.born) c) := by
            simp only [setBlock, hheap1.1]
            exact Array.getElem?_setIfInBounds_self_of_lt hrlt
          have hsz' : (setBlock w1 r (.mapIter (some g) c (seen.push e.born) c)).heap.size = w.heap.size := by simp [setBlock, hheap1.1]
          generalize hW : setBlock w1 r (.mapIter (some g) c (seen.push e.born) c) = w' at *
          have hos : w'.os = w.os ∧ w'.tape = w.tape ∧ w'.output = w.output := by rw [← hW]; exact hheap1.2
          have hnone : ∀ x, σ i = some x → x = .pointer (some ⟨r, 0, none⟩) := fun x hx => by rw [hσi] at hx; injection hx with hx; exact hx.symm
          have hsp : sput σ i (.pointer (some ⟨r, 0, none⟩)) = σ := sput_id hσi
          have hkeep : ∀ b, b < w.heap.size → blkOf (.pointer (some ⟨r, 0, none⟩)) ≠ some b → w'.heap[b]? = w.heap[b]? := fun b _ hne => hw' b (fun e => hne (by rw [e]; rfl))
          have hS : ∀ b, S b → w'.heap[b]? = w.heap[b]? := fun b hb => hkeep b (hs.sb b hb) (fun e => hs.sep i _ b hi hown (by rw [hbk]; exact e) hb)
          have hsat := hs.upd (w' := w') (k := i) (o' := .miter m st c (vis ++ [e.key])) (hs.dom _ _ hσi) hnone (by omega) hkeep (fun b hb => by
              simp only [blkOf, Option.some.injEq] at hb; subst hb
              exact ⟨hs.sep i _ r hi hown hbk, fun k o2 hk h2 h3 h4 => hk (hs.dj k i o2 _ r h2 hi h3 hown h4 hbk)⟩)
            (by
              rw [hsp]
              exact ⟨r, g, seen.push e.born, hσi, i2, hwr, by rw [Array.toList_push, i4, List.map_append, List.map_singleton, k4 e he1]⟩)
            (fun j o b h1 h2 h3 => hs.lt h1 h2 h3) (fun A n c e => by cases e)
          have hext := Ext.upd (w' := w') (k := i) (o' := .miter m st c (vis ++ [e.key])) hs hnone hos.1 hos.2.1 hos.2.2 (by omega) hkeep (fun b hb => by
              simp only [blkOf, Option.some.injEq] at hb; subst hb; exact .inl ⟨i, _, hi, hown, hbk⟩)
          rw [hsp] at hsat hext
          refine ⟨_, _, .inr ⟨e.key, v, n1, hfv, hnv, hvl _ hnv ⟨e, he1, rfl⟩, rfl, rfl⟩, ⟨.value (.tuple #[.bool true, e.key, e.val]), w', σ, by simp [execOp, ho, e1, hrun, hW], .inl ⟨_, rfl, ?_⟩, hsat, hext, fun _ _ => rfl⟩, rfl⟩
          exact Rps.tup (Rps.cons (.data _ _ (.p _ rfl)) (Rps.cons (avOfV_rp _) (Rps.cons (hrv.mono (fun _ h => h) hS (fun _ _ h => h)) .nil)))
  case entry it =>
    simp only [Option.some.injEq, Prod.mk.injEq] at hc
    obtain ⟨rfl, rfl⟩ := hc
    cases hp with
    | ent i m st c vis kt n f k v hi hm K hfk hk =>
      obtain ⟨v0, e1, hv⟩ := hr.one_inv
      simp only [List.map_cons, List.map_nil, List.cons.injEq, and_true] at e1
      obtain ⟨r, hx, hσi⟩ := hv.ptr_inv
      subst hx
      obtain ⟨r', g, seen, i1, i2, i3, i4⟩ := hs.obj i _ hi
      rw [hσi] at i1
      simp only [Option.some.injEq, Value.pointer.injEq, Addr.mk.injEq, and_true] at i1
      subst i1
      obtain ⟨g', f', es, k1, k2, k3, k4, k5⟩ := hs.obj m _ hm
      rw [i2] at k1
      simp only [Option.some.injEq, Value.map.injEq] at k1
      subst k1
      obtain ⟨D, ⟨es', clock', hb', F, hsz, rfl⟩, hrd⟩ := k2
      rw [k3] at hb'
      simp only [Option.some.injEq, Obj.map.injEq] at hb'
      obtain ⟨rfl, rfl⟩ := hb'
      have hst := (stamped_iff es c).1 F.stamped
      obtain ⟨x, hx, hxk⟩ : ∃ x ∈ es.toList, x.key = k := by
        rcases entry_at w K F hrd hk with ⟨_, h3⟩ | ⟨e0, h3, h4, _⟩
        · rcases k5 k with ⟨h5, _⟩ | ⟨a, u, _, h5, _⟩
          · rw [h5] at hfk; cases hfk
          · rw [h5] at h3; cases h3
        · exact ⟨e0, h3, h4⟩
      subst hxk
      obtain ⟨n1, n2⟩ := entry_in w K F hrd hx
      have hsn : ∃ s0 : Array Nat, seen = s0.push x.born := by
        refine ⟨(vis.map st).toArray, ?_⟩
        apply Array.toList_inj.1
        rw [i4, List.map_append, List.map_singleton, k4 x hx, Array.toList_push]
      obtain ⟨s0, rfl⟩ := hsn
      have hrun := Go.run_entry_at (P := P) w r g c s0 es c x i3 k3 hx hst.2.1
      refine ⟨_, _, ⟨rfl, rfl⟩, ⟨.value (.tuple #[x.key, x.val]), w, σ, by simp [execOp, ho, e1, hrun], .inl ⟨_, rfl, ?_⟩, hs, .refl _ _ _ _, fun _ _ => rfl⟩, rfl⟩
      have hrv : Rp w S σ v x.val := by
        rcases k5 x.key with ⟨h, _⟩ | ⟨a, u, h1, h2, h3⟩
        · rw [h] at hfk; cases hfk
        · rw [n2] at h2; injection h2 with h2; subst h2; rw [hfk] at h1; injection h1 with h1; rw [h1]; exact h3
      exact Rps.tup (Rps.cons (avOfV_rp _) (Rps.cons hrv .nil))
  case mapEntry t mo ko =>
    cases hu : P.underlying t with
    | none => rw [hu] at hc; cases hc
    | some d =>
      rw [hu] at hc
      cases d <;> (try simp only at hc) <;> try (cases hc; done)
      rename_i kt e
      cases hz : zeroV P e with
      | none => rw [hz] at hc; cases hc
      | some z =>
        rw [hz] at hc
        simp only [Option.some.injEq, Prod.mk.injEq] at hc
        obtain ⟨rfl, rfl⟩ := hc
        obtain ⟨zv, hzv, hzr⟩ := zeroV_run (P := P) (w := w) (S := S) (σ := σ) hz
        cases hp with
        | ment _ _ m n f key u hg K hv hk hn =>
          obtain ⟨v1, v2, e1, q1, q2⟩ := hr.two_inv
          simp only [List.map_cons, List.map_nil, List.cons.injEq, and_true] at e1
          obtain ⟨rfl, rfl⟩ := e1
          obtain ⟨g, hx, hσm⟩ := q1.mp_inv
          have hku := AV.val_sound hv q2
          obtain ⟨om, g', f', hgm, hown, h1, h2, h3⟩ := hs.mapOf hg
          rw [hσm] at h1
          simp only [Option.some.injEq, Value.map.injEq] at h1
          subst h1
          obtain ⟨w', es, c, x, hrun, hmap, hgr, hb, hxe, hxk⟩ := h2.entry K hu hn hzv hk
          have hval : Rp w S σ ((f u).getD z) ((f' u).getD zv) := by
            rcases h3 u with ⟨a1, a2⟩ | ⟨a, v, a1, a2, a3⟩
            · rw [a1, a2]; exact hzr
            · rw [a1, a2]; exact a3
          have hmap' := hmap
          obtain ⟨D, ⟨es2, c2, hb2, F, _, _⟩, _⟩ := hmap'
          rw [hb] at hb2
          simp only [Option.some.injEq, Obj.map.injEq] at hb2
          obtain ⟨rfl, rfl⟩ := hb2
          have hst := stampOf_eq F.stamped hxe
          rw [hxk] at hst
          obtain ⟨k1, k2, k3⟩ := map_eff hs hgm hown hσm hgr (o' := .smap kt (n + 1) (putA f u ((f u).getD z)) (stampOf es) c) (fun hm => ⟨g, _, es, hσm, hmap, hb, fun y hy => stampOf_eq F.stamped hy, putA_rp hm h3 (hm _ _ hval)⟩) rfl
          refine ⟨_, _, ⟨stampOf es, c, rfl, rfl⟩, ⟨.value (.tuple #[(f' u).getD zv, goInt x.born]), w', σ, by simp [execOp, ho, hx, hku, hrun], .inl ⟨_, rfl, ?_⟩, k1, k2, fun _ _ => rfl⟩, rfl⟩
          rw [hst]
          exact Rps.tup (Rps.cons (k3 _ _ hval) (Rps.cons (.data _ (goInt (x.born : Int)) (.p _ rfl)) .nil))
  case entryStore t mo so xo =>
    cases hu : P.underlying t with
    | none => rw [hu] at hc; cases hc
    | some d =>
    rw [hu] at hc
    cases d <;> (try simp only at hc) <;> try (cases hc; done)
    rename_i kt e
    simp only [Option.some.injEq, Prod.mk.injEq] at hc
    obtain ⟨rfl, rfl⟩ := hc
    cases hp with
    | est _ m n f st c u s x hg K hk hfu hsu hn =>
      obtain ⟨v1, v2, v3, e1, q1, q2, q3⟩ := hr.three_inv
      simp only [List.map_cons, List.map_nil, List.cons.injEq, and_true] at e1
      obtain ⟨rfl, rfl, rfl⟩ := e1
      obtain ⟨g, hx, hσm⟩ := q1.mp_inv
      have hs2 := q2.p_inv.1
      obtain ⟨g', f', es, k1, k2, k3, k4, k5⟩ := hs.obj m _ hg
      rw [hσm] at k1
      simp only [Option.some.injEq, Value.map.injEq] at k1
      subst k1
      have k2' := k2
      obtain ⟨D, ⟨es2, c2, hb2, F, _, rfl⟩, hrd⟩ := k2'
      rw [k3] at hb2
      simp only [Option.some.injEq, Obj.map.injEq] at hb2
      obtain ⟨rfl, rfl⟩ := hb2
      obtain ⟨y, hy, hyk⟩ : ∃ y ∈ es.toList, y.key = u := by
        rcases entry_at w K F hrd hk with ⟨_, h3⟩ | ⟨e0, h3, h4, _⟩
        · rcases k5 u with ⟨h5, _⟩ | ⟨a, v, _, h5, _⟩
          · rw [h5] at hfu; cases hfu
          · rw [h5] at h3; cases h3
        · exact ⟨e0, h3, h4⟩
      subst hyk
      obtain ⟨w', hrun, hmap, hgr⟩ := k2.restamp K hu hn k3 hy hk t (ev xo)
      obtain ⟨r1, r2, r3⟩ := map_eff hs hg rfl hσm hgr (o' := .map kt (n + 1) (putA f y.key x)) (fun hm => ⟨g, _, hσm, hmap, putA_rp hm k5 (hm _ _ q3)⟩) rfl
      rw [← hsu, k4 y hy] at hs2
      exact ⟨_, _, ⟨rfl, rfl⟩, ⟨_, w', σ, by simp [execOp, ho, hx, hs2]; rw [show (Value.int .i64 (y.born : Int)) = goInt y.born from rfl, hrun]; rfl, .inr ⟨rfl, rfl⟩, r1, r2, fun _ _ => rfl⟩, rfl⟩
end
end Go.Proofs.Ytgkkilbeingleaa

/- A slice whose capacity is known is appended to: in place, or anew; the old one stays. Nothing of the program is named here. -/
namespace Go.Proofs.Ytgkkilbeingleaa
open Go.RowKit Go.Maps
section
variable {P : Program} {w : World} {S : Nat → Prop} {σ : Nat → Option Value} {ev : Operand → Value} {H : AH}
/-- cells of a block of one's own are written; something comes back -/
theorem set_eff2 (hs : Sat P w S σ H) {i : Nat} {o o' : AO} {u : Value} {g off : Nat} {t : TypeId} {arr : Array Value} {vs : List Value} {op : Oper} {x : AV} {v : Value}
    (hg : H.get i = some o) (how : o.owned = true) (hσ : σ i = some u) (hu : blkOf u = some g) (hb : Blk w g t arr) {id : Nat} (hii : i < H.nx)
    (hrun : (execOp ev op).run P w = .ok (.value v) (w.setRow g (arr.toList.take off ++ vs ++ arr.toList.drop (off + vs.length)).toArray))
    (hx : ∀ w' : World, Rp w' S σ x v)
    (hobj : ∀ w', (∀ b, b ≠ g → w'.heap[b]? = w.heap[b]?) → Blk w' g t (arr.toList.take off ++ vs ++ arr.toList.drop (off + vs.length)).toArray → ObjOk P w' S σ i o') : Eff P w S σ H ev op id x (H.put i o') := by
  have hkeep : ∀ b, b ≠ g → (w.setRow g (arr.toList.take off ++ vs ++ arr.toList.drop (off + vs.length)).toArray).heap[b]? = w.heap[b]? := fun b hb => setRow_other w g b _ hb
  have hnone : ∀ x, σ i = some x → x = u := fun x hx => by rw [hσ] at hx; injection hx with hx; exact hx.symm
  have hsp : sput σ i u = σ := sput_id hσ
  have hbk : (σ i).bind blkOf = some g := by rw [hσ]; exact hu
  have hsat := hs.upd (w' := w.setRow g (arr.toList.take off ++ vs ++ arr.toList.drop (off + vs.length)).toArray) (k := i) (o' := o') hii hnone (by simp) (fun b hb hne => hkeep b (fun e => hne (by rw [hu, e]))) (fun b hb => by
      rw [hu] at hb; injection hb with hb; subst hb
      exact ⟨hs.sep i o g hg how hbk, fun k o2 hk h2 h3 h4 => hk (hs.dj k i o2 o g h2 hg h3 how h4 hbk)⟩)
    (by rw [hsp]; exact hobj _ hkeep (setRow_heap w g arr _ t (0, 0) hb)) (fun j o b h1 h2 h3 => hs.lt h1 h2 h3) (fun A n c e => hs.sl i A n c (by rw [hσ, e]))
  have hext := Ext.upd (w' := w.setRow g (arr.toList.take off ++ vs ++ arr.toList.drop (off + vs.length)).toArray) (k := i) (o' := o') hs hnone rfl rfl rfl (by simp) (fun b hb hne => hkeep b (fun e => hne (by rw [hu, e]))) (fun b hb => by
      rw [hu] at hb; injection hb with hb; subst hb; exact .inl ⟨i, o, hg, how, hbk⟩)
  rw [hsp] at hsat hext
  exact ⟨_, _, σ, hrun, .inl ⟨v, rfl, hx _⟩, hsat, hext, fun _ _ => rfl⟩
theorem same_put {r : Nat} {o : AO} (hg : H.get r = some o) (k : Nat) : (H.put r o).get k = H.get k := by
  by_cases e : k = r
  · subst e; rw [AH.get_put_self, hg]
  · rw [AH.get_put_ne e]
theorem crow_in {o : Oper} {c : Call} {s x : Operand} {t e : TypeId} {j : TypeInfo} {id r n cr : Nat} {es ys : List (List AV)} {xa : AV} (hs : Sat P w S σ H) (ho : o.op = .call c) (hcb : c.callee = .builtin .append) (hca : c.args.toList = [s, x]) (hct : c.argTypes.toList = [t, t])
    (hu : P.underlying t = some (.slice e)) (hi : P.info? e = some j) (hjs : j.size ≠ 0) (hg : H.get r = some (.crow e j.size cr es)) (hn : n = es.length) (hel : ElA H j.size xa ys) (hroom : n + ys.length ≤ cr)
    (hr : Rps w S σ [.osl r j.size 0 n, xa] [ev s, ev x]) : Eff P w S σ H ev o id (.osl r j.size 0 (n + ys.length)) (H.put r (.crow e j.size cr (es ++ ys))) := by
  have hca' : c.args = #[s, x] := Array.toList_inj.1 hca
  have hct' : c.argTypes = #[t, t] := Array.toList_inj.1 hct
  have exec : ∀ {v1 v2 r : Value} {w' : World}, ev s = v1 → ev x = v2 → (Builtin.append_ #[t, t] o.type #[v1, v2]).run P w = .ok r w' → (execOp ev o).run P w = .ok (.value r) w' := by
    intro v1 v2 r w' h1 h2 h3
    simp [execOp, ho, resolve, hcb, hca', hct', invoke, builtin, h1, h2, h3]
  have src : ∃ A c2, ev x = .slice A ys.length c2 ∧ Elts w S σ j.size A ys := by
    obtain ⟨v1, v2, e1, q1, q2⟩ := hr.two_inv
    simp only [List.cons.injEq, and_true] at e1
    obtain ⟨rfl, rfl⟩ := e1
    obtain ⟨A, c2, h⟩ := el_sound hs hel q2
    rcases h with ⟨h1, h2, _⟩ | ⟨rfl, h1, rfl⟩
    · exact ⟨A, c2, h1, h2⟩
    · exact ⟨none, c2, h1, by simp, [], by simp, .nil, by simp, by simp⟩
  obtain ⟨v1, v2, e1, q1, q2⟩ := hr.two_inv
  simp only [List.cons.injEq, and_true] at e1
  obtain ⟨rfl, rfl⟩ := e1
  obtain ⟨Ar, B, N, cr', cc, hx, hσr, k1, k2, k3⟩ := q1.osl_inv
  obtain ⟨A, c2, hy, hE⟩ := src
  obtain ⟨news, n1, n2, n3, n4⟩ := elts_read (P := P) hE rfl
  obtain ⟨A', N', m1, m2, m3, m4, m5⟩ := hs.obj r _ hg
  rw [hσr] at m1
  simp only [Option.some.injEq, Value.slice.injEq] at m1
  obtain ⟨rfl, rfl, rfl⟩ := m1
  have hcc' : cc = cr' := by omega
  subst hcc'
  by_cases hcc : cc = 0
  · have hn0 : n = 0 := by omega
    have hy0 : ys = [] := List.eq_nil_of_length_eq_zero (by omega)
    subst hy0
    have he0 : es = [] := List.eq_nil_of_length_eq_zero (by omega)
    subst he0
    have n4' := n4 w c2 rfl
    have hnw : news = [] := List.eq_nil_of_length_eq_zero (by simpa using n1)
    subst hnw
    simp only [List.length_nil] at n4' hy
    have hrun : (Builtin.append_ #[t, t] o.type #[.slice B n cc, .slice A 0 c2]).run P w = .ok (.slice B n cc) w := by
      subst hn0; subst hcc
      cases B <;> simp [Builtin.append_, run_underlying hu, sizeOf, typeInfo, hi, Builtin.lenOf, n4', storeCells]
    have hgs := same_put hg
    simp only [List.append_nil, List.length_nil, Nat.add_zero]
    refine ⟨_, w, σ, exec hx hy hrun, .inl ⟨_, rfl, ?_⟩, hs.congr hgs (Nat.le_refl _), Ext.lessR (H1 := H) (.refl _ _ _ _) fun b ⟨k, o, h1, h2, h3⟩ => ⟨k, o, by rw [← hgs]; exact h1, h2, h3⟩, fun _ _ => rfl⟩
    rw [← hx]; exact q1
  · rcases m5 with ⟨_, m5⟩ | ⟨g, o', arr, rfl, p1, p2, p3, p4⟩
    · omega
    have hB : B = some ⟨g, o', none⟩ := by rw [k3 (by omega), Option.map_some, addr_add, Nat.zero_mul, Nat.add_zero]
    subst hB
    have hfit : o' + n * j.size + news.length ≤ arr.size := by
      rw [n1]
      have : (n + ys.length) * j.size ≤ cc * j.size := Nat.mul_le_mul_right _ hroom
      rw [Nat.add_mul] at this
      omega
    have hrun := app_room (P := P) (w := w) (ty := o.type) hu hi p1 n1 n3 (n4 w c2 rfl) hroom hfit
    have hspl : ∀ q, (arr.toList.take (o' + n * j.size) ++ news ++ arr.toList.drop (o' + n * j.size + news.length))[q]? = _ := fun q => splice_get arr.toList news (o' + n * j.size) q (by rw [Array.length_toList]; exact hfit)
    have hbk : (σ r).bind blkOf = some g := by rw [hσr]; rfl
    refine set_eff2 hs hg rfl hσr rfl p1 (hs.dom _ _ hσr) (exec hx hy hrun) (fun w' => .osl _ _ _ _ _ _ _ cc cc hσr hroom (by omega) (fun _ => by simp [addr_add])) fun w' hk hb => ?_
    have mono : ∀ {a : AV} {v : Value}, Rp w S σ a v → Rp w' S σ a v := fun h => h.mono (fun _ h => h) (fun b hb => hk b (fun e => hs.sep r _ b hg rfl (by rw [hbk, e]) hb)) (fun _ _ h => h)
    refine ⟨_, _, hσr, fun y hy => ?_, by rw [List.length_append]; omega, m4, .inr ⟨g, _, _, rfl, hb, ?_, fun u hu => ?_, fun i e' jj b he hb' => ?_⟩⟩
    · exact (List.mem_append.1 hy).elim (fun h => m2 y h) (hE.1 y)
    · rw [List.size_toArray, splice_len _ _ _ (by rw [Array.length_toList]; exact hfit), Array.length_toList]
      exact p2
    · rw [← Array.mem_toList_iff, List.toList_toArray] at hu
      rcases List.mem_append.1 hu with hu | hu
      · rcases List.mem_append.1 hu with hu | hu
        · exact p3 u (Array.mem_toList_iff.1 (List.mem_of_mem_take hu))
        · exact n3 u hu
      · exact p3 u (Array.mem_toList_iff.1 (List.mem_of_mem_drop hu))
    · rw [List.getElem?_toArray, hspl]
      by_cases hin : i < n
      · rw [List.getElem?_append_left (by omega)] at he
        have hjl : jj < j.size := by have := (List.getElem?_eq_some_iff.1 hb').1; rw [m2 e' (List.mem_of_getElem? he)] at this; exact this
        obtain ⟨u, hu, hru⟩ := p4 i e' jj b he hb'
        have : (i + 1) * j.size ≤ n * j.size := Nat.mul_le_mul_right _ (by omega)
        rw [Nat.add_mul, Nat.one_mul] at this
        refine ⟨u, ?_, mono hru⟩
        rw [if_pos (by omega), Array.getElem?_toList]; exact hu
      · rw [List.getElem?_append_right (by omega), ← hn] at he
        have hjl : jj < j.size := by have := (List.getElem?_eq_some_iff.1 hb').1; rw [hE.1 e' (List.mem_of_getElem? he)] at this; exact this
        have hfl := flat_elem hE.1 (i - n) e' jj b he hb'
        obtain ⟨u, hu, hru⟩ := n2.at_ hfl
        have hil : i - n < ys.length := (List.getElem?_eq_some_iff.1 he).1
        have h7 : (i - n + 1) * j.size ≤ ys.length * j.size := Nat.mul_le_mul_right _ (by omega)
        have h8 : (n + (i - n)) * j.size = i * j.size := by congr 1; omega
        rw [Nat.add_mul] at h7 h8
        refine ⟨u, ?_, mono hru⟩
        rw [if_neg (by omega), if_pos (by rw [n1]; omega), show o' + i * j.size + jj - (o' + n * j.size) = (i - n) * j.size + jj by omega]; exact hu
theorem crow_out {o : Oper} {c : Call} {s x : Operand} {t e : TypeId} {z : List AV} {j : TypeInfo} {id r n cr : Nat} {es ys : List (List AV)} {xa : AV} (hs : Sat P w S σ H) (hid : id < H.nx) (hσ : σ id = none) (ho : o.op = .call c) (hcb : c.callee = .builtin .append) (hca : c.args.toList = [s, x]) (hct : c.argTypes.toList = [t, t])
    (hu : P.underlying t = some (.slice e)) (hz : zeroA P e = some z) (hi : P.info? e = some j) (hzl : z.length = j.size) (hjs : j.size ≠ 0) (hg : H.get r = some (.crow e j.size cr es)) (hn : n = es.length) (hel : ElA H j.size xa ys) (hroom : cr < n + ys.length) (h63 : n + ys.length ≤ maxLen) (hby : (n + ys.length) * j.bytes ≤ 140737488355328)
    (hr : Rps w S σ [.osl r j.size 0 n, xa] [ev s, ev x]) : Eff P w S σ H ev o id (.osl id j.size 0 (n + ys.length)) (H.put id (.row e j.size (es ++ ys))) := by
  obtain ⟨v1, v2, e1, q1, q2⟩ := hr.two_inv
  simp only [List.cons.injEq, and_true] at e1
  obtain ⟨rfl, rfl⟩ := e1
  obtain ⟨Ar, B, N, cr', cc, hx, hσr, k1, k2, k3⟩ := q1.osl_inv
  have src : ∃ A c2, ev x = .slice A ys.length c2 ∧ Elts w S σ j.size A ys := by
    obtain ⟨A, c2, h⟩ := el_sound hs hel q2
    rcases h with ⟨h1, h2, _⟩ | ⟨rfl, h1, rfl⟩
    · exact ⟨A, c2, h1, h2⟩
    · exact ⟨none, c2, h1, by simp, [], by simp, .nil, by simp, by simp⟩
  obtain ⟨A, c2, hy, hE⟩ := src
  obtain ⟨news, n1, n2, n3, n4⟩ := elts_read (P := P) hE rfl
  have hbase : Elts w S σ j.size B es := by
    have hel0 := ElA.crow (H := H) (sz := j.size) r 0 n cr e es hg (by omega)
    rw [List.drop_zero, List.take_of_length_le (by omega)] at hel0
    obtain ⟨Ab, cb, h⟩ := el_sound hs hel0 q1
    rcases h with ⟨h1, h2, _⟩ | ⟨h0, h1, rfl⟩
    · rw [hx] at h1; injection h1 with h1 _ _; subst h1; exact h2
    · rw [h0]; exact ⟨by simp, [], by simp, .nil, by simp, by simp⟩
  obtain ⟨olds, o1, o2, o3, o4⟩ := elts_read (P := P) hbase hn.symm
  obtain ⟨A', N', m1, m2, m3, m4, m5⟩ := hs.obj r _ hg
  rw [hσr] at m1
  simp only [Option.some.injEq, Value.slice.injEq] at m1
  obtain ⟨rfl, rfl, rfl⟩ := m1
  exact grow_eff (ev := ev) (o := o) hs ho hcb hca hct hu hz hi hzl hjs hid hσ hbase.1 hE.1 hn.symm rfl o2 n2 o3 n3 hx hy (o4 w.drew cc rfl) (n4 w.drew c2 rfl) (by omega) h63 hby
/-- an append to a row of known capacity -/
inductive CrR (id : Nat) : WO → List AV → AH → AV → AH → Prop
  | app_in (t sz bytes r n c : Nat) (es ys : List (List AV)) (x : AV) (H : AH) : H.get r = some (.crow t sz c es) → n = es.length → ElA H sz x ys → n + ys.length ≤ c → CrR id (.app t sz bytes) [.osl r sz 0 n, x] H (.osl r sz 0 (n + ys.length)) (H.put r (.crow t sz c (es ++ ys)))
  | app_out (t sz bytes r n c : Nat) (es ys : List (List AV)) (x : AV) (H : AH) : H.get r = some (.crow t sz c es) → n = es.length → ElA H sz x ys → c < n + ys.length → n + ys.length ≤ maxLen → (n + ys.length) * bytes ≤ 140737488355328 →
      CrR id (.app t sz bytes) [.osl r sz 0 n, x] H (.osl id sz 0 (n + ys.length)) (H.put id (.row t sz (es ++ ys)))
theorem cr_sound {o : Oper} {wo : WO} {xs : List Operand} {args : List AV} {a : AV} {id : Nat} {H' : AH} (hs : Sat P w S σ H) (hid : id < H.nx ∧ σ id = none) (hc : clsW P o.op = some (wo, xs)) (hp : CrR id wo args H a H') (hr : Rps w S σ args (xs.map ev)) : Eff P w S σ H ev o id a H' := by
  cases ho : o.op <;> rw [ho] at hc <;> simp only [clsW] at hc <;> try (cases hc; done)
  case store t x v =>
    cases hi : P.info? t with
    | none => rw [hi] at hc; cases hc
    | some j =>
      rw [hi] at hc
      simp only [Option.map_some, Option.some.injEq, Prod.mk.injEq] at hc
      obtain ⟨rfl, rfl⟩ := hc
      cases hp
  case mapUpdate t m k v =>
    revert hc
    split
    · intro hc
      simp only [Option.some.injEq, Prod.mk.injEq] at hc
      obtain ⟨rfl, rfl⟩ := hc
      cases hp
    · intro hc; cases hc
  case insert t m k v =>
    revert hc
    split
    · intro hc
      simp only [Option.some.injEq, Prod.mk.injEq] at hc
      obtain ⟨rfl, rfl⟩ := hc
      cases hp
    · intro hc; cases hc
  case call c =>
    revert hc
    split
    · rename_i s x t t' hcb hca hct
      split
      · rename_i e hu
        split
        · rename_i z j hz hi
          split
          · split
            · intro hc; cases hc
            · split
              · intro hc
                simp only [Option.some.injEq, Prod.mk.injEq] at hc
                obtain ⟨rfl, rfl⟩ := hc
                cases hp
              · split
                · intro hc
                  simp only [Option.some.injEq, Prod.mk.injEq] at hc
                  obtain ⟨rfl, rfl⟩ := hc
                  cases hp
                · intro hc; cases hc
              · intro hc; cases hc
          · rename_i hcond
            simp only [not_or, ne_eq, Decidable.not_not] at hcond
            obtain ⟨rfl, c2, c3⟩ := hcond
            intro hc
            simp only [Option.some.injEq, Prod.mk.injEq] at hc
            obtain ⟨rfl, rfl⟩ := hc
            cases hp with
            | app_in _ _ _ r n c es ys x _ hg hn hel hroom => exact crow_in hs ho hcb hca hct hu hi c2 hg hn hel hroom hr
            | app_out _ _ _ r n c es ys x _ hg hn hel hroom h63 hby => exact crow_out hs hid.1 hid.2 ho hcb hca hct hu hz hi c3 c2 hg hn hel hroom h63 hby hr
        · intro hc; cases hc
      · intro hc; cases hc
    · split
      · split
        · split
          · intro hc; cases hc
          · intro hc
            simp only [Option.some.injEq, Prod.mk.injEq] at hc
            obtain ⟨rfl, rfl⟩ := hc
            cases hp
        · intro hc; cases hc
      · intro hc; cases hc
    · split
      · split
        · intro hc
          simp only [Option.some.injEq, Prod.mk.injEq] at hc
          obtain ⟨rfl, rfl⟩ := hc
          cases hp
        · intro hc; cases hc
      · intro hc; cases hc
    · intro hc; cases hc
/-- a row's capacity is told -/
theorem Sat.capped (hs : Sat P w S σ H) {r : Nat} {t : TypeId} {sz : Nat} {es : List (List AV)} (hg : H.get r = some (.row t sz es)) : ∃ c, es.length ≤ c ∧ Sat P w S σ (H.put r (.crow t sz c es)) := by
  obtain ⟨A, c, h1, h2, h3, h4, h5⟩ := hs.obj r _ hg
  have hget : ∀ id o, (H.put r (.crow t sz c es)).get id = some o → ∃ o', H.get id = some o' ∧ o'.owned = o.owned ∧ ((id = r ∧ o = .crow t sz c es) ∨ (id ≠ r ∧ o' = o)) := by
    intro id o ho
    by_cases e : id = r
    · subst e; rw [AH.get_put_self] at ho; injection ho with ho; subst ho; exact ⟨_, hg, rfl, .inl ⟨rfl, rfl⟩⟩
    · rw [AH.get_put_ne e] at ho; exact ⟨o, ho, rfl, .inr ⟨e, rfl⟩⟩
  refine ⟨c, h3, hs.sb, hs.dom, fun id o ho => ?_, fun i j o o' b h h' k k' => ?_, fun i o b h k hb => ?_, hs.sl⟩
  · obtain ⟨o', h', _, ⟨rfl, rfl⟩ | ⟨_, rfl⟩⟩ := hget id o ho
    · exact ⟨A, _, h1, h2, h3, h4, h5⟩
    · exact hs.obj id _ h'
  · obtain ⟨o1, q1, e1, _⟩ := hget i o h
    obtain ⟨o2, q2, e2, _⟩ := hget j o' h'
    exact hs.dj i j o1 o2 b q1 q2 (e1.trans k) (e2.trans k')
  · obtain ⟨o1, q1, e1, _⟩ := hget i o h
    exact hs.sep i o1 b q1 (e1.trans k) hb
/-- what lies behind in a row is let go -/
theorem Sat.prefix (hs : Sat P w S σ H) {r : Nat} {t : TypeId} {sz c : Nat} {es : List (List AV)} (hg : H.get r = some (.crow t sz c es)) (n : Nat) : Sat P w S σ (H.put r (.crow t sz c (es.take n))) := by
  obtain ⟨A, N, h1, h2, h3, h4, h5⟩ := hs.obj r _ hg
  have hget : ∀ id o, (H.put r (.crow t sz c (es.take n))).get id = some o → ∃ o', H.get id = some o' ∧ o'.owned = o.owned ∧ ((id = r ∧ o = .crow t sz c (es.take n)) ∨ (id ≠ r ∧ o' = o)) := by
    intro id o ho
    by_cases e : id = r
    · subst e; rw [AH.get_put_self] at ho; injection ho with ho; subst ho; exact ⟨_, hg, rfl, .inl ⟨rfl, rfl⟩⟩
    · rw [AH.get_put_ne e] at ho; exact ⟨o, ho, rfl, .inr ⟨e, rfl⟩⟩
  refine ⟨hs.sb, hs.dom, fun id o ho => ?_, fun i j o o' b h h' k k' => ?_, fun i o b h k hb => ?_, hs.sl⟩
  · obtain ⟨o', h', _, ⟨rfl, rfl⟩ | ⟨_, rfl⟩⟩ := hget id o ho
    · refine ⟨A, N, h1, fun e he => h2 e (List.mem_of_mem_take he), by rw [List.length_take]; omega, h4, ?_⟩
      refine h5.imp_right fun ⟨g, o, arr, k0, k1, k2, k3, k4⟩ => ⟨g, o, arr, k0, k1, k2, k3, fun i e j a he ha => k4 i e j a ?_ ha⟩
      rw [List.getElem?_take] at he
      split at he
      · exact he
      · cases he
    · exact hs.obj id _ h'
  · obtain ⟨o1, q1, e1, _⟩ := hget i o h
    obtain ⟨o2, q2, e2, _⟩ := hget j o' h'
    exact hs.dj i j o1 o2 b q1 q2 (e1.trans k) (e2.trans k')
  · obtain ⟨o1, q1, e1, _⟩ := hget i o h
    exact hs.sep i o1 b q1 (e1.trans k) hb
end
end Go.Proofs.Ytgkkilbeingleaa

/- Calls, operations one behind the other, and in whatever order, on abstract memory. Nothing of the program is named here. -/
namespace Go.Proofs.Ytgkkilbeingleaa
open Go.RowKit Go.Maps

/-- some world stands so -/
def SatE (P : Program) (H : AH) : Prop := ∃ w S σ, Sat P w S σ H
/-- what a call does, told abstractly -/
def Tri (P : Program) (f : FuncId) (args : List AV) (H : AH) (Q : AV → AH → Prop) : Prop :=
  ∀ w S σ us, Sat P w S σ H → Rps w S σ args us → Calls P f us.toArray w fun e w' => ∃ v S' σ' r H', e = .returned v ∧ Q r H' ∧ Sat P w' S' σ' H' ∧ Rp w' S' σ' r v ∧ Ext w S σ H w' S' σ' H' ∧ H.nx ≤ H'.nx ∧ ∀ id, id < H.nx → σ' id = σ id
theorem Tri.mono {P : Program} {f : FuncId} {args : List AV} {H : AH} {Q Q' : AV → AH → Prop} (h : Tri P f args H Q) (hq : ∀ r H', Q r H' → Q' r H') : Tri P f args H Q' :=
  fun w S σ us hs hr => (h w S σ us hs hr).mono fun _ _ ⟨v, S', σ', r, H', h1, h2, h3⟩ => ⟨v, S', σ', r, H', h1, hq _ _ h2, h3⟩
abbrev Env := Nat → AV
def ev0 (env : Env) : Operand → AV
  | .tmp t => env t
  | .const v => avOfV v
  | .global g => .p (.pointer (some ⟨g, 0, none⟩))
  | .func f => .fn (.func f) [] []
def setE (n : Nat) (env : Env) (dst : Option Tmp) (a : AV) : Env :=
  match dst with
  | some d => bif Nat.blt d n then (fun t => bif Nat.beq t d then a else env t) else env
  | none => env
inductive Cls where
  | mv (x : Operand)
  | pu (o : PO) (xs : List Operand)
  | rd (o : RO) (xs : List Operand)
  | al (o : AOp) (xs : List Operand)
  | wr (o : WO) (xs : List Operand)
  | ca (f : Operand) (xs : List Operand)
  | nd (o : NO) (xs : List Operand)
  | bad
def cls (P : Program) (o : Op) : Cls :=
  match clsP P o with
  | some (.mv, [x]) => .mv x
  | some (po, xs) => .pu po xs
  | none => match clsR P o with
    | some (ro, xs) => .rd ro xs
    | none => match clsA P o with
      | some (ao, xs) => .al ao xs
      | none => match clsW P o with
        | some (wo, xs) => .wr wo xs
        | none => match o with
          | .call c => match c.callee with
            | .value f => .ca f c.args.toList
            | _ => .bad
          | _ => match clsN P o with
            | some (no, xs) => .nd no xs
            | none => .bad
def needC : Cls → Bool
  | .al .. => true
  | .wr .. => true
  | .nd .. => true
  | _ => false
def callable (P : Program) (f : FuncId) : Bool :=
  match P.funcs[f]? with
  | some fn => fn.name != "runtime.NumGoroutine" && fn.body.isSome
  | none => false
/-- the words of a walk -/
def Pu (P : Program) (o : PO) (args : List AV) (k : AV → AH → Prop) (H : AH) : Prop := ∃ a, PuR P o args a ∧ k a H
def Rd (P : Program) (V : AH) (o : RO) (args : List AV) (k : AV → AH → Prop) (H : AH) : Prop := ∃ a, RdR P V o args a ∧ k a H
def Al (id : Nat) (o : AOp) (args : List AV) (k : AV → AH → Prop) (H : AH) : Prop := ∃ a o', AlR id o args o' a ∧ k a (H.put id o')
def Wr (P : Program) (id : Nat) (o : WO) (args : List AV) (k : AV → AH → AH → Prop) (H : AH) : Prop := ∃ a H', WrR P id o args H a H' ∧ k a H' H'
/-- whatever comes -/
def Nd (P : Program) (id : Nat) (o : NO) (args : List AV) (k : AV → AH → Prop) (H : AH) : Prop := ∃ Q, NdR P id H o args Q ∧ ∀ a H', Q a H' → k a H'
def Ca (P : Program) (fv : AV) (args : List AV) (k : AV → AH → Prop) (H : AH) : Prop := ∃ f first cap Q, fv = .fn (.func f) first cap ∧ callable P f = true ∧ Tri P f (first ++ args ++ cap) H Q ∧ ∀ r H', SatE P H' → Q r H' → k r H'
/-- the elements of a slice: one that was there when the region began, or one laid in it -/
inductive ElF (V H : AH) (src : Option Nat) (sz : Nat) : AV → List (List AV) → Prop
  | old (x : AV) (ys : List (List AV)) : ElA V sz x ys → ElF V H src sz x ys
  | new (i off n : Nat) (t : TypeId) (es : List (List AV)) : src = some i → H.get i = some (.row t sz es) → off + n ≤ es.length → ElF V H src sz (.osl i sz off n) ((es.drop off).take n)
/-- writes to what was laid in the region -/
inductive WrFR (V : AH) (tgt src : Option Nat) (id : Nat) : WO → List AV → AH → AV → AH → Prop
  | st (n i off : Nat) (t : TypeId) (cs : List AV) (a : AV) (H : AH) : tgt = some i → V.get i = none → H.get i = some (.box t cs) → a.part = true → a.cells.length = n → off + n ≤ cs.length → WrFR V tgt src id (.st n) [.ptr i off, a] H .any (H.put i (.box t (cs.take off ++ a.cells ++ cs.drop (off + n))))
  | app_row (t sz bytes r off n : Nat) (es ys : List (List AV)) (x : AV) (H : AH) : tgt = some r → V.get r = none → H.get r = some (.row t sz es) → off + n ≤ es.length → ElF V H src sz x ys → n + ys.length ≤ maxLen → (n + ys.length) * bytes ≤ 140737488355328 →
      WrFR V tgt src id (.app t sz bytes) [.osl r sz off n, x] H (.osl id sz 0 (n + ys.length)) ((H.kill r).put id (.row t sz ((es.drop off).take n ++ ys)))
  | app_nil (t sz bytes : Nat) (ys : List (List AV)) (x : AV) (H : AH) : tgt = none → ElF V H src sz x ys → ys.length ≤ maxLen → ys.length * bytes ≤ 140737488355328 →
      WrFR V tgt src id (.app t sz bytes) [.p (.slice none 0 0), x] H (.osl id sz 0 ys.length) (H.put id (.row t sz ys))
def WrF (V : AH) (tgt src : Option Nat) (id : Nat) (o : WO) (args : List AV) (k : AV → AH → Prop) (H : AH) : Prop := ∃ a H', WrFR V tgt src id o args H a H' ∧ k a H'
def tgtOf (P : Program) (ops : Array Oper) (d : Tmp) : Bool := ops.toList.any fun y => match cls P y.op with
  | .wr (.app ..) (.tmp t :: _) => Nat.beq t d
  | _ => false
def laysIx (P : Program) (tg : Tmp → Bool) : List Oper → Tmp → Nat → Option Nat
  | [], _, _ => none
  | o :: r, t, i => match o.dst with
    | some d => bif Nat.beq d t then (match cls P o.op with
      | .al .. => some i
      | .wr (.app ..) _ => some i
      | .ca .. => bif tg t then some i else none
      | _ => none) else laysIx P tg r t (i + 1)
    | none => laysIx P tg r t (i + 1)
def defIx (P : Program) (ops : Array Oper) : Operand → Option Nat
  | .tmp t => laysIx P (tgtOf P ops) ops.toList t 0
  | _ => none
def opEq : Operand → Operand → Bool
  | .tmp a, .tmp b => Nat.beq a b
  | .func a, .func b => Nat.beq a b
  | .global a, .global b => Nat.beq a b
  | .const _, .const _ => true
  | _, _ => false
def opsEq : List Operand → List Operand → Bool
  | [], [] => true
  | x :: xs, y :: ys => opEq x y && opsEq xs ys
  | _, _ => false
/-- a call whose row is appended to in the region -/
def rowC (P : Program) (ops : Array Oper) (o : Op) : Bool := match cls P o with
  | .ca f xs => ops.toList.any fun x => match cls P x.op, x.dst with
    | .ca g ys, some d => opEq f g && opsEq xs ys && tgtOf P ops d
    | _, _ => false
  | _ => false
/-- does a function get a pointer or a map -/
def ptrPar (P : Program) (g : FuncId) : Bool := match P.funcs[g]? with
  | some fn => fn.params.toList.any fun t => match P.underlying t with
    | some (.pointer _) => true
    | some (.map ..) => true
    | _ => false
  | none => false
/-- a call that may write to what was there before the region -/
def wrC (P : Program) (ops : Array Oper) (o : Op) : Bool := match cls P o with
  | .ca f xs => (match f with
    | .func g => ptrPar P g
    | _ => false) || ops.toList.any fun x => match cls P x.op, x.dst with
    | .ca g ys, none => opEq f g && opsEq xs ys
    | _, _ => false
  | _ => false
def masksL : List Oper → Array Nat → Array Nat
  | [], acc => acc
  | o :: r, acc => masksL r (acc.push (o.after.toList.foldl (fun s e => bif Region.binds .any e then Nat.lor (Nat.lor s (Nat.shiftLeft 1 e.on)) (acc.getD e.on 0) else s) 0))
def isDyn : Operand → Bool
  | .func _ => false
  | _ => true
/-- where a term is laid in the region, what it is made of being looked through -/
def defC (P : Program) : List Oper → Tmp → Nat → Option (Nat × Cls)
  | [], _, _ => none
  | o :: r, t, i => match o.dst with
    | some d => bif Nat.beq d t then some (i, cls P o.op) else defC P r t (i + 1)
    | none => defC P r t (i + 1)
def srcT (P : Program) (ops : Array Oper) : Nat → List Operand → List Nat
  | 0, _ => []
  | _ + 1, [] => []
  | n + 1, x :: xs => (match x with
    | .tmp t => match defC P ops.toList t 0 with
      | some (i, .al _ ys) => i :: srcT P ops n ys
      | some (i, .wr (.app ..) _) => [i]
      | some (i, .ca ..) => bif tgtOf P ops t then [i] else []
      | some (_, .pu _ ys) => srcT P ops n ys
      | some (_, .mv y) => srcT P ops n [y]
      | _ => []
    | _ => []) ++ srcT P ops n xs
/-- is it marked: one that is told once for each place where it may stand -/
def ownE (y : Oper) (k : Nat) : Bool := y.after.toList.any fun e => Nat.beq e.on k
def isPuC (P : Program) (o : Op) : Bool := match cls P o with
  | .mv _ => true
  | .pu .. => true
  | _ => false
/-- a call that changes places with nothing (but with what looks at no memory) -/
def lastC (P : Program) (ops : Array Oper) (o : Op) : Bool := match cls P o with
  | .ca f xs => (List.range ops.size).any fun k => match ops[k]? with
    | some y => (match cls P y.op with
      | .ca g ys => (y.dst.isNone || (isDyn g || ownE y k)) && opEq f g && opsEq xs ys && (List.range ops.size).all fun j => Nat.beq j k || ((masksL ops.toList #[]).getD k 0).testBit j || ((masksL ops.toList #[]).getD j 0).testBit k || (ownE y k && match ops[j]? with
        | some z => isPuC P z.op
        | none => true)
      | _ => false)
    | none => false
  | _ => false
/-- what reads what was there when the region began, and nothing else -/
def quietR (P : Program) (ops : Array Oper) (o : Op) : Bool := match cls P o with
  | .rd _ xs => (srcT P ops 8 xs).isEmpty
  | .ca f xs => !rowC P ops o && !wrC P ops o && !lastC P ops o && (srcT P ops 8 (f :: xs)).isEmpty
  | _ => false
/-- a marked call that changes places with what looks at no memory, and with what reads alone (if that stands ahead) -/
def keepC (P : Program) (ops : Array Oper) (o : Op) : Bool := match cls P o with
  | .ca f xs => (List.range ops.size).any fun k => match ops[k]? with
    | some y => (match cls P y.op with
      | .ca g ys => ownE y k && opEq f g && opsEq xs ys && (List.range ops.size).all fun j => Nat.beq j k || ((masksL ops.toList #[]).getD k 0).testBit j || ((masksL ops.toList #[]).getD j 0).testBit k || match ops[j]? with
        | some z => isPuC P z.op || (!ownE z j && quietR P ops z.op)
        | none => true
      | _ => false)
    | none => false
  | _ => false
def needV (P : Program) (ops : Array Oper) (o : Op) : Bool := needC (cls P o) || (rowC P ops o || wrC P ops o || lastC P ops o || keepC P ops o)
/-- does it write to what was laid in the region -/
def freshW (P : Program) (ops : Array Oper) (o : Op) : Option (Option Nat × Option Nat) :=
  match cls P o with
  | .wr (.st _) (x :: _) => match defIx P ops x with
    | some j => some (some j, none)
    | none => none
  | .wr (.app ..) [s, x] => match s with
    | .const (.slice none 0 0) => some (none, defIx P ops x)
    | s => match defIx P ops s with
      | some j => some (some j, defIx P ops x)
      | none => none
  | .ca .. => bif rowC P ops o then some (none, none) else bif lastC P ops o then some (some 0, some 0) else bif keepC P ops o then some (some 1, some 1) else bif wrC P ops o then some (some 0, none) else none
  | _ => none
/-- may something that counts change places with it -/
def unmasked (P : Program) (ops : Array Oper) (M : Array Nat) (k : Nat) : Bool := (List.range ops.size).any fun j => !(Nat.beq j k) && !((M.getD k 0).testBit j) && !((M.getD j 0).testBit k) && match ops[j]? with
  | some y => (match cls P y.op with
    | .mv _ => false
    | .pu .. => false
    | _ => true)
  | none => false
/-- a write to what was there before, that need not wait -/
def oldW (P : Program) (ops : Array Oper) (o : Op) : Bool := match cls P o with
  | .wr (.st _) (x :: xs) => (defIx P ops x).isNone && (List.range ops.size).any fun k => match ops[k]? with
    | some y => (match cls P y.op with
      | .wr (.st _) ys => opsEq (x :: xs) ys && unmasked P ops (masksL ops.toList #[]) k
      | _ => false)
    | none => false
  | .wr (.app ..) (x :: xs) => (freshW P ops o).isNone && (List.range ops.size).any fun k => match ops[k]? with
    | some y => (match cls P y.op with
      | .wr (.app ..) ys => opsEq (x :: xs) ys && unmasked P ops (masksL ops.toList #[]) k
      | _ => false)
    | none => false
  | _ => false
def keptC (P : Program) (ops : Array Oper) (o : Op) : Bool := match cls P o, freshW P ops o with
  | .ca .., some (some (_ + 1), some _) => true
  | _, _ => false
def hasOld (P : Program) (ops : Array Oper) : Bool := ops.toList.any fun o => oldW P ops o.op || keptC P ops o.op
/-- what of the region's own things an operation reads -/
def srcsOf (P : Program) (ops : Array Oper) (o : Op) : List Nat :=
  match cls P o with
  | .wr wo xs => bif oldW P ops o then 0 :: (match wo, xs with
    | .app .., [_, x] => (defIx P ops x).toList
    | _, _ => []) else []
  | .rd _ xs => srcT P ops 8 xs
  | .ca f xs => srcT P ops 8 (f :: xs)
  | _ => []
def mixO : Option AO → Nat → AH → AH
  | some o, i, W => W.put i o
  | none, _, W => W
/-- what was there when the region began, and some of what it has laid -/
def mixV (V H : AH) : List Nat → AH
  | [] => V
  | i :: r => mixO (H.get i) i (mixV V H r)
def RdN (P : Program) (V : AH) (sl : List Nat) (o : RO) (args : List AV) (k : AV → AH → Prop) (H : AH) : Prop := ∃ a, RdR P (mixV V H sl) o args a ∧ k a H
def RdS (P : Program) (o : RO) (args : List AV) (k : AV → AH → Prop) (H : AH) : Prop := Rd P H o args k H
def WrS (P : Program) (id : Nat) (o : WO) (args : List AV) (k : AV → AH → Prop) (H : AH) : Prop := Wr P id o args (fun a _ => k a) H
def CaV (P : Program) (V : AH) (fv : AV) (args : List AV) (k : AV → AH → Prop) (H : AH) : Prop :=
  ∃ f first cap a, fv = .fn (.func f) first cap ∧ callable P f = true ∧ (∀ H2, V.le H2 → Tri P f (first ++ args ++ cap) H2 (fun r H' => H' = H2 ∧ r = a)) ∧ k a H
/-- what a guard tells: a truth, or that it was itself left out -/
def gb : Option Bool → AV
  | some b => .p (.bool b)
  | none => .tup []
/-- changes to some things -/
def apE : List (Nat × AO) → AH → AH
  | [], H => H
  | (i, o) :: r, H => apE r (H.put i o)
def frzO : Nat → Option AO → List (Nat × AO)
  | i, some (.row _ sz es) => [(i, .frz sz es)]
  | _, _ => []
def frzE (H : AH) : List Nat → List (Nat × AO)
  | [] => []
  | i :: r => frzO i (H.get i) ++ frzE H r
/-- rows of the region's own that are frozen -/
def frzL (H : AH) (fz : List Nat) : AH := apE (frzE H fz) H
def DtO : Option AO → Prop
  | some (.row _ _ es) => DtR es
  | _ => True
def CaN (P : Program) (V : AH) (sl : List Nat) (fv : AV) (args : List AV) (k : AV → AH → Prop) (H : AH) : Prop :=
  ∃ f first cap a fz, fv = .fn (.func f) first cap ∧ callable P f = true ∧ (∀ i ∈ fz, i ∈ sl ∧ V.get i = none ∧ DtO (H.get i)) ∧ (∀ H2, (mixV V (frzL H fz) sl).le H2 → Tri P f (first ++ args ++ cap) H2 (fun r H' => H' = H2 ∧ r = a)) ∧ k a (frzL H fz)
def CaR (P : Program) (V : AH) (id : Nat) (sl : List Nat) (fv : AV) (args : List AV) (k : AV → AH → Prop) (H : AH) : Prop :=
  ∃ f first cap t sz es, fv = .fn (.func f) first cap ∧ callable P f = true ∧ (∀ e ∈ es, e.length = sz) ∧ (∀ H2, (mixV V H sl).le H2 → Tri P f (first ++ args ++ cap) H2 (fun r H' => RowR t sz H2 H' r es ∧ H2.le H')) ∧ k (.osl id sz 0 es.length) (H.put id (.row t sz es))
/-- a call that writes to what was there before the region: what it changes is told one by one -/
def CaP (P : Program) (V : AH) (b : Nat) (sl : List Nat) (fv : AV) (args : List AV) (k : AV → AH → AH → Prop) (H : AH) : Prop :=
  ∃ f first cap a fz e0, fv = .fn (.func f) first cap ∧ callable P f = true ∧ (∀ i ∈ fz, i ∈ sl ∧ V.get i = none ∧ DtO (H.get i)) ∧ (∀ p ∈ e0, p.1 < b) ∧
    (∀ H2, (∀ id, id < b ∨ id ∈ sl → H2.get id = (frzL H fz).get id) → Tri P f (first ++ args ++ cap) H2 (fun r H' => H' = apE e0 H2 ∧ r = a)) ∧ k a (apE e0 V) (apE e0 (frzL H fz))
/-- a call of any kind that leaves as it was what is read in the region -/
def CaK (P : Program) (V : AH) (fv : AV) (args : List AV) (k : AV → AH → Prop) (H : AH) : Prop :=
  ∃ f first cap Q, fv = .fn (.func f) first cap ∧ callable P f = true ∧ Tri P f (first ++ args ++ cap) H Q ∧ ∀ r H', SatE P H' → Q r H' → V.le H' ∧ k r H'
structure Gd (c : AV) (want : Bool) (F : (AV → AH → Prop) → AH → Prop) (k : AV → AH → Prop) (H : AH) : Prop where
  out : ∃ b, c = gb b ∧ (b = some want → F k H) ∧ (b ≠ some want → k (.tup []) H)
structure GdV (c : AV) (want : Bool) (F : (AV → AH → AH → Prop) → AH → Prop) (V : AH) (k : AV → AH → AH → Prop) (H : AH) : Prop where
  out : ∃ b, c = gb b ∧ (b = some want → F k H) ∧ (b ≠ some want → k (.tup []) V H)
def Rg (m : Nat) (F : Nat → AH → Prop) (H : AH) : Prop := F H.nx (H.up m)
def Vw (F : AH → AH → Prop) (H : AH) : Prop := F H H
def delL (H : AH) : List Nat → AH
  | [] => H
  | i :: r => (delL H r).del i
/-- some things are left out: what is read does not hang on them -/
def VwD (F : AH → AH → Prop) (H : AH) : Prop := ∃ ds : List Nat, F (delL H ds) H
inductive WrOR (V : AH) (b : Nat) (src : Option Nat) (id : Nat) : WO → List AV → AH → AV → AH → Prop
  | st (n i off : Nat) (t : TypeId) (cs : List AV) (a : AV) (H : AH) : i < b → V.get i = none → H.get i = some (.box t cs) → a.part = true → a.cells.length = n → off + n ≤ cs.length → WrOR V b src id (.st n) [.ptr i off, a] H .any (H.put i (.box t (cs.take off ++ a.cells ++ cs.drop (off + n))))
  | app_nil (t sz bytes : Nat) (ys : List (List AV)) (x : AV) (H : AH) : ElF V H src sz x ys → ys.length ≤ maxLen → ys.length * bytes ≤ 140737488355328 →
      WrOR V b src id (.app t sz bytes) [.p (.slice none 0 0), x] H (.osl id sz 0 ys.length) (H.put id (.row t sz ys))
  | app_in (t sz bytes r n c : Nat) (es ys : List (List AV)) (x : AV) (H : AH) : r < b → V.get r = none → H.get r = some (.crow t sz c es) → n = es.length → ElF V H src sz x ys → n + ys.length ≤ c →
      WrOR V b src id (.app t sz bytes) [.osl r sz 0 n, x] H (.osl r sz 0 (n + ys.length)) (H.put r (.crow t sz c (es ++ ys)))
  | app_out (t sz bytes r n c : Nat) (es ys : List (List AV)) (x : AV) (H : AH) : r < b → H.get r = some (.crow t sz c es) → n = es.length → ElF V H src sz x ys → c < n + ys.length → n + ys.length ≤ maxLen → (n + ys.length) * bytes ≤ 140737488355328 →
      WrOR V b src id (.app t sz bytes) [.osl r sz 0 n, x] H (.osl id sz 0 (n + ys.length)) (H.put id (.row t sz (es ++ ys)))
  | app_own (t sz bytes r n : Nat) (es ys : List (List AV)) (x : AV) (H : AH) : r < b → V.get r = none → H.get r = some (.row t sz es) → n ≤ es.length → ElF V H src sz x ys → n + ys.length ≤ maxLen → (n + ys.length) * bytes ≤ 140737488355328 →
      WrOR V b src id (.app t sz bytes) [.osl r sz 0 n, x] H (.osl id sz 0 (n + ys.length)) ((H.kill r).put id (.row t sz ((es.drop 0).take n ++ ys)))
def WrO (V : AH) (b : Nat) (src : Option Nat) (id : Nat) (o : WO) (args : List AV) (k : AV → AH → Prop) (H : AH) : Prop := ∃ a H', WrOR V b src id o args H a H' ∧ k a H'
/-- what is laid; a row without elements is not nil -/
def alS (P : Program) (id : Nat) (ao : AOp) (xs : List Operand) (env : Env) (k : AV → AH → Prop) (H : AH) : Prop := match bs0T ao xs with
  | some e => Nd P id (.bs0 e) [] k H
  | none => Al id ao (xs.map (ev0 env)) k H
def coreS (P : Program) (id : Nat) (o : Op) (env : Env) (k : AV → AH → Prop) (H : AH) : Prop :=
  match cls P o with
  | .mv x => k (ev0 env x) H
  | .pu po xs => Pu P po (xs.map (ev0 env)) k H
  | .rd ro xs => RdS P ro (xs.map (ev0 env)) k H
  | .al ao xs => alS P id ao xs env k H
  | .wr wo xs => WrS P id wo (xs.map (ev0 env)) k H
  | .ca f xs => Ca P (ev0 env f) (xs.map (ev0 env)) k H
  | .nd no xs => Nd P id no (xs.map (ev0 env)) k H
  | .bad => False
def plusB (b : Nat) : Option Nat → Option Nat
  | some j => some (b + j)
  | none => none
def coreV (P : Program) (b : Nat) (fw : Option (Option Nat × Option Nat) × List Nat) (V : AH) (id : Nat) (o : Op) (env : Env) (k : AV → AH → AH → Prop) (H : AH) : Prop :=
  match cls P o with
  | .mv x => k (ev0 env x) V H
  | .pu po xs => Pu P po (xs.map (ev0 env)) (fun a => k a V) H
  | .rd ro xs => match fw.2 with
    | [] => Rd P V ro (xs.map (ev0 env)) (fun a => k a V) H
    | j :: r => RdN P V ((b + j) :: r.map (b + ·)) ro (xs.map (ev0 env)) (fun a => k a V) H
  | .al ao xs => Al id ao (xs.map (ev0 env)) (fun a => k a V) H
  | .wr wo xs => match fw.1 with
    | some (tg, sr) => WrF V (plusB b tg) (plusB b sr) id wo (xs.map (ev0 env)) (fun a => k a V) H
    | none => match fw.2 with
      | [] => Wr P id wo (xs.map (ev0 env)) k H
      | _ :: r => WrO V b (r.head?.map (b + ·)) id wo (xs.map (ev0 env)) (fun a => k a V) H
  | .ca f xs => match fw.1 with
   | some (some _, none) => CaP P V b (fw.2.map (b + ·)) (ev0 env f) (xs.map (ev0 env)) k H
   | some (some 0, some _) => Ca P (ev0 env f) (xs.map (ev0 env)) (fun a => Vw (k a)) H
   | some (some (_ + 1), some _) => CaK P V (ev0 env f) (xs.map (ev0 env)) (fun a => k a V) H
   | some (none, _) => CaR P V id (fw.2.map (b + ·)) (ev0 env f) (xs.map (ev0 env)) (fun a => k a V) H
   | none => match fw.2 with
    | [] => CaV P V (ev0 env f) (xs.map (ev0 env)) (fun a => k a V) H
    | j :: r => CaN P V ((b + j) :: r.map (b + ·)) (ev0 env f) (xs.map (ev0 env)) (fun a => k a V) H
  | .nd .. => False
  | .bad => False
def gv (n : Nat) (ops : Array Oper) (env : Env) (j : Nat) : AV :=
  match (ops[j]?).bind (·.dst) with
  | some d => bif Nat.blt d n then env d else .any
  | none => .any
def seqA (P : Program) (n b : Nat) (ops : Array Oper) : List Oper → Nat → Env → (Env → AH → Prop) → AH → Prop
  | [], _, env, k => k env
  | o :: rest, i, env, k => match o.guard with
    | none => coreS P (b + i) o.op env (fun a => seqA P n b ops rest (i + 1) (setE n env o.dst a) k)
    | some (j, want) => Gd (gv n ops env j) want (coreS P (b + i) o.op env) (fun a => seqA P n b ops rest (i + 1) (setE n env o.dst a) k)
def stepV (P : Program) (n b : Nat) (ops : Array Oper) (o : Oper) (i : Nat) (env : Env) (V : AH) (k : Env → AH → AH → Prop) (H : AH) : Prop :=
  match o.guard with
  | none => coreV P b (freshW P ops o.op, srcsOf P ops o.op) V (b + i) o.op env (fun a => k (setE n env o.dst a)) H
  | some (j, want) => GdV (gv n ops env j) want (coreV P b (freshW P ops o.op, srcsOf P ops o.op) V (b + i) o.op env) V (fun a => k (setE n env o.dst a)) H
def seqV (P : Program) (n b : Nat) (ops : Array Oper) : List Oper → Nat → Env → (Env → AH → Prop) → AH → AH → Prop
  | [], _, env, k, _, H => k env H
  | o :: rest, i, env, k, V, H => stepV P n b ops o i env V (fun env' => seqV P n b ops rest (i + 1) env' k) H

section
variable {P : Program} {w : World} {S : Nat → Prop} {σ : Nat → Option Value} {H : AH} {n b : Nat} {ops : Array Oper}
/-- the frame stands for what is told of it -/
structure RepE (n : Nat) (a : Act) (w : World) (S : Nat → Prop) (σ : Nat → Option Value) (env : Env) : Prop where
  size : a.tmps.size = n
  defers : a.defers = []
  at_ : ∀ t, Rp w S σ (env t) (a.tmps.getD t undef)
theorem RepE.ev {a : Act} {env : Env} (h : RepE n a w S σ env) (x : Operand) : Rp w S σ (ev0 env x) (a.eval x) := by
  cases x with
  | tmp t => exact h.at_ t
  | const v => exact avOfV_rp v
  | global g => exact .data _ _ (.p _ rfl)
  | func f => exact .fn _ _ _ _ _ rfl rfl (by simp) (by simp)
theorem RepE.evs {a : Act} {env : Env} (h : RepE n a w S σ env) (xs : List Operand) : Rps w S σ (xs.map (ev0 env)) (xs.map a.eval) := by
  induction xs with
  | nil => exact .nil
  | cons x xs ih => exact .cons (h.ev x) ih
theorem RepE.put {a : Act} {env : Env} (h : RepE n a w S σ env) (dst : Option Tmp) {x : AV} {v : Value} (hx : Rp w S σ x v) : RepE n (a.put dst v) w S σ (setE n env dst x) := by
  cases dst with
  | none => exact h
  | some d =>
    refine ⟨by simp [Act.put, h.size], h.defers, fun t => ?_⟩
    simp only [setE, Act.put]
    by_cases hd : d < n
    · rw [show Nat.blt d n = true from by simp [Nat.blt_eq, hd]]
      simp only [cond_true]
      by_cases ht : t = d
      · subst ht
        rw [show Nat.beq t t = true from Nat.beq_refl t]
        simp only [cond_true, Array.getD_eq_getD_getElem?]
        rw [Array.getElem?_setIfInBounds_self_of_lt (by rw [h.size]; exact hd)]
        exact hx
      · rw [show Nat.beq t d = false from by rw [Bool.eq_false_iff]; exact fun e => ht (Nat.eq_of_beq_eq_true e)]
        simp only [cond_false, Array.getD_eq_getD_getElem?]
        rw [Array.getElem?_setIfInBounds_ne (fun e => ht e.symm), ← Array.getD_eq_getD_getElem?]
        exact h.at_ t
    · rw [show Nat.blt d n = false from by rw [Bool.eq_false_iff]; simp [Nat.blt_eq, hd]]
      simp only [cond_false, Array.getD_eq_getD_getElem?]
      rw [show a.tmps.setIfInBounds d v = a.tmps from Array.setIfInBounds_eq_of_size_le (by rw [h.size]; exact Nat.le_of_not_lt hd), ← Array.getD_eq_getD_getElem?]
      exact h.at_ t
theorem RepE.ext {w' : World} {S' : Nat → Prop} {σ' : Nat → Option Value} {H' : AH} {a : Act} {env : Env} (h : RepE n a w S σ env) (hs : Sat P w S σ H) (e : Ext w S σ H w' S' σ' H') : RepE n a w' S' σ' env :=
  ⟨h.size, h.defers, fun t => e.rp hs (h.at_ t)⟩
theorem cls_pu {o : Op} {po : PO} {xs : List Operand} (h : cls P o = .pu po xs) : clsP P o = some (po, xs) := by
  unfold cls at h
  split at h <;> try (cases h; done)
  · rename_i hc; injection h with h1 h2; subst h1; subst h2; exact hc
  · split at h <;> try (cases h; done)
    split at h <;> try (cases h; done)
    split at h <;> try (cases h; done)
    split at h <;> try (cases h; done)
    all_goals (split at h <;> cases h)
theorem cls_mv {o : Op} {x : Operand} (h : cls P o = .mv x) : clsP P o = some (.mv, [x]) := by
  unfold cls at h
  split at h <;> try (cases h; done)
  · rename_i hc; injection h with h1; subst h1; exact hc
  · split at h <;> try (cases h; done)
    split at h <;> try (cases h; done)
    split at h <;> try (cases h; done)
    split at h <;> try (cases h; done)
    all_goals (split at h <;> cases h)
theorem cls_rd {o : Op} {ro : RO} {xs : List Operand} (h : cls P o = .rd ro xs) : clsR P o = some (ro, xs) := by
  unfold cls at h
  split at h <;> try (cases h; done)
  · split at h <;> try (cases h; done)
    · rename_i hc; injection h with h1 h2; subst h1; subst h2; exact hc
    · split at h <;> try (cases h; done)
      split at h <;> try (cases h; done)
      split at h <;> try (cases h; done)
      all_goals (split at h <;> cases h)
theorem cls_al {o : Op} {ao : AOp} {xs : List Operand} (h : cls P o = .al ao xs) : clsA P o = some (ao, xs) := by
  unfold cls at h
  split at h <;> try (cases h; done)
  · split at h <;> try (cases h; done)
    split at h <;> try (cases h; done)
    · rename_i hc; injection h with h1 h2; subst h1; subst h2; exact hc
    · split at h <;> try (cases h; done)
      split at h <;> try (cases h; done)
      all_goals (split at h <;> cases h)
theorem cls_wr {o : Op} {wo : WO} {xs : List Operand} (h : cls P o = .wr wo xs) : clsW P o = some (wo, xs) := by
  unfold cls at h
  split at h <;> try (cases h; done)
  · split at h <;> try (cases h; done)
    split at h <;> try (cases h; done)
    split at h <;> try (cases h; done)
    · rename_i hc; injection h with h1 h2; subst h1; subst h2; exact hc
    · split at h <;> try (cases h; done)
      all_goals (split at h <;> cases h)
theorem cls_ca {o : Op} {f : Operand} {xs : List Operand} (h : cls P o = .ca f xs) : ∃ c, o = .call c ∧ c.callee = .value f ∧ c.args.toList = xs := by
  unfold cls at h
  split at h <;> try (cases h; done)
  · split at h <;> try (cases h; done)
    split at h <;> try (cases h; done)
    split at h <;> try (cases h; done)
    split at h
    · split at h <;> try (cases h; done)
      rename_i c _ _ hc
      injection h with h1 h2
      subst h1; subst h2
      exact ⟨_, rfl, hc, rfl⟩
    · split at h <;> cases h
theorem cls_nd {o : Op} {no : NO} {xs : List Operand} (h : cls P o = .nd no xs) : clsN P o = some (no, xs) := by
  unfold cls at h
  split at h <;> try (cases h; done)
  · split at h <;> try (cases h; done)
    split at h <;> try (cases h; done)
    split at h <;> try (cases h; done)
    split at h
    · split at h <;> cases h
    · split at h <;> try (cases h; done)
      rename_i hc
      injection h with h1 h2
      subst h1; subst h2
      exact hc
/-- a call that is made -/
theorem call_run {o : Oper} {c : Call} {fo : Operand} {ev : Operand → Value} {f : FuncId} {first cap : List AV} {args : List AV} (ho : o.op = .call c) (hc : c.callee = .value fo) (hf : Rp w S σ (.fn (.func f) first cap) (ev fo)) (hcal : callable P f = true) (hr : Rps w S σ args (c.args.toList.map ev)) :
    ∃ us : List Value, (execOp ev o).run P w = .ok (.enter f us.toArray) w ∧ Rps w S σ (first ++ args ++ cap) us := by
  obtain ⟨fs, cs, hfe, h1, h2⟩ := hf.fn_inv
  refine ⟨fs.toList ++ c.args.toList.map ev ++ cs.toList, ?_, (h1.append hr).append h2⟩
  unfold callable at hcal
  cases hfn : P.funcs[f]? with
  | none => rw [hfn] at hcal; cases hcal
  | some fn =>
    rw [hfn] at hcal
    simp only [Bool.and_eq_true, bne_iff_ne, ne_eq] at hcal
    obtain ⟨n1, n2⟩ := hcal
    have n3 : ¬ fn.body = none := by intro e; rw [e] at n2; cases n2
    have he : (fs ++ c.args.map ev) ++ cs = (fs.toList ++ c.args.toList.map ev ++ cs.toList).toArray := by
      apply Array.ext'; simp
    rw [← he]
    simp [execOp, ho, resolve, hc, hfe, Deferred.ofValue, invoke, callFunc, hfn, n1, n3]
end
end Go.Proofs.Ytgkkilbeingleaa
