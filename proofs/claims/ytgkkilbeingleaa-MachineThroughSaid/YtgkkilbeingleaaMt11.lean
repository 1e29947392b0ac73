/- Texts that the proof rests on, part 11: what each holds stands at its head. -/
import Derived.Test.YtgkkilbeingleaaMt10

/- Ghost steps and contracts of abstract walks: what is let go, what is frozen, what is handed on. Nothing of the program is named here. -/
namespace Go.Proofs.Ytgkkilbeingleaa
open Go.RowKit Go.Maps

section
variable {P : Program} {w : World} {S : Nat → Prop} {σ : Nat → Option Value} {H H0 H1 H2 V : AH} {B : Nat}
/-- what was laid since is let go: the memory is as it was -/
theorem GW.back {vs : List AV} (hw : WF H0) (hg : H0.le H1) (hc : Clo H0.nx vs) : GW P H0.nx vs H1 vs H0 := by
  intro w S σ us hs hr
  have hcut : ∀ id u, cutS H0.nx σ id = some u → σ id = some u := fun id u h => (cutS_some h).2
  have hbl : ∀ {id b}, (cutS H0.nx σ id).bind blkOf = some b → (σ id).bind blkOf = some b := fun {id b} h => by
    cases hx : cutS H0.nx σ id with
    | none => rw [hx] at h; cases h
    | some u => rw [hx] at h; rw [hcut _ _ hx]; exact h
  refine ⟨S, cutS H0.nx σ, ⟨hs.sb, fun id u h => (cutS_some h).1, fun id o ho => (hs.obj id o (hg _ _ ho)).cut (hw id o ho).1 (hw id o ho).2, fun i j o o' b h1 h2 k1 k2 b1 b2 => hs.dj i j o o' b (hg _ _ h1) (hg _ _ h2) k1 k2 (hbl b1) (hbl b2), fun i o b h1 k1 b1 => hs.sep i o b (hg _ _ h1) k1 (hbl b1), fun i A n c h => hs.sl i A n c (hcut _ _ h)⟩, hc.rps hr, fun _ h => h, fun _ h => .inl h, ?_, fun id h => cutS_lt h, Nat.le_refl _⟩
  rintro b ⟨i, o, h1, h2, h3⟩
  exact ⟨i, o, hg _ _ h1, h2, hbl h3⟩
theorem GW.refl {vs : List AV} (h : B ≤ H.nx) : GW P B vs H vs H := fun w S σ us hs hr => ⟨S, σ, hs, hr, fun _ h => h, fun _ h => .inl h, fun _ h => h, fun _ _ => rfl, h⟩
theorem GW.trans {a b c : List AV} (h : GW P B a H0 b H1) (k : GW P B b H1 c H2) : GW P B a H0 c H2 := fun w S σ us hs hr => by
  obtain ⟨S', σ', h1, h2, h3, h4, h5, h6, h7⟩ := h w S σ us hs hr
  obtain ⟨S2, σ2, k1, k2, k3, k4, k5, k6, k7⟩ := k w S' σ' us h1 h2
  exact ⟨S2, σ2, k1, k2, fun b hb => k3 b (h3 b hb), fun b hb => (k4 b hb).elim (fun h => h4 b h) (fun h => .inr (h5 b h)), fun b hb => h5 b (k5 b hb), fun id hi => (k6 id hi).trans (h6 id hi), k7⟩
theorem GW.st {vs : List AV} (h : Gst P H H2) (hb : B ≤ H.nx) : GW P B vs H vs H2 := fun w S σ us hs hr => by
  obtain ⟨S', h1, h2, h3, h4⟩ := h.2 w S σ hs
  exact ⟨S', σ, h1, hr.mono h2 (fun _ _ => rfl) (fun _ _ h => h), h2, h3, h4, fun _ _ => rfl, Nat.le_trans hb h.1⟩
theorem Gh.refl {vs : List AV} {J : List AV → AH → Prop} (h : J vs H) (hb : B ≤ H.nx) : Gh P B vs H J := ⟨vs, H, .refl hb, h⟩
theorem Gh.back {vs : List AV} {J : List AV → AH → Prop} (hw : WF H0) (hg : H0.le H1) (hc : Clo H0.nx vs) (h : J vs H0) : Gh P H0.nx vs H1 J := ⟨vs, H0, .back hw hg hc, h⟩
theorem Gh.step {vs vs' : List AV} {J : List AV → AH → Prop} (h : GW P B vs H vs' H2) (k : Gh P B vs' H2 J) : Gh P B vs H J := by
  obtain ⟨v, h3, k1, k2⟩ := k; exact ⟨v, h3, h.trans k1, k2⟩
/-- one telling stands for another one -/
def Sub (P : Program) (H : AH) (a a' : AV) : Prop := ∀ w S σ u, Sat P w S σ H → Rp w S σ a u → Rp w S σ a' u
def Subs (P : Program) (H : AH) (ps qs : List AV) : Prop := ps.length = qs.length ∧ ∀ (i : Nat) (a b : AV), ps[i]? = some a → qs[i]? = some b → Sub P H a b
theorem Subs.rps {ps qs : List AV} (h : Subs P H ps qs) (hs : Sat P w S σ H) {us : List Value} (hr : Rps w S σ ps us) : Rps w S σ qs us := by
  refine ⟨h.1.symm.trans hr.1, fun i b u hb hu => ?_⟩
  have hi := (List.getElem?_eq_some_iff.1 hb).1
  have ha := List.getElem?_eq_getElem (l := ps) (i := i) (by rw [h.1]; exact hi)
  exact h.2 i _ b ha hb w S σ u hs (hr.2 i _ u ha hu)
theorem Sub.refl (a : AV) : Sub P H a a := fun _ _ _ _ _ h => h
theorem Sub.any (a : AV) : Sub P H a .any := fun _ _ _ _ _ _ => .any _
theorem Subs.nil : Subs P H [] [] := ⟨rfl, fun i a b h => by simp at h⟩
theorem Subs.cons {a b : AV} {ps qs : List AV} (h : Sub P H a b) (k : Subs P H ps qs) : Subs P H (a :: ps) (b :: qs) := by
  refine ⟨by simp [k.1], fun i x y hx hy => ?_⟩
  cases i with
  | zero => simp at hx hy; subst hx; subst hy; exact h
  | succ i => exact k.2 i x y (by simpa using hx) (by simpa using hy)
theorem Subs.refl : ∀ (ps : List AV), Subs P H ps ps
  | [] => .nil
  | a :: r => .cons (.refl a) (.refl r)
theorem Sub.tup {ps qs : List AV} (h : Subs P H ps qs) : Sub P H (.tup ps) (.tup qs) := fun w S σ u hs hr => by
  obtain ⟨vs, rfl, hv⟩ := hr.tup_inv
  exact Rps.tup (h.rps hs hv)
theorem Sub.agg {ps qs : List AV} (h : Subs P H ps qs) : Sub P H (.agg ps) (.agg qs) := fun w S σ u hs hr => by
  obtain ⟨vs, rfl, hv, h1⟩ := hr.agg_inv
  have := h.rps hs hv
  exact .agg _ _ (by simpa using this.1) (fun i a v ha hv => this.2 i a v ha (by simpa using hv)) h1
theorem Sub.nil (sz c : Nat) (hc : c ≤ maxLen) : Sub P H (.p (.slice none 0 c)) (.dsl sz []) := fun w S σ u _ hr => by
  obtain ⟨rfl, _⟩ := hr.p_inv
  exact .data _ _ (.dsl _ _ _ c (fun _ _ => .bool false) (Nat.zero_le _) hc (by simp) (by simp) (by simp) (fun _ _ => rfl))
theorem Gst.freeze {r : Nat} {t : TypeId} {sz : Nat} {es : List (List AV)} (hg : H.get r = some (.row t sz es)) (hd : DtR es) : Gst P H (H.put r (.frz sz es)) :=
  ⟨Nat.le_refl _, fun _ _ _ hs => hs.freeze hg hd⟩
theorem Sub.frz {r sz off n : Nat} {es : List (List AV)} (hg : H.get r = some (.frz sz es)) (hn : off + n ≤ es.length) : Sub P H (.osl r sz off n) (.dsl sz ((es.drop off).take n)) := fun w S σ u hs hr => by
  obtain ⟨A, Bx, N, c, cc, rfl, hσ, h1, h2, h3⟩ := hr.osl_inv
  obtain ⟨A', c', k1, k2⟩ := hs.obj r _ hg
  rw [hσ] at k1
  simp only [Option.some.injEq, Value.slice.injEq] at k1
  obtain ⟨rfl, rfl, rfl⟩ := k1
  obtain ⟨A2, c2, z, e1, r1, r2, r3, r4, r5, r6⟩ := k2.dsl_inv
  simp only [Value.slice.injEq] at e1
  obtain ⟨rfl, _, rfl⟩ := e1
  have hl : ((es.drop off).take n).length = n := by rw [List.length_take, List.length_drop]; omega
  have hget : ∀ i e, ((es.drop off).take n)[i]? = some e → i < n ∧ es[off + i]? = some e := by
    intro i e he
    rw [List.getElem?_take] at he
    split at he
    · rw [List.getElem?_drop] at he; exact ⟨by assumption, he⟩
    · cases he
  have := RpD.dsl (w := w) (S := S) sz ((es.drop off).take n) Bx cc (fun i j => z (off + i) j) (by omega) (by omega) (fun e he => r3 e (List.mem_of_mem_drop (List.mem_of_mem_take he))) (fun i e j a he ha => by
      obtain ⟨hi, he⟩ := hget i e he
      obtain ⟨g, o, rfl, hSg, hc⟩ := r4 _ e j a he ha
      refine ⟨g, o + off * sz, ?_, hSg, ?_⟩
      · rw [h3 (by omega)]; simp [Addr.add]
      · rw [show o + off * sz + i * sz + j = o + (off + i) * sz + j by rw [Nat.add_mul]; omega]; exact hc) (fun i e j a he ha => r5 _ e j a (hget i e he).2 ha) (fun i j => r6 _ _)
  rw [hl] at this
  exact .data _ _ this
/-- a slice that is held is handed over as data -/
theorem GW.freeze {r : Nat} {t : TypeId} {sz : Nat} {es : List (List AV)} {vs vs' : List AV} (hg : H.get r = some (.row t sz es)) (hd : DtR es) (hs : Subs P (H.put r (.frz sz es)) vs vs') (hb : B ≤ H.nx) : GW P B vs H vs' (H.put r (.frz sz es)) :=
  (GW.st (.freeze hg hd) hb).trans fun w S σ us h hr => ⟨S, σ, h, hs.rps h hr, fun _ h => h, fun _ h => .inl h, fun _ h => h, fun _ _ => rfl, hb⟩
theorem GW.sub {vs vs' : List AV} (hs : Subs P H vs vs') (hb : B ≤ H.nx) : GW P B vs H vs' H := fun w S σ us h hr => ⟨S, σ, h, hs.rps h hr, fun _ h => h, fun _ h => .inl h, fun _ h => h, fun _ _ => rfl, hb⟩
theorem rt_tup {vs : List AV} {Q : AV → AH → Prop} (hw : WF H0) (hg : H0.le H1) (hc : Clo H0.nx vs) (h : Q (.tup vs) H0) : Rt P H0.nx (.tup vs) Q H1 := Gh.back hw hg (.one (.tup hc)) ⟨_, rfl, h⟩
theorem rt_one {v : AV} {Q : AV → AH → Prop} (hw : WF H0) (hg : H0.le H1) (hc : Cl H0.nx v) (h : Q v H0) : Rt P H0.nx v Q H1 := Gh.back hw hg (.one hc) ⟨_, rfl, h⟩
theorem rt_refl {v : AV} {Q : AV → AH → Prop} (h : Q v H) (hb : B ≤ H.nx) : Rt P B v Q H := Gh.refl ⟨_, rfl, h⟩ hb
/-- a slice of one's own is given back as data, and all else is as it was -/
theorem rt_row {r : Nat} {t : TypeId} {sz n : Nat} {es : List (List AV)} {v v' : AV} {Q : AV → AH → Prop} (hw : WF H0) (hle : H0.nx ≤ H1.nx) (hr : H0.nx ≤ r) (hg : H0.le H1) (hrow : H1.get r = some (.row t sz es)) (hd : DtR es)
    (hs : Sub P (H1.put r (.frz sz es)) v v') (hc : Cl H0.nx v') (h : Q v' H0) : Rt P H0.nx v Q H1 :=
  Gh.step (.freeze hrow hd (.cons hs .nil) hle) (Gh.back hw (fun id o ho => by rw [AH.get_put_ne (by have := (hw id o ho).1; omega)]; exact hg id o ho) (.one hc) ⟨_, rfl, h⟩)
theorem tri_wf {f : FuncId} {ps : List AV} {Q : AV → AH → Prop} (h : WF H → Tri P f ps H Q) : Tri P f ps H Q := fun w S σ us hs hr => h hs.wf w S σ us hs hr
theorem Tri.args {f : FuncId} {ps qs : List AV} {Q : AV → AH → Prop} (hs : Subs P H ps qs) (h : Tri P f qs H Q) : Tri P f ps H Q := fun w S σ us h1 hr => h w S σ us h1 (hs.rps h1 hr)
theorem Tri.st {f : FuncId} {ps : List AV} {Q : AV → AH → Prop} (hs : Gst P H H2) (h : Tri P f ps H2 Q) : Tri P f ps H Q := fun w S σ us h1 hr => by
  obtain ⟨S', k1, k2, k3, k4⟩ := hs.2 w S σ h1
  refine (h w S' σ us k1 (hr.mono k2 (fun _ _ => rfl) (fun _ _ h => h))).mono fun e w' ⟨v, S2, σ2, r, H', q1, q2, q3, q4, q5, q6, q7⟩ => ⟨v, S2, σ2, r, H', q1, q2, q3, q4, ?_, Nat.le_trans hs.1 q6, fun id hi => q7 id (Nat.lt_of_lt_of_le hi hs.1)⟩
  exact ⟨q5.os, q5.tape, q5.output, q5.size, fun b hb hn => q5.keep b hb fun hf => hn (k4 b hf), fun b hb => q5.sup b (k2 b hb), fun b hb => by
    rcases q5.sub b hb with h | h | h
    · exact (k3 b h).elim .inl fun h => .inr (.inl h)
    · exact .inr (.inl (k4 b h))
    · exact .inr (.inr h), fun b hb => (q5.foot b hb).elim (fun h => .inl (k4 b h)) .inr, q5.sig⟩
/-- what a call gives that only reads -/
def PF (P : Program) (f : FuncId) (ps : List AV) (r : AV) : Prop := ∀ H, Tri P f ps H (fun v H' => H' = H ∧ v = r)
theorem ca_pure {f : FuncId} {first ps cap : List AV} {r : AV} {k : AV → AH → Prop} (hc : callable P f = true) (h : Tri P f (first ++ ps ++ cap) H (fun v H' => H' = H ∧ v = r)) (hk : k r H) : Ca P (.fn (.func f) first cap) ps k H :=
  ⟨f, first, cap, _, rfl, hc, h, fun v H' _ hq => by obtain ⟨rfl, rfl⟩ := hq; exact hk⟩
theorem ca_of {f : FuncId} {first ps cap : List AV} {Q : AV → AH → Prop} {k : AV → AH → Prop} (hc : callable P f = true) (h : Tri P f (first ++ ps ++ cap) H Q) (hk : ∀ v H', Q v H' → k v H') : Ca P (.fn (.func f) first cap) ps k H :=
  ⟨f, first, cap, Q, rfl, hc, h, fun v H' _ hq => hk v H' hq⟩
theorem ca_wf {f : FuncId} {first ps cap : List AV} {Q : AV → AH → Prop} {k : AV → AH → Prop} (hc : callable P f = true) (h : Tri P f (first ++ ps ++ cap) H Q) (hk : ∀ v H', WF H' → Q v H' → k v H') : Ca P (.fn (.func f) first cap) ps k H :=
  ⟨f, first, cap, Q, rfl, hc, h, fun v H' ⟨_, _, _, hs⟩ hq => hk v H' hs.wf hq⟩
theorem can_pure {sl : List Nat} {f : FuncId} {first ps cap : List AV} {r : AV} {k : AV → AH → Prop} (hc : callable P f = true) (h : ∀ H2, (mixV V H sl).le H2 → Tri P f (first ++ ps ++ cap) H2 (fun v H' => H' = H2 ∧ v = r)) (hk : k r H) : CaN P V sl (.fn (.func f) first cap) ps k H :=
  ⟨f, first, cap, r, [], rfl, hc, by simp, h, hk⟩
/-- a row that the region has laid is handed over as data -/
theorem can_frz {sl : List Nat} {i : Nat} {t sz : Nat} {es : List (List AV)} {f : FuncId} {first ps cap : List AV} {r : AV} {k : AV → AH → Prop} (hc : callable P f = true) (hi : i ∈ sl) (hv : V.get i = none) (hg : H.get i = some (.row t sz es)) (hd : DtR es)
    (h : ∀ H2, (mixV V (H.put i (.frz sz es)) sl).le H2 → Tri P f (first ++ ps ++ cap) H2 (fun v H' => H' = H2 ∧ v = r)) (hk : k r (H.put i (.frz sz es))) : CaN P V sl (.fn (.func f) first cap) ps k H := by
  have he : frzL H [i] = H.put i (.frz sz es) := by simp [frzL, frzE, hg, frzO, apE]
  refine ⟨f, first, cap, r, [i], rfl, hc, fun j hj => ?_, by rw [he]; exact h, by rw [he]; exact hk⟩
  simp at hj; subst hj
  exact ⟨hi, hv, by rw [hg]; exact hd⟩
theorem wro_st {b n i off id : Nat} {src : Option Nat} {t : TypeId} {cs : List AV} {a : AV} {k : AV → AH → Prop} (hi : i < b) (hv : V.get i = none) (hg : H.get i = some (.box t cs)) (h1 : a.part = true) (h2 : a.cells.length = n) (h3 : off + n ≤ cs.length)
    (hk : k .any (H.put i (.box t (cs.take off ++ a.cells ++ cs.drop (off + n))))) : WrO V b src id (.st n) [.ptr i off, a] k H := ⟨_, _, .st n i off t cs a H hi hv hg h1 h2 h3, hk⟩
theorem wro_nil {b id t sz bytes : Nat} {src : Option Nat} {ys : List (List AV)} {x : AV} {k : AV → AH → Prop} (h1 : ElF V H src sz x ys) (h2 : ys.length ≤ maxLen) (h3 : ys.length * bytes ≤ 140737488355328) (hk : k (.osl id sz 0 ys.length) (H.put id (.row t sz ys))) :
    WrO V b src id (.app t sz bytes) [.p (.slice none 0 0), x] k H := ⟨_, _, .app_nil t sz bytes ys x H h1 h2 h3, hk⟩
theorem wro_in {b id t sz bytes r n c : Nat} {src : Option Nat} {es ys : List (List AV)} {x : AV} {k : AV → AH → Prop} (h1 : r < b) (h2 : V.get r = none) (h3 : H.get r = some (.crow t sz c es)) (h4 : n = es.length) (h5 : ElF V H src sz x ys) (h6 : n + ys.length ≤ c) (hk : k (.osl r sz 0 (n + ys.length)) (H.put r (.crow t sz c (es ++ ys)))) :
    WrO V b src id (.app t sz bytes) [.osl r sz 0 n, x] k H := ⟨_, _, .app_in t sz bytes r n c es ys x H h1 h2 h3 h4 h5 h6, hk⟩
theorem wro_out {b id t sz bytes r n c : Nat} {src : Option Nat} {es ys : List (List AV)} {x : AV} {k : AV → AH → Prop} (h1 : r < b) (h3 : H.get r = some (.crow t sz c es)) (h4 : n = es.length) (h5 : ElF V H src sz x ys) (h6 : c < n + ys.length) (h7 : n + ys.length ≤ maxLen) (h8 : (n + ys.length) * bytes ≤ 140737488355328) (hk : k (.osl id sz 0 (n + ys.length)) (H.put id (.row t sz (es ++ ys)))) :
    WrO V b src id (.app t sz bytes) [.osl r sz 0 n, x] k H := ⟨_, _, .app_out t sz bytes r n c es ys x H h1 h3 h4 h5 h6 h7 h8, hk⟩
/-- a row of one's own is let go for a longer one -/
theorem wro_own {b id t sz bytes r n : Nat} {src : Option Nat} {es ys : List (List AV)} {x : AV} {k : AV → AH → Prop} (h1 : r < b) (h2 : V.get r = none) (h3 : H.get r = some (.row t sz es)) (h4 : n = es.length) (h5 : ElF V H src sz x ys) (h6 : n + ys.length ≤ maxLen) (h7 : (n + ys.length) * bytes ≤ 140737488355328) (hk : k (.osl id sz 0 (n + ys.length)) ((H.kill r).put id (.row t sz (es ++ ys)))) :
    WrO V b src id (.app t sz bytes) [.osl r sz 0 n, x] k H := ⟨_, _, .app_own t sz bytes r n es ys x H h1 h2 h3 (by omega) h5 h6 h7, by rw [List.drop_zero, List.take_of_length_le (by omega)]; exact hk⟩
/-- a row is handed to a call with its capacity told -/
theorem Tri.capped {f : FuncId} {ps : List AV} {Q : AV → AH → Prop} {r : Nat} {t : TypeId} {sz : Nat} {es : List (List AV)} (hg : H.get r = some (.row t sz es)) (h : ∀ c, es.length ≤ c → Tri P f ps (H.put r (.crow t sz c es)) Q) : Tri P f ps H Q := fun w S σ us hs hr => by
  obtain ⟨c, hc, hs'⟩ := hs.capped hg
  have hn : ∀ b, Foot σ (H.put r (.crow t sz c es)) b → Foot σ H b := by
    rintro b ⟨i, o, h1, h2, h3⟩
    by_cases e : i = r
    · subst e; exact ⟨i, _, hg, rfl, h3⟩
    · rw [AH.get_put_ne e] at h1; exact ⟨i, o, h1, h2, h3⟩
  have hn2 : ∀ b, Foot σ H b → Foot σ (H.put r (.crow t sz c es)) b := by
    rintro b ⟨i, o, h1, h2, h3⟩
    by_cases e : i = r
    · subst e; rw [hg] at h1; injection h1 with h1; subst h1; exact ⟨i, _, AH.get_put_self, rfl, h3⟩
    · exact ⟨i, o, by rw [AH.get_put_ne e]; exact h1, h2, h3⟩
  refine (h c hc w S σ us hs' hr).mono fun e w' ⟨v, S', σ', r', H', h1, h2, h3, h4, h5, h6, h7⟩ => ⟨v, S', σ', r', H', h1, h2, h3, h4, ⟨h5.os, h5.tape, h5.output, h5.size, fun b hb hf => h5.keep b hb fun q => hf (hn b q), h5.sup, fun b hb => (h5.sub b hb).imp_right fun q => q.imp_left (hn b), fun b hb => (h5.foot b hb).imp_left (hn b), h5.sig⟩, h6, h7⟩
theorem Gst.prefix {r : Nat} {t : TypeId} {sz c : Nat} {es : List (List AV)} (hg : H.get r = some (.crow t sz c es)) (n : Nat) : Gst P H (H.put r (.crow t sz c (es.take n))) :=
  ⟨Nat.le_refl _, fun w S σ hs => ⟨S, hs.prefix hg n, fun _ h => h, fun _ h => .inl h, by
    rintro b ⟨i, o, h1, h2, h3⟩
    by_cases e : i = r
    · subst e; exact ⟨i, _, hg, rfl, h3⟩
    · rw [AH.get_put_ne e] at h1; exact ⟨i, o, h1, h2, h3⟩⟩⟩
/-- a call in a drawn region that writes to what was there before: what it changes is told one by one -/
theorem cap_of {b : Nat} {sl : List Nat} {f : FuncId} {first ps cap : List AV} {r : AV} {k : AV → AH → AH → Prop} (e0 : List (Nat × AO)) (hc : callable P f = true) (he : ∀ p ∈ e0, p.1 < b) (h : ∀ H2, (∀ id, id < b → H2.get id = H.get id) → Tri P f (first ++ ps ++ cap) H2 (fun v H' => H' = apE e0 H2 ∧ v = r))
    (hk : k r (apE e0 V) (apE e0 H)) : CaP P V b sl (.fn (.func f) first cap) ps k H :=
  ⟨f, first, cap, r, [], e0, rfl, hc, by simp, he, fun H2 h2 => h H2 fun id hid => h2 id (.inl hid), hk⟩
theorem cap_one {b i : Nat} {o : AO} {sl : List Nat} {f : FuncId} {first ps cap : List AV} {r : AV} {k : AV → AH → AH → Prop} (hc : callable P f = true) (hi : i < b) (h : ∀ H2, (∀ id, id < b → H2.get id = H.get id) → Tri P f (first ++ ps ++ cap) H2 (fun v H' => H' = H2.put i o ∧ v = r))
    (hk : k r (V.put i o) (H.put i o)) : CaP P V b sl (.fn (.func f) first cap) ps k H := cap_of [(i, o)] hc (by simpa using hi) h hk
theorem cap_pure {b : Nat} {sl : List Nat} {f : FuncId} {first ps cap : List AV} {r : AV} {k : AV → AH → AH → Prop} (hc : callable P f = true) (h : ∀ H2, (∀ id, id < b → H2.get id = H.get id) → Tri P f (first ++ ps ++ cap) H2 (fun v H' => H' = H2 ∧ v = r))
    (hk : k r V H) : CaP P V b sl (.fn (.func f) first cap) ps k H := cap_of [] hc (by simp) h hk
/-- a call that leaves as it was what is read in the region -/
theorem cak_of {f : FuncId} {first ps cap : List AV} {Q : AV → AH → Prop} {k : AV → AH → Prop} (hc : callable P f = true) (h : Tri P f (first ++ ps ++ cap) H Q) (hk : ∀ v H', WF H' → Q v H' → V.le H' ∧ k v H') : CaK P V (.fn (.func f) first cap) ps k H :=
  ⟨f, first, cap, Q, rfl, hc, h, fun v H' ⟨_, _, _, hs⟩ hq => hk v H' hs.wf hq⟩
theorem cav_pure {f : FuncId} {first ps cap : List AV} {r : AV} {k : AV → AH → Prop} (hc : callable P f = true) (h : ∀ H2, V.le H2 → Tri P f (first ++ ps ++ cap) H2 (fun v H' => H' = H2 ∧ v = r)) (hk : k r H) : CaV P V (.fn (.func f) first cap) ps k H :=
  ⟨f, first, cap, r, rfl, hc, h, hk⟩
end
end Go.Proofs.Ytgkkilbeingleaa

/- The words that simplify an abstract walk. Nothing of the program is named here. -/
namespace Go.Proofs.Ytgkkilbeingleaa
open Go.RowKit Go.Maps
attribute [congr] onSome_congr pu_congr rds_congr rd_congr al_congr wr_congr wrs_congr wrf_congr ca_congr cav_congr cak_congr can_congr cap_congr wro_congr car_congr cdb_congr gdb_congr gvb_congr loop_congr cut_congr rt_congr ldF_congr lookF_congr stBox_congr stRow_congr appRow_congr appNil_congr msetF_congr clrRow_congr apsRow_congr ustRow_congr
attribute [simp ↓ high] cd_t cd_f gd_tt gd_ff gd_tf gd_ft gdv_tt gdv_ff gdv_tf gdv_ft gd_sk gdv_sk cdb_t cdb_f gdb_tt gdb_ff gdb_tf gdb_ft gvb_tt gvb_ff gvb_tf gvb_ft pick_t pick_f onSome_some
attribute [simp ↓] q_mv q_pick q_nil_ptr q_nil_eptr q_nil_dptr q_nil_fn q_add_ptr q_add_eptr q_add_dptr q_idx_dsl q_idx_osl q_aidx_ptr q_aidx_eptr q_aidx_dptr q_fld_agg q_add_i q_sub_i q_mul_i q_quo_i q_rem_i q_and_i q_or_i q_xor_i q_eql_i q_neq_i q_lss_i q_leq_i q_gtr_i q_geq_i q_shl_i q_shr_i q_eql_b q_neq_b q_eql_s q_neq_s q_add_s q_lss_s q_neg_i q_not_b q_conv_i q_same_s q_len_dsl q_len_osl q_len_nil q_len_s q_slc_00 q_slc_10 q_slc_01 q_slc_11 q_slo_00 q_slo_10 q_slo_01 q_slo_11 q_ssl_00 q_ssl_10 q_ssl_01 q_ssl_11 q_cap_nil q_slc_nil q_mn_i q_mx_i q_mkfn q_fld_one q_ext q_sidx q_vidx_agg q_vidx_one q_bld rds_eq wrs_eq rdn_eq rd_ld rd_look al_nw al_bx al_mm al_ms al_bs wr_st_ptr wr_st_eptr wr_app_osl wr_app_nil q_mset wr_apz_nil wr_clr_osl wr_aps_osl wr_aps_nil wr_ust_row wr_ust_nil rd_bstr_eq q_sld_osl q_sld_nil wf_st cd_b gd_b gdv_b cdb_eq gdb_eq gvb_eq rg_eq vw_eq both_eq q_eqnil_p q_eqnil_dsl q_eqnil_osl q_nenil_p q_nenil_dsl q_nenil_osl
attribute [simp] delL_nil delL_cons del_nx del_get mixV_nil mixV_cons mixO_some mixO_none bm_eq boxAt_box rowAt_row rowAt_crow rowAt_frz atF_ptr atF_eptr atF_dptr ldF_t ldF_f elF_dsl elF_nil elF_osl elRow_crow elRow_row elRow_frz up_get up_nx put_nx kill_nx put_get stBox stRow appRow appNil msetF clrRow apsRow ustRow lookF fillA chunks
@[simp] theorem part_p (v : Value) : AV.part (.p v) = true := rfl
@[simp] theorem cells_p (v : Value) : AV.cells (.p v) = [(.p v)] := rfl
@[simp] theorem part_dsl (sz : Nat) (xs : List (List AV)) : AV.part (.dsl sz xs) = true := rfl
@[simp] theorem cells_dsl (sz : Nat) (xs : List (List AV)) : AV.cells (.dsl sz xs) = [(.dsl sz xs)] := rfl
@[simp] theorem part_dptr (sz : Nat) (xs : List (List AV)) (i j : Nat) : AV.part (.dptr sz xs i j) = true := rfl
@[simp] theorem cells_dptr (sz : Nat) (xs : List (List AV)) (i j : Nat) : AV.cells (.dptr sz xs i j) = [(.dptr sz xs i j)] := rfl
@[simp] theorem part_ptr (i j : Nat) : AV.part (.ptr i j) = true := rfl
@[simp] theorem cells_ptr (i j : Nat) : AV.cells (.ptr i j) = [(.ptr i j)] := rfl
@[simp] theorem part_eptr (i sz q j : Nat) : AV.part (.eptr i sz q j) = true := rfl
@[simp] theorem cells_eptr (i sz q j : Nat) : AV.cells (.eptr i sz q j) = [(.eptr i sz q j)] := rfl
@[simp] theorem part_osl (i sz q j : Nat) : AV.part (.osl i sz q j) = true := rfl
@[simp] theorem cells_osl (i sz q j : Nat) : AV.cells (.osl i sz q j) = [(.osl i sz q j)] := rfl
@[simp] theorem part_mp (i : Nat) : AV.part (.mp i) = true := rfl
@[simp] theorem cells_mp (i : Nat) : AV.cells (.mp i) = [(.mp i)] := rfl
@[simp] theorem part_fn (f : Fn) (xs ys : List AV) : AV.part (.fn f xs ys) = true := rfl
@[simp] theorem cells_fn (f : Fn) (xs ys : List AV) : AV.cells (.fn f xs ys) = [(.fn f xs ys)] := rfl
@[simp] theorem part_agg (cs : List AV) : AV.part (.agg cs) = true := rfl
@[simp] theorem cells_agg (cs : List AV) : AV.cells (.agg cs) = cs := rfl
@[simp] theorem val_p (v : Value) : AV.val (.p v) = some v := rfl
@[simp] theorem vals_nil : vals [] = some [] := rfl
@[simp] theorem vals_p (v : Value) (r : List AV) : vals (.p v :: r) = (vals r).map (v :: ·) := by cases h : vals r <;> simp [vals, h]
@[simp] theorem val_agg (cs : List AV) : AV.val (.agg cs) = (vals cs).map fun vs => .agg vs.toArray := by cases h : vals cs <;> simp [AV.val, h]
theorem wrapI {x : Int} (h : -9223372036854775808 ≤ x) (k : x ≤ 9223372036854775807) : IntKind.i64.wrap x = x := by rw [IntKind.wrap_i64]; omega
@[simp] theorem wrap_lit (n : Nat) (h : n < 9223372036854775808) : IntKind.i64.wrap (no_index (OfNat.ofNat n)) = OfNat.ofNat n := by
  show IntKind.i64.wrap ((n : Nat) : Int) = ((n : Nat) : Int)
  rw [IntKind.wrap_i64]; omega
@[simp] theorem wrap_neg_lit (n : Nat) (h : n < 9223372036854775808) : IntKind.i64.wrap (no_index (-OfNat.ofNat n)) = -OfNat.ofNat n := by
  show IntKind.i64.wrap (-((n : Nat) : Int)) = -((n : Nat) : Int)
  rw [IntKind.wrap_i64]; omega
end Go.Proofs.Ytgkkilbeingleaa

/- Loops, joins and calls of abstract walks, as one uses them. Nothing of the program is named here. -/
namespace Go.Proofs.Ytgkkilbeingleaa
open Go.RowKit Go.Maps

section
variable {P : Program} {w : World} {S : Nat → Prop} {σ : Nat → Option Value} {H H0 H1 H2 V : AH} {B : Nat}
theorem AH.le.refl (H : AH) : H.le H := fun _ _ h => h
theorem AH.le.trans (h : H0.le H1) (k : H1.le H2) : H0.le H2 := fun _ _ q => k _ _ (h _ _ q)
theorem AH.le.up {n : Nat} (h : H0.le H1) : H0.le (H1.up n) := h
theorem AH.le.put {i : Nat} {o : AO} (hw : WF H0) (hi : H0.nx ≤ i) (h : H0.le H1) : H0.le (H1.put i o) := fun id o' ho => by
  rw [AH.get_put_ne (by have := (hw id o' ho).1; omega)]; exact h _ _ ho
theorem AH.le.kill {i : Nat} (hw : WF H0) (hi : H0.nx ≤ i) (h : H0.le H1) : H0.le (H1.kill i) := AH.le.put hw hi h
theorem AH.le.get_ {i : Nat} {o : AO} (h : H0.le H1) (hg : H0.get i = some o) : H1.get i = some o := h _ _ hg
theorem wf_none (hw : WF H) {i : Nat} (h : H.nx ≤ i) : H.get i = none := by
  cases hg : H.get i with
  | none => rfl
  | some o => have := (hw i o hg).1; omega
theorem least {S : Nat → Prop} : ∀ n, S n → ∃ n, S n ∧ ∀ m, S m → n ≤ m := by
  intro n
  induction n using Nat.strongRecOn with
  | ind n ih =>
    intro h
    by_cases hx : ∃ m, m < n ∧ S m
    · obtain ⟨m, h1, h2⟩ := hx; exact ih m h1 h2
    · exact ⟨n, h, fun m hm => Nat.le_of_not_lt fun hl => hx ⟨m, hl, hm⟩⟩
open Classical in
noncomputable def low (S : Nat → Prop) : Nat := if h : ∃ n, S n then Classical.choose (least h.choose h.choose_spec) else 0
theorem low_spec {S : Nat → Prop} {n : Nat} (h : S n) : S (low S) ∧ low S ≤ n := by
  have hx : ∃ n, S n := ⟨n, h⟩
  have := Classical.choose_spec (least hx.choose hx.choose_spec)
  unfold low
  rw [dif_pos hx]
  exact ⟨this.1, this.2 n h⟩
/-- a loop, by what holds at its head -/
theorem loop_wf {α : Type} (enc : α → List AV) {m : Nat} (Inv : α → AH → Prop) (μ : α → Nat) (a0 : α) {vs0 : List AV} {F : List AV → (List AV → AH → Prop) → AH → Prop} (h0 : GW P H.nx vs0 H (enc a0) H0) (hi : Inv a0 H0)
    (hB : ∀ a H1, H.nx ≤ H1.nx → WF H1 → Inv a H1 → ∀ k : List AV → AH → Prop, (∀ a' H2 vs' H', GW P H.nx vs' H' (enc a') H2 → Inv a' H2 → μ a' < μ a → k vs' H') → F (enc a) k H1) : LoopA P m F vs0 H := by
  refine ⟨fun vs H' => ∃ a, vs = enc a ∧ Inv a H', fun vs H' => low fun n => ∃ a, vs = enc a ∧ Inv a H' ∧ μ a = n, ⟨_, _, h0, a0, rfl, hi⟩, ?_⟩
  rintro vs H1 _ hn ⟨w1, S1, σ1, hs1⟩ ⟨a, rfl, ha⟩
  obtain ⟨⟨b, hb, hbi, hbm⟩, _⟩ := low_spec (S := fun n => ∃ b, enc a = enc b ∧ Inv b H1 ∧ μ b = n) ⟨a, rfl, ha, rfl⟩
  rw [hb] at hbm ⊢
  refine hB b H1 hn hs1.wf hbi _ fun a' H2 vs' H' hg hi2 hlt => ⟨_, _, hg, ⟨a', rfl, hi2⟩, ?_⟩
  have h2 := (low_spec (S := fun n => ∃ b, enc a' = enc b ∧ Inv b H2 ∧ μ b = n) ⟨a', rfl, hi2, rfl⟩).2
  dsimp only
  rw [← hbm]
  exact Nat.lt_of_le_of_lt h2 hlt
theorem loop_st {α : Type} (enc : α → List AV) {m : Nat} (Inv : α → AH → Prop) (μ : α → Nat) (a0 : α) {vs0 : List AV} {F : List AV → (List AV → AH → Prop) → AH → Prop} (h0 : GW P H.nx vs0 H (enc a0) H0) (hi : Inv a0 H0)
    (hB : ∀ a H1, H.nx ≤ H1.nx → Inv a H1 → ∀ k : List AV → AH → Prop, (∀ a' H2 vs' H', GW P H.nx vs' H' (enc a') H2 → Inv a' H2 → μ a' < μ a → k vs' H') → F (enc a) k H1) : LoopA P m F vs0 H :=
  loop_wf enc Inv μ a0 h0 hi fun a H1 hn _ hi k hk => hB a H1 hn hi k hk
/-- a join, by what holds there -/
theorem cut_wf {α : Type} (enc : α → List AV) {m : Nat} (Inv : α → AH → Prop) {F : (List AV → AH → Prop) → AH → Prop} {K : List AV → AH → Prop} (hA : ∀ k : List AV → AH → Prop, (∀ a' H2 vs' H', GW P H.nx vs' H' (enc a') H2 → Inv a' H2 → k vs' H') → F k H)
    (hK : ∀ a H', H.nx ≤ H'.nx → WF H' → Inv a H' → K (enc a) H') : CutA P m F K H :=
  ⟨fun vs H' => ∃ a, vs = enc a ∧ Inv a H', hA _ fun a' H2 vs' H' hg hi => ⟨_, _, hg, a', rfl, hi⟩, fun vs H' _ hn ⟨_, _, _, hs⟩ ⟨a, e, hi⟩ => by subst e; exact hK a H' hn hs.wf hi⟩
theorem cut_st {α : Type} (enc : α → List AV) {m : Nat} (Inv : α → AH → Prop) {F : (List AV → AH → Prop) → AH → Prop} {K : List AV → AH → Prop} (hA : ∀ k : List AV → AH → Prop, (∀ a' H2 vs' H', GW P H.nx vs' H' (enc a') H2 → Inv a' H2 → k vs' H') → F k H)
    (hK : ∀ a H', H.nx ≤ H'.nx → Inv a H' → K (enc a) H') : CutA P m F K H :=
  ⟨fun vs H' => ∃ a, vs = enc a ∧ Inv a H', hA _ fun a' H2 vs' H' hg hi => ⟨_, _, hg, a', rfl, hi⟩, fun vs H' _ hn _ ⟨a, e, hi⟩ => by subst e; exact hK a H' hn hi⟩
/-- how long a slice can be -/
theorem tri_len {f : FuncId} {ps : List AV} {Q : AV → AH → Prop} (i : Nat) {sz : Nat} {xs : List (List AV)} (hi : ps[i]? = some (.dsl sz xs)) (h : xs.length ≤ maxLen → (∀ e ∈ xs, e.length = sz) → Tri P f ps H Q) : Tri P f ps H Q := fun w S σ us hs hr => by
  obtain ⟨v, hv, hrv⟩ := hr.at_ hi
  obtain ⟨A, c, z, rfl, h1, h2, h3, _⟩ := hrv.dsl_inv.dsl_inv
  exact h (by omega) h3 w S σ us hs hr
theorem ivn {i : Nat} (h : i < 9223372036854775807) : IntKind.i64.wrap ((i : Int) + 1) = ((i + 1 : Nat) : Int) := by rw [IntKind.wrap_i64]; omega
/-- a slice of one's own that grows: nil, or a row laid since -/
def Grows (t sz : Nat) (H0 H1 : AH) (v : AV) (es : List (List AV)) : Prop :=
  (v = .p (.slice none 0 0) ∧ es = []) ∨ ∃ r xs, v = .osl r sz 0 es.length ∧ H0.nx ≤ r ∧ r < H1.nx ∧ H1.get r = some (.row t sz xs) ∧ xs.take es.length = es ∧ DtR xs
theorem Grows.nil (t sz : Nat) (H0 H1 : AH) : Grows t sz H0 H1 (.p (.slice none 0 0)) [] := .inl ⟨rfl, rfl⟩
theorem Grows.row {t sz r n : Nat} {xs : List (List AV)} (h1 : H0.nx ≤ r) (h2 : r < H1.nx) (h3 : H1.get r = some (.row t sz xs)) (h4 : DtR xs) (h5 : n = xs.length) : Grows t sz H0 H1 (.osl r sz 0 n) xs :=
  .inr ⟨r, xs, by rw [h5], h1, h2, h3, List.take_length, h4⟩
theorem Grows.keep {t sz : Nat} {v : AV} {es : List (List AV)} (h : Grows t sz H0 H1 v es) (hn : H1.nx ≤ H2.nx) (hk : ∀ j o, H0.nx ≤ j → H1.get j = some o → H2.get j = some o) : Grows t sz H0 H2 v es := by
  rcases h with h | ⟨r, xs, h1, h2, h3, h4, h5, h6⟩
  · exact .inl h
  · exact .inr ⟨r, xs, h1, h2, by omega, hk _ _ h2 h4, h5, h6⟩
theorem DtR.app {xs ys : List (List AV)} (h : DtR xs) (k : DtR ys) : DtR (xs ++ ys) := fun e he => (List.mem_append.1 he).elim (h e) (k e)
theorem DtR.take {xs : List (List AV)} {n : Nat} (h : DtR xs) : DtR (xs.take n) := fun e he => h e (List.mem_of_mem_take he)
theorem DtR.drop {xs : List (List AV)} {n : Nat} (h : DtR xs) : DtR (xs.drop n) := fun e he => h e (List.mem_of_mem_drop he)
theorem Grows.len {t sz : Nat} {v : AV} {es : List (List AV)} {k : AV → AH → Prop} {H : AH} (h : Grows t sz H0 H1 v es) : Pu P .len [v] k H = k (.p (.int .i64 es.length)) H := by
  rcases h with ⟨rfl, rfl⟩ | ⟨r, xs, rfl, _⟩
  · rw [q_len_nil]; rfl
  · rw [q_len_osl]
/-- what is appended stands behind -/
theorem Grows.app {t sz bytes id : Nat} {v x : AV} {es ys : List (List AV)} {k : AV → AH → AH → Prop} (hw : WF H0) (hg : Grows t sz H0 H1 v es) (hle : H0.le H1) (hid : H0.nx ≤ id) (hid2 : id < H1.nx) (hx : elF H1 sz x = some ys) (hd : DtR ys) (h1 : es.length + ys.length ≤ maxLen) (h2 : (es.length + ys.length) * bytes ≤ 140737488355328)
    (hk : ∀ v' H2, Grows t sz H0 H2 v' (es ++ ys) → H0.le H2 → H2.nx = H1.nx → (∀ j, j ≠ id → (∀ n, v ≠ .osl j sz 0 n) → H2.get j = H1.get j) → (∃ n, v' = .osl id sz 0 n) → k v' H2 H2) : Wr P id (.app t sz bytes) [v, x] k H1 := by
  rcases hg with ⟨rfl, rfl⟩ | ⟨r, xs, rfl, g1, g2, g3, g4, g5⟩
  · rw [wr_app_nil, hx]
    simp only [List.length_nil, Nat.zero_add] at h1 h2
    refine ⟨h1, h2, hk _ _ ?_ (.put hw hid hle) rfl (fun j hj _ => AH.get_put_ne hj) ⟨_, rfl⟩⟩
    exact .row hid hid2 (by rw [AH.get_put_self]; rfl) (by simpa using hd) (by simp)
  · rw [wr_app_osl, hx, g3]
    refine ⟨rfl, rfl, ?_, h1, h2, hk _ _ ?_ (.put hw hid (.kill hw g1 hle)) rfl (fun j hj hv => ?_) ⟨_, rfl⟩⟩
    · have := congrArg List.length g4
      rw [List.length_take] at this
      omega
    · refine .inr ⟨id, _, by rw [List.length_append], hid, hid2, AH.get_put_self, ?_, ?_⟩
      · rw [List.drop_zero, g4, List.take_length]
      · rw [List.drop_zero, g4]; exact DtR.app (by rw [← g4]; exact g5.take) hd
    · have hr : j ≠ r := fun e => hv es.length (by rw [e])
      rw [AH.get_put_ne hj, AH.kill, AH.get_put_ne hr]
theorem Grows.not {t sz j : Nat} {v : AV} {es : List (List AV)} (h : Grows t sz H0 H1 v es) (hj : ∀ xs, H1.get j ≠ some (.row t sz xs)) : ∀ n, v ≠ .osl j sz 0 n := fun n hn => by
  rcases h with ⟨h1, _⟩ | ⟨r, xs, h1, _, _, h4, _⟩
  · rw [h1] at hn; cases hn
  · rw [h1] at hn; injection hn with hn; subst hn; exact hj _ h4
theorem Grows.part {t sz : Nat} {v : AV} {es : List (List AV)} (h : Grows t sz H0 H1 v es) : AV.part v = true ∧ AV.cells v = [v] := by
  rcases h with ⟨rfl, _⟩ | ⟨r, xs, rfl, _⟩ <;> exact ⟨rfl, rfl⟩
theorem Grows.lt {t sz j n : Nat} {v : AV} {es : List (List AV)} (h : Grows t sz H0 H1 v es) (hj : v = .osl j sz 0 n) : j < H1.nx := by
  rcases h with ⟨h1, _⟩ | ⟨r, xs, h1, _, h3, _⟩
  · rw [h1] at hj; cases hj
  · rw [h1] at hj; injection hj with hj; omega
theorem Grows.same {t sz : Nat} {v : AV} {es : List (List AV)} (h : Grows t sz H0 H1 v es) (hn : H1.nx ≤ H2.nx) (hk : ∀ j, j < H1.nx → (∃ n, v = .osl j sz 0 n) → H2.get j = H1.get j) : Grows t sz H0 H2 v es := by
  rcases h with h | ⟨r, xs, h1, h2, h3, h4, h5, h6⟩
  · exact .inl h
  · exact .inr ⟨r, xs, h1, h2, by omega, by rw [hk r h3 ⟨_, h1⟩]; exact h4, h5, h6⟩
theorem Grows.at_ {t sz : Nat} {v : AV} {es : List (List AV)} (h : Grows t sz H0 H1 v es) (hn : 0 < es.length) : ∃ r xs, v = .osl r sz 0 es.length ∧ r < H1.nx ∧ H1.get r = some (.row t sz xs) ∧ ∀ i, i < es.length → xs[i]? = es[i]? := by
  rcases h with ⟨_, h2⟩ | ⟨r, xs, h1, h2, h3, h4, h5, h6⟩
  · rw [h2] at hn; simp at hn
  · refine ⟨r, xs, h1, h3, h4, fun i hi => ?_⟩
    rw [← h5, List.getElem?_take, if_pos hi]
theorem Grows.el {t sz : Nat} {v : AV} {es : List (List AV)} (h : Grows t sz H0 H1 v es) : elF H1 sz v = some es := by
  rcases h with ⟨rfl, rfl⟩ | ⟨r, xs, rfl, _, _, h3, h4, _⟩
  · rfl
  · rw [elF_osl, h3, elRow_row, List.drop_zero, h4]
    have := congrArg List.length h4
    rw [List.length_take] at this
    omega
/-- it is handed over as data, in a memory that keeps all else -/
theorem Grows.fz {t sz : Nat} {v : AV} {es : List (List AV)} (h : Grows t sz H0 H1 v es) (hw : WF H0) (hle : H0.le H1) (hn : H0.nx ≤ H1.nx) : ∃ H2, Gst P H1 H2 ∧ H0.le H2 ∧ H2.nx = H1.nx ∧ (∀ j, (∀ n, v ≠ .osl j sz 0 n) → H2.get j = H1.get j) ∧ Sub P H2 v (.dsl sz es) := by
  rcases h with ⟨rfl, rfl⟩ | ⟨r, xs, rfl, h1, h2, h3, h4, h5⟩
  · exact ⟨H1, ⟨Nat.le_refl _, fun w S σ hs => ⟨S, hs, fun _ h => h, fun _ h => .inl h, fun _ h => h⟩⟩, hle, rfl, fun _ _ => rfl, .nil _ _ (Nat.zero_le _)⟩
  · refine ⟨_, .freeze h3 h5, .put hw h1 hle, rfl, fun j hj => AH.get_put_ne fun e => hj es.length (by rw [e]), ?_⟩
    have := Sub.frz (P := P) (H := H1.put r (.frz sz xs)) (r := r) (sz := sz) (off := 0) (n := es.length) AH.get_put_self (by
      have := congrArg List.length h4
      rw [List.length_take] at this
      omega)
    rwa [List.drop_zero, h4] at this
theorem Grows.rt {t sz : Nat} {v : AV} {es : List (List AV)} {Q : AV → AH → Prop} (h : Grows t sz H0 H1 v es) (hw : WF H0) (hle : H0.le H1) (hn : H0.nx ≤ H1.nx) (hq : Q (.dsl sz es) H0) : Rt P H0.nx v Q H1 := by
  obtain ⟨H2, k1, k2, k3, _, k4⟩ := h.fz (P := P) hw hle hn
  exact Gh.step ((GW.st k1 hn).trans (GW.sub (.cons k4 .nil) (by omega))) (Gh.back hw k2 (.one (.dsl _ _)) ⟨_, rfl, hq⟩)
/-- the cells of a box are told anew -/
theorem Gst.box {b : Nat} {t : TypeId} {cs cs' : List AV} (hg : H.get b = some (.box t cs)) (hs : Subs P H cs cs') : Gst P H (H.put b (.box t cs')) := by
  refine ⟨Nat.le_refl _, fun w S σ h => ?_⟩
  have hget : ∀ id o, (H.put b (.box t cs')).get id = some o → ∃ o', H.get id = some o' ∧ o'.owned = o.owned ∧ (id = b ∨ o' = o) := by
    intro id o ho
    by_cases e : id = b
    · subst e; rw [AH.get_put_self] at ho; injection ho with ho; subst ho; exact ⟨_, hg, rfl, .inl rfl⟩
    · rw [AH.get_put_ne e] at ho; exact ⟨_, ho, rfl, .inr rfl⟩
  refine ⟨S, ⟨h.sb, h.dom, fun id o ho => ?_, fun i j o o' x h1 h2 k1 k2 b1 b2 => ?_, fun i o x h1 k1 b1 => ?_, h.sl⟩, fun _ q => q, fun _ q => .inl q, ?_⟩
  · by_cases e : id = b
    · subst e
      rw [AH.get_put_self] at ho; injection ho with ho; subst ho
      obtain ⟨g, arr, h1, h2, h3, h4⟩ := h.obj id _ hg
      exact ⟨g, arr, h1, h2, hs.rps h h3, h4⟩
    · rw [AH.get_put_ne e] at ho; exact h.obj id o ho
  · obtain ⟨p1, q1, r1, _⟩ := hget i o h1
    obtain ⟨p2, q2, r2, _⟩ := hget j o' h2
    exact h.dj i j p1 p2 x q1 q2 (r1.trans k1) (r2.trans k2) b1 b2
  · obtain ⟨p1, q1, r1, _⟩ := hget i o h1
    exact h.sep i p1 x q1 (r1.trans k1) b1
  · rintro x ⟨i, o, h1, k1, b1⟩
    obtain ⟨p1, q1, r1, _⟩ := hget i o h1
    exact ⟨i, p1, q1, r1.trans k1, b1⟩
end
end Go.Proofs.Ytgkkilbeingleaa

/- More of growing slices: told anew one behind the other; two that grow side by side. Nothing of the program is named here. -/
namespace Go.Proofs.Ytgkkilbeingleaa
open Go.RowKit Go.Maps

section
variable {P : Program} {w : World} {S : Nat → Prop} {σ : Nat → Option Value} {H H0 H1 H2 H3 V : AH} {B : Nat}
theorem Gst.refl (H : AH) : Gst P H H := ⟨Nat.le_refl _, fun w S σ hs => ⟨S, hs, fun _ h => h, fun _ h => .inl h, fun _ h => h⟩⟩
theorem Gst.trans (h : Gst P H H1) (k : Gst P H1 H2) : Gst P H H2 := ⟨Nat.le_trans h.1 k.1, fun w S σ hs => by
  obtain ⟨S1, a1, a2, a3, a4⟩ := h.2 w S σ hs
  obtain ⟨S2, b1, b2, b3, b4⟩ := k.2 w S1 σ a1
  refine ⟨S2, b1, fun b hb => b2 b (a2 b hb), fun b hb => ?_, fun b hb => a4 b (b4 b hb)⟩
  rcases b3 b hb with hb | hb
  · exact a3 b hb
  · exact .inr (a4 b hb)⟩
theorem Grows.base {t sz : Nat} {v : AV} {es : List (List AV)} (h : Grows t sz H1 H2 v es) (hn : H0.nx ≤ H1.nx) : Grows t sz H0 H2 v es := by
  rcases h with h | ⟨r, xs, h1, h2, h3⟩
  · exact .inl h
  · exact .inr ⟨r, xs, h1, Nat.le_trans hn h2, h3⟩
theorem Grows.ge {t sz j n : Nat} {v : AV} {es : List (List AV)} (h : Grows t sz H0 H1 v es) (hj : v = .osl j sz 0 n) : H0.nx ≤ j := by
  rcases h with ⟨h1, _⟩ | ⟨r, xs, h1, h2, h3, _⟩
  · rw [h1] at hj; cases hj
  · rw [h1] at hj; injection hj with hj; omega
/-- two that grow, of elements of another size -/
theorem Grows.apart {t t' sz sz' : Nat} {v u : AV} {es xs : List (List AV)} (h : Grows t sz H0 H1 v es) (k : Grows t' sz' H2 H1 u xs) (hs : sz ≠ sz') {j : Nat} (hj : ∃ n, u = .osl j sz' 0 n) : ∀ n, v ≠ .osl j sz 0 n := by
  obtain ⟨n, hn⟩ := hj
  refine h.not fun ys e => ?_
  rcases k with ⟨h1, _⟩ | ⟨r, xs, h1, _, _, h4, _⟩
  · rw [h1] at hn; cases hn
  · rw [h1] at hn; injection hn with hn; subst hn; rw [h4] at e; injection e with e; injection e with e1 e2; exact hs e2.symm
theorem Grows.up_ {t sz : Nat} {v : AV} {es : List (List AV)} (h : Grows t sz H0 H1 v es) (hn : H1.nx ≤ H2.nx) (hk : ∀ j o, j < H1.nx → (∃ n, v = .osl j sz 0 n) → H1.get j = some o → H2.get j = some o) : Grows t sz H0 H2 v es := by
  rcases h with h | ⟨r, xs, h1, h2, h3, h4, h5, h6⟩
  · exact .inl h
  · exact .inr ⟨r, xs, h1, h2, by omega, hk r _ h3 ⟨_, h1⟩ h4, h5, h6⟩
theorem Grows.wf {t sz : Nat} {v : AV} {es : List (List AV)} (h : Grows t sz H0 H1 v es) (hw : WF H2) (hk : H1.le H2) : Grows t sz H0 H2 v es := by
  rcases h with h | ⟨r, xs, h1, h2, h3, h4, h5, h6⟩
  · exact .inl h
  · exact .inr ⟨r, xs, h1, h2, (hw _ _ (hk _ _ h4)).1, hk _ _ h4, h5, h6⟩
theorem DtR.set {xs : List (List AV)} {i : Nat} {e : List AV} (h : DtR xs) (he : ∀ a ∈ e, Dt a) : DtR (xs.set i e) := fun x hx => by
  rcases List.mem_or_eq_of_mem_set hx with hx | hx
  · exact h x hx
  · subst hx; exact he
/-- an element is set anew -/
theorem Grows.put {t sz r n q : Nat} {es xs : List (List AV)} {e : List AV} (h : Grows t sz H0 H1 (.osl r sz 0 n) es) (hg : H1.get r = some (.row t sz xs)) (he : ∀ a ∈ e, Dt a) : Grows t sz H0 (H1.put r (.row t sz (xs.set q e))) (.osl r sz 0 n) (es.set q e) := by
  rcases h with ⟨h1, _⟩ | ⟨r', xs', h1, h2, h3, h4, h5, h6⟩
  · cases h1
  · injection h1 with e1 _ _ e2
    subst e1
    rw [hg] at h4
    injection h4 with h4
    injection h4 with _ _ h4
    subst h4
    refine .inr ⟨r, xs.set q e, by rw [List.length_set, e2], h2, h3, AH.get_put_self, ?_, h6.set he⟩
    rw [List.length_set, List.take_set, h5]
/-- whatever slice it is, an element is read so -/
theorem elF_acc {sz : Nat} {a : AV} {es : List (List AV)} (h0 : 0 < sz) (h : elF H sz a = some es) {i : Nat} {e : List AV} (he : es[i]? = some e) : ∃ q : Nat → AV, (∀ (P : Program) (kd : IntKind) (k : AV → AH → Prop) (H' : AH), Pu P (.idx sz) [a, .p (.int kd (i : Int))] k H' = k (q 0) H') ∧
    (∀ (P : Program) (m j : Nat) (k : AV → AH → Prop) (H' : AH), Pu P (.addOff m) [q j] k H' = k (q (j + m)) H') ∧ ∀ j, atF H (q j) = some (e.drop j) := by
  have hi := (List.getElem?_eq_some_iff.1 he).1
  have row : ∀ (id off n : Nat) (o : Option AO) (ys : List (List AV)), ((ys.drop off).take n)[i]? = some e → ys[off + i]? = some e ∧ i < n := fun id off n o ys h => by
    rw [List.getElem?_take] at h
    split at h
    · rw [List.getElem?_drop] at h; exact ⟨h, by assumption⟩
    · cases h
  cases elF_iff.2 h with
  | dsl => exact ⟨fun j => .dptr sz es i j, fun P kd k H' => by rw [q_idx_dsl]; simp [h0, hi], fun P m j k H' => by rw [q_add_dptr], fun j => by rw [atF_dptr, he]; rfl⟩
  | row id off n t ys hg hn =>
    obtain ⟨h1, h2⟩ := row id off n none ys he
    exact ⟨fun j => .eptr id sz (off + i) j, fun P kd k H' => by rw [q_idx_osl]; simp [h2], fun P m j k H' => by rw [q_add_eptr], fun j => by rw [atF_eptr, hg, rowAt_row, h1]; rfl⟩
  | frz id off n ys hg hn =>
    obtain ⟨h1, h2⟩ := row id off n none ys he
    exact ⟨fun j => .eptr id sz (off + i) j, fun P kd k H' => by rw [q_idx_osl]; simp [h2], fun P m j k H' => by rw [q_add_eptr], fun j => by rw [atF_eptr, hg, rowAt_frz, h1]; rfl⟩
  | crow id off n c t ys hg hn =>
    obtain ⟨h1, h2⟩ := row id off n none ys he
    exact ⟨fun j => .eptr id sz (off + i) j, fun P kd k H' => by rw [q_idx_osl]; simp [h2], fun P m j k H' => by rw [q_add_eptr], fun j => by rw [atF_eptr, hg, rowAt_crow, h1]; rfl⟩
  | nil_ => simp at hi
theorem elF_len {sz : Nat} {a : AV} {es : List (List AV)} (h : elF H sz a = some es) : ∀ (P : Program) (k : AV → AH → Prop) (H' : AH), Pu P .len [a] k H' = k (.p (.int .i64 (es.length : Int))) H' := by
  intro P k H'
  cases elF_iff.2 h with
  | dsl => rw [q_len_dsl]
  | row id off n t ys hg hn => rw [q_len_osl, List.length_take, List.length_drop, show min n (ys.length - off) = n by omega]
  | frz id off n ys hg hn => rw [q_len_osl, List.length_take, List.length_drop, show min n (ys.length - off) = n by omega]
  | crow id off n c t ys hg hn => rw [q_len_osl, List.length_take, List.length_drop, show min n (ys.length - off) = n by omega]
  | nil_ => rw [q_len_nil]; rfl
theorem elF_le {sz : Nat} {a : AV} {es : List (List AV)} (h : elF H sz a = some es) (hle : H.le H1) : elF H1 sz a = some es := elF_iff.1 ((elF_iff.2 h).le hle)
/-- a slice that grew and lies in a box is handed over as data where it lies -/
theorem Grows.fzbox {u sz b : Nat} {t : TypeId} {v : AV} {es : List (List AV)} (h : Grows u sz H0 H1 v es) (hw : WF H0) (hle : H0.le H1) (hn : H0.nx ≤ H1.nx) (hb : H1.get b = some (.box t [v])) (hbn : H0.nx ≤ b) :
    ∃ H2, Gst P H1 H2 ∧ H0.le H2 ∧ H2.nx = H1.nx ∧ H2.get b = some (.box t [.dsl sz es]) ∧ ∀ j, j ≠ b → (∀ n, v ≠ .osl j sz 0 n) → H2.get j = H1.get j := by
  obtain ⟨H2, f1, f2, f3, f4, f5⟩ := h.fz (P := P) hw hle hn
  have hvb : ∀ n, v ≠ .osl b sz 0 n := h.not fun ys e => by rw [hb] at e; cases e
  have hb2 := (f4 b hvb).trans hb
  exact ⟨H2.put b (.box t [.dsl sz es]), f1.trans (Gst.box hb2 (.cons f5 .nil)), .put hw hbn f2, f3, AH.get_put_self, fun j hj hv => by rw [AH.get_put_ne hj]; exact f4 j hv⟩
/-- what was there is as it was -/
def Kp (H H1 : AH) : Prop := H.nx ≤ H1.nx ∧ ∀ j, j < H.nx → H1.get j = H.get j
theorem Kp.refl (H : AH) : Kp H H := ⟨Nat.le_refl _, fun _ _ => rfl⟩
theorem Kp.trans (h : Kp H H1) (k : Kp H1 H2) : Kp H H2 := ⟨Nat.le_trans h.1 k.1, fun j hj => (k.2 j (Nat.lt_of_lt_of_le hj h.1)).trans (h.2 j hj)⟩
theorem Kp.up {n : Nat} (h : Kp H H1) : Kp H (H1.up n) := ⟨Nat.le_trans h.1 (Nat.le_add_right _ _), h.2⟩
theorem Kp.put {i : Nat} {o : AO} (hi : H.nx ≤ i) (h : Kp H H1) : Kp H (H1.put i o) := ⟨h.1, fun j hj => by rw [AH.get_put_ne (by omega)]; exact h.2 j hj⟩
theorem Kp.kill {i : Nat} (hi : H.nx ≤ i) (h : Kp H H1) : Kp H (H1.kill i) := Kp.put hi h
theorem Kp.le (h : Kp H H1) (hw : WF H) : H.le H1 := fun i o ho => by rw [h.2 i (hw i o ho).1]; exact ho
theorem Kp.le_of (h : Kp H H1) (hl : H0.le H) (hw : WF H0) (hn : H0.nx ≤ H.nx) : H0.le H1 := fun i o ho => by rw [h.2 i (Nat.lt_of_lt_of_le (hw i o ho).1 hn)]; exact hl i o ho
theorem Kp.get_ {i : Nat} {o : Option AO} (h : Kp H H1) (hi : i < H.nx) (hg : H.get i = o) : H1.get i = o := (h.2 i hi).trans hg
theorem Grows.kp {t sz : Nat} {v : AV} {es : List (List AV)} (h : Grows t sz H0 H1 v es) (k : Kp H1 H2) : Grows t sz H0 H2 v es := h.same k.1 fun j hj _ => k.2 j hj
end
end Go.Proofs.Ytgkkilbeingleaa

/- Readings of what came in: each argument that can be read as data stands for a plain thing whose bulk is no greater. Nothing of the program is named here. -/
namespace Go.Proofs.Ytgkkilbeingleaa
open Go.ChangeShapes Go.WideShapes Go.RowKit

/-- what can be read at a type stands for something -/
def Opens {α : Type} (P : Program) (t : TypeId) (ρ : Rep α) : Prop :=
  ∀ (H : Type) (enc : TypeId × Value → H) (w : World) (base : Nat) (spare : Nat → Bool) (held : Bool) (fuel : Nat) (cs : List Value) (x : DataW H × List MemPlace),
    DataW.trod enc P w base spare held fuel t cs = some x → ∃ y, ρ.R w (fun b => b < w.heap.size) cs y ∧ ρ.bulk y ≤ Rows.uptoBulk x.1

theorem bulk_pos {H : Type} (d : DataW H) : 1 ≤ Rows.uptoBulk d := by
  cases d with
  | lit l => cases l <;> simp [Rows.uptoBulk]
  | _ => simp [Rows.uptoBulk]
theorem opens_int {P : Program} {t : TypeId} (ht : P.underlying t = some (.int .i64)) : Opens P t rInt := by
  intro H enc w base spare held fuel cs x h
  obtain ⟨n, rfl, rfl, hw⟩ := DataW.trod_int ht h
  refine ⟨n, ⟨rfl, ?_⟩, bulk_pos _⟩
  simp only [Lit.wf, Bool.and_eq_true, decide_eq_true_eq] at hw
  exact hw
theorem opens_bool {P : Program} {t : TypeId} (ht : P.underlying t = some .bool) : Opens P t rBool := by
  intro H enc w base spare held fuel cs x h
  obtain ⟨b, rfl, rfl⟩ := DataW.trod_bool ht h
  exact ⟨b, rfl, bulk_pos _⟩
theorem opens_string {P : Program} {t : TypeId} (ht : P.underlying t = some .string) : Opens P t rStr := by
  intro H enc w base spare held fuel cs x h
  obtain ⟨s, rfl, rfl, hs⟩ := DataW.trod_string ht h
  refine ⟨s, ⟨rfl, hs⟩, ?_⟩
  have : s.data.toList.length = s.size := by rw [Array.length_toList]; rfl
  simp only [rStr, Rows.uptoBulk]; omega
theorem pick {α : Type} {Q : Nat → α → Prop} : ∀ n, (∀ i, i < n → ∃ y, Q i y) → ∃ ys : List α, ys.length = n ∧ ∀ i y, ys[i]? = some y → Q i y
  | 0, _ => ⟨[], rfl, by simp⟩
  | n + 1, h => by
    obtain ⟨ys, hl, hq⟩ := pick n fun i hi => h i (by omega)
    obtain ⟨y, hy⟩ := h n (by omega)
    refine ⟨ys ++ [y], by simp [hl], fun i z hz => ?_⟩
    by_cases hi : i < ys.length
    · rw [List.getElem?_append_left hi] at hz; exact hq i z hz
    · rw [List.getElem?_append_right (by omega)] at hz
      have h0 : i - ys.length = 0 := by have := (List.getElem?_eq_some_iff.1 hz).1; simp at this; omega
      rw [h0] at hz
      simp at hz; subst hz
      obtain rfl : i = n := by omega
      exact hy
theorem sum_le {α H : Type} (f : α → Nat) : ∀ (ys : List α) (ds : List (DataW H)), ys.length = ds.length → (∀ (i : Nat) (y : α) (d : DataW H), ys[i]? = some y → ds[i]? = some d → f y ≤ Rows.uptoBulk d) → (ys.map f).sum ≤ Rows.uptoBulkAll ds
  | [], _, _, _ => by simp
  | y :: ys, [], h, _ => by simp at h
  | y :: ys, d :: ds, h, hf => by
    have ih := sum_le f ys ds (by simpa using h) fun i y d hy hd => hf (i + 1) y d (by simpa using hy) (by simpa using hd)
    have h0 := hf 0 y d rfl rfl
    simp only [List.map_cons, List.sum_cons, Rows.uptoBulkAll]; omega
theorem opens_slice {α : Type} {ρ : Rep α} {P : Program} {t e : TypeId} (ht : P.underlying t = some (.slice e)) (hs : P.cellsOf e = ρ.size) (hp : 0 < ρ.size) (he : Opens P e ρ) : Opens P t (rList ρ) := by
  intro H enc w base spare held fuel cs x h
  rcases DataW.trod_slice ht h with ⟨rfl, rfl⟩ | ⟨a, len, cap, elems, rest, n, _, rfl, rfl, _, hl, hm, hlen, hel, _, _⟩
  · exact ⟨[], ⟨none, 0, rfl, Sl.nil_⟩, by simp [rList, Rows.uptoBulk]⟩
  · have key : ∀ i, i < len → ∃ y, (a.block < w.heap.size ∧ (∃ u, ρ.R w (fun b => b < w.heap.size) u y ∧ ∀ j z, u[j]? = some z → w.cell? (a.add (i * ρ.size + j)) = some z)) ∧ ∀ d, (elems.map (·.1))[i]? = some d → ρ.bulk y ≤ Rows.uptoBulk d := by
      intro i hi
      have h1 := hel i hi
      rw [List.getElem?_eq_getElem (by omega)] at h1
      cases hc : w.cells? base (a.add (i * P.cellsOf e)) (P.cellsOf e) with
      | none => rw [hc] at h1; simp at h1
      | some us =>
        rw [hc] at h1
        simp only [Option.bind_some] at h1
        obtain ⟨y, hy, hb⟩ := he H enc w base spare held n us _ h1
        obtain ⟨_, hcl, hat⟩ := World.cells?_some hc
        have hcell : ∀ j z, us[j]? = some z → w.cell? (a.add (i * ρ.size + j)) = some z := by
          intro j z hz
          have hj : j < P.cellsOf e := by have := (List.getElem?_eq_some_iff.1 hz).1; omega
          have := hat j hj
          rw [hz, add_of_add, hs] at this; exact this
        refine ⟨y, ⟨?_, us, hy, hcell⟩, fun d hd => ?_⟩
        · have h0 : 0 < us.length := by rw [ρ.len hy]; exact hp
          have := World.block_lt_of_cell? w _ (hcell 0 _ (List.getElem?_eq_getElem h0))
          rwa [block_of_add] at this
        · rw [List.getElem?_map, List.getElem?_eq_getElem (by omega)] at hd
          simp at hd; subst hd; exact hb
    obtain ⟨ys, hyl, hq⟩ := pick len key
    refine ⟨ys, ⟨some a, cap, by rw [hyl], by omega, hm, fun i y hy => ?_⟩, ?_⟩
    · obtain ⟨⟨hb, u, hr, hc⟩, _⟩ := hq i y hy
      exact ⟨a, u, rfl, hb, hr, hc⟩
    · have := sum_le ρ.bulk ys (elems.map (·.1)) (by rw [List.length_map]; omega) fun i y d hy hd => (hq i y hy).2 d hd
      simp only [rList, Rows.uptoBulk]; omega
/-- fields from a place on -/
def OpensL {α : Type} (P : Program) (l : List Field) (off : Nat) (ρ : Rep α) : Prop :=
  ∀ (H : Type) (enc : TypeId × Value → H) (w : World) (base : Nat) (spare : Nat → Bool) (held : Bool) (fuel : Nat) (cs : List Value) (xs : List (DataW H × List MemPlace)),
    cs.length = off + ρ.size → xs.length = l.length → (∀ (i : Nat) (f : Field), l[i]? = some f → DataW.trod enc P w base spare held fuel f.type ((cs.drop f.offset).take (P.cellsOf f.type)) = xs[i]?) →
    ∃ y, ρ.R w (fun b => b < w.heap.size) (cs.drop off) y ∧ ρ.bulk y ≤ Rows.uptoBulkAll (xs.map (·.1))
theorem opens_last {α : Type} {ρ : Rep α} {P : Program} {f : Field} {off : Nat} (ho : f.offset = off) (hs : P.cellsOf f.type = ρ.size) (hf : Opens P f.type ρ) : OpensL P [f] off ρ := by
  intro H enc w base spare held fuel cs xs hl hx h
  match xs, hx with
  | [x], _ =>
    have h0 := h 0 f rfl
    rw [ho, hs, List.take_of_length_le (by rw [List.length_drop]; omega)] at h0
    obtain ⟨y, hy, hb⟩ := hf H enc w base spare held fuel _ x h0
    exact ⟨y, hy, by simp only [List.map_cons, List.map_nil, Rows.uptoBulkAll]; omega⟩
theorem opens_more {α β : Type} {ρ : Rep α} {σ : Rep β} {P : Program} {f : Field} {l : List Field} {off : Nat} (ho : f.offset = off) (hs : P.cellsOf f.type = ρ.size) (hf : Opens P f.type ρ) (hl : OpensL P l (off + ρ.size) σ) :
    OpensL P (f :: l) off (rPair ρ σ) := by
  intro H enc w base spare held fuel cs xs hcs hx h
  match xs, hx with
  | x :: xs, hx =>
    have h0 := h 0 f rfl
    rw [ho, hs] at h0
    have hz : (rPair ρ σ).size = ρ.size + σ.size := rfl
    obtain ⟨y, hy, hb⟩ := hf H enc w base spare held fuel _ x h0
    obtain ⟨z, hz, hb'⟩ := hl H enc w base spare held fuel cs xs (by omega) (by simpa using hx) fun i f hi => h (i + 1) f (by simpa using hi)
    refine ⟨(y, z), ⟨_, _, ?_, hy, hz⟩, ?_⟩
    · rw [← List.drop_drop, List.take_append_drop]
    · simp only [rPair, List.map_cons, Rows.uptoBulkAll]; omega
theorem opens_struct {α : Type} {ρ : Rep α} {P : Program} {t : TypeId} {l : List Field} (ht : P.underlying t = some (.struct l.toArray)) (hs : P.cellsOf t = ρ.size) (hl : OpensL P l 0 ρ) : Opens P t ρ := by
  intro H enc w base spare held fuel cs x h
  obtain ⟨xs, n, _, rfl, hcs, hx, hf⟩ := DataW.trod_struct ht h
  obtain ⟨y, hy, hb⟩ := hl H enc w base spare held n cs xs (by omega) (by simpa using hx) fun i f hi => hf i f (by simpa using hi)
  exact ⟨y, by simpa using hy, by simp only [Rows.uptoBulk]; omega⟩
section
variable {H : Type} {enc : TypeId × Value → H} {P : Program} {w : World} {base b0 : Nat} {spare : Nat → Bool} {held : Bool} {r : Reach} {t : TypeId} {v : Value} {d : DataW H} {ps : List MemPlace} {α : Type} {ρ : Rep α}
/-- an argument that is a struct -/
theorem arg_struct {fs : Array Field} (ho : Opens P t ρ) (hs : P.underlying t = some (.struct fs)) (hv : Value.okWide P w r b0 t v) (h : DataW.Trod enc P w base spare held t v d ps) :
    ∃ cs y, v = .agg cs ∧ ρ.R w (fun b => b < w.heap.size) cs.toList y ∧ ρ.bulk y ≤ Rows.uptoBulk d := by
  obtain ⟨cs, rfl, hsz⟩ := okWide_struct hs hv
  obtain ⟨fuel, hf⟩ := h
  obtain ⟨y, hy, hb⟩ := ho H enc w base spare held fuel _ _ hf
  exact ⟨cs, y, rfl, hy, hb⟩
/-- an argument that is a slice -/
theorem arg_slice {e : TypeId} (ho : Opens P t (rList ρ)) (hs : P.underlying t = some (.slice e)) (hv : Value.okWide P w r b0 t v) (h : DataW.Trod enc P w base spare held t v d ps) :
    ∃ A c ys, v = .slice A ys.length c ∧ Sl ρ w (fun b => b < w.heap.size) A c ys ∧ (ys.map ρ.bulk).sum + 1 ≤ Rows.uptoBulk d := by
  obtain ⟨a, n, c, rfl⟩ := okWide_slice hs hv
  obtain ⟨fuel, hf⟩ := h
  obtain ⟨ys, ⟨A, c', e, hy⟩, hb⟩ := ho H enc w base spare held fuel _ _ hf
  simp only [Value.cells, List.cons.injEq, and_true, Value.slice.injEq] at e
  obtain ⟨rfl, rfl, rfl⟩ := e
  exact ⟨_, _, ys, rfl, hy, hb⟩
end
end Go.Proofs.Ytgkkilbeingleaa

/- From what came in to abstract values, and from an abstract walk to a law's end. Nothing of the program is named here. -/
namespace Go.Proofs.Ytgkkilbeingleaa
open Go.RowKit Go.Maps Go.ChangeShapes Go.WideShapes

/-- cells that stand for abstract data -/
def RpsD (w : World) (S : Nat → Prop) (ps : List AV) (cs : List Value) : Prop := ps.length = cs.length ∧ ∀ (i : Nat) (a : AV) (v : Value), ps[i]? = some a → cs[i]? = some v → RpD w S a v
/-- what a reading stands for, told abstractly -/
def AvsG {α β : Type} (ρ : Rep α) (g : α → β) (av : β → List AV) (ok : β → Prop) : Prop := ∀ w S cs y, ρ.R w S cs y → ok (g y) ∧ RpsD w S (av (g y)) cs
theorem RpsD.one {w : World} {S : Nat → Prop} {a : AV} {v : Value} (h : RpD w S a v) : RpsD w S [a] [v] := by
  refine ⟨rfl, fun i b u hb hu => ?_⟩
  cases i with
  | zero => simp at hb hu; subst hb; subst hu; exact h
  | succ i => simp at hb
theorem RpsD.append {w : World} {S : Nat → Prop} {ps bs : List AV} {vs us : List Value} (h : RpsD w S ps vs) (h' : RpsD w S bs us) : RpsD w S (ps ++ bs) (vs ++ us) := by
  refine ⟨by simp [h.1, h'.1], fun i a v ha hv => ?_⟩
  by_cases hi : i < ps.length
  · rw [List.getElem?_append_left hi] at ha
    rw [List.getElem?_append_left (by rw [← h.1]; exact hi)] at hv
    exact h.2 i a v ha hv
  · rw [List.getElem?_append_right (by omega)] at ha
    rw [List.getElem?_append_right (by rw [← h.1]; omega), ← h.1] at hv
    exact h'.2 _ a v ha hv
theorem avs_int : AvsG rInt id (fun i => [.p (.int .i64 i)]) I64 := fun w S cs y h => by
  obtain ⟨rfl, h⟩ := h; exact ⟨h, .one (.p _ rfl)⟩
theorem avs_bool : AvsG rBool id (fun b => [.p (.bool b)]) (fun _ => True) := fun w S cs y h => by
  have h : cs = [.bool y] := h
  subst h; exact ⟨trivial, .one (.p _ rfl)⟩
theorem avs_str : AvsG rStr id (fun b => [.p (.string b)]) (fun s => s.size ≤ maxLen) := fun w S cs y h => by
  obtain ⟨rfl, h⟩ := h; exact ⟨h, .one (.p _ rfl)⟩
section
variable {α β γ δ : Type} {ρ : Rep α} {σ : Rep γ} {g : α → β} {h : γ → δ} {av : β → List AV} {bv : δ → List AV} {ok : β → Prop} {ok' : δ → Prop}
theorem AvsG.map (k : AvsG ρ g av ok) (f : β → γ) (av' : γ → List AV) (ok' : γ → Prop) (h1 : ∀ y, av y = av' (f y)) (h2 : ∀ y, ok y → ok' (f y)) : AvsG ρ (fun x => f (g x)) av' ok' := fun w S cs y hr => by
  obtain ⟨q1, q2⟩ := k w S cs y hr
  exact ⟨h2 _ q1, by rw [← h1]; exact q2⟩
theorem AvsG.pair (k : AvsG ρ g av ok) (l : AvsG σ h bv ok') : AvsG (rPair ρ σ) (fun x => (g x.1, h x.2)) (fun z => av z.1 ++ bv z.2) (fun z => ok z.1 ∧ ok' z.2) := fun w S cs y hr => by
  obtain ⟨c, d, rfl, h1, h2⟩ := hr
  obtain ⟨q1, q2⟩ := k w S c y.1 h1
  obtain ⟨r1, r2⟩ := l w S d y.2 h2
  exact ⟨⟨q1, r1⟩, q2.append r2⟩
theorem sl_rpd (k : AvsG ρ g av ok) (hs : 0 < ρ.size) {w : World} {S : Nat → Prop} {A : Option Addr} {c : Nat} {xs : List α} (h : Sl ρ w S A c xs) : (∀ y ∈ xs, ok (g y)) ∧ RpD w S (.dsl ρ.size ((xs.map g).map av)) (.slice A xs.length c) := by
  obtain ⟨h1, h2, h3⟩ := h
  refine ⟨fun y hy => ?_, ?_⟩
  · obtain ⟨i, hi⟩ := List.getElem?_of_mem hy
    obtain ⟨ad, u, _, _, hr, _⟩ := h3 i y hi
    exact (k w S u y hr).1
  have hl : ((xs.map g).map av).length = xs.length := by simp
  have hcell : ∀ (i : Nat) (x : α), xs[i]? = some x → ∃ g' o, A = some ⟨g', o, none⟩ ∧ S g' ∧ ∃ u, ρ.R w S u x ∧ ∀ j z, u[j]? = some z → w.cell? ⟨g', o + i * ρ.size + j, none⟩ = some z := by
    intro i x hx
    have h0 : 0 < xs.length := by have := (List.getElem?_eq_some_iff.1 hx).1; omega
    obtain ⟨ad0, u0, e0, s0, r0, c0⟩ := h3 0 _ (List.getElem?_eq_getElem h0)
    have hu0 : 0 < u0.length := by rw [ρ.len r0]; exact hs
    have hc := c0 0 _ (List.getElem?_eq_getElem hu0)
    obtain ⟨b, o, sp⟩ := ad0
    have hsp : sp = none := by
      simp only [Nat.zero_mul, Nat.add_zero, Addr.add, if_pos] at hc
      unfold World.cell? at hc
      split at hc
      · split at hc
        · cases hc
        · rename_i hsp; cases sp with
          | none => rfl
          | some _ => exact absurd rfl hsp
      · cases hc
    subst hsp
    obtain ⟨ad, u, e, s, r, c⟩ := h3 i x hx
    rw [e0] at e; injection e with e; subst e
    refine ⟨b, o, e0, s, u, r, fun j z hz => ?_⟩
    have := c j z hz
    rw [addr_add] at this
    rw [Nat.add_assoc]; exact this
  have hel : ∀ (i : Nat) (e : List AV), ((xs.map g).map av)[i]? = some e → ∃ x, xs[i]? = some x ∧ e = av (g x) := by
    intro i e he
    rw [List.getElem?_map, List.getElem?_map] at he
    cases hx : xs[i]? with
    | none => rw [hx] at he; cases he
    | some x => rw [hx] at he; injection he with he; exact ⟨x, rfl, he.symm⟩
  have := RpD.dsl (w := w) (S := S) ρ.size ((xs.map g).map av) A c
    (fun i j => match A with
      | some a => if (xs[i]?).isSome ∧ j < ρ.size then (w.cell? ⟨a.block, a.off + i * ρ.size + j, none⟩).getD (.bool false) else .bool false
      | none => .bool false) (by omega) h2 (fun e he => ?_) (fun i e j a he ha => ?_) (fun i e j a he ha => ?_) (fun i j => ?_)
  · rw [hl] at this; exact this
  · obtain ⟨i, hi⟩ := List.getElem?_of_mem he
    obtain ⟨x, hx, rfl⟩ := hel i e hi
    obtain ⟨_, _, _, _, u, hr, _⟩ := hcell i x hx
    rw [(k w S u x hr).2.1, ρ.len hr]
  · obtain ⟨x, hx, rfl⟩ := hel i e he
    obtain ⟨g', o, rfl, hg, u, hr, hc⟩ := hcell i x hx
    have hj : j < u.length := by rw [← (k w S u x hr).2.1]; exact (List.getElem?_eq_some_iff.1 ha).1
    have hjs : j < ρ.size := by rw [← ρ.len hr]; exact hj
    refine ⟨g', o, rfl, hg, ?_⟩
    have := hc j _ (List.getElem?_eq_getElem hj)
    simp only [hx, Option.isSome_some, hjs, and_self, if_true, this, Option.getD_some]
  · obtain ⟨x, hx, rfl⟩ := hel i e he
    obtain ⟨g', o, rfl, hg, u, hr, hc⟩ := hcell i x hx
    have hj : j < u.length := by rw [← (k w S u x hr).2.1]; exact (List.getElem?_eq_some_iff.1 ha).1
    have hjs : j < ρ.size := by rw [← ρ.len hr]; exact hj
    have := hc j _ (List.getElem?_eq_getElem hj)
    simp only [hx, Option.isSome_some, hjs, and_self, if_true, this, Option.getD_some]
    exact (k w S u x hr).2.2 j a _ ha (List.getElem?_eq_getElem hj)
  · cases A with
    | none => rfl
    | some a =>
      dsimp only
      split
      · rename_i hij
        obtain ⟨x, hx⟩ := Option.isSome_iff_exists.1 hij.1
        obtain ⟨g', o, e, hg, u, hr, hc⟩ := hcell i x hx
        injection e with e; subst e
        have hj : j < u.length := by rw [ρ.len hr]; exact hij.2
        rw [hc j _ (List.getElem?_eq_getElem hj)]
        exact ρ.one hr _ (List.getElem_mem hj)
      · rfl
theorem AvsG.list (k : AvsG ρ g av ok) (hs : 0 < ρ.size) : AvsG (rList ρ) (List.map g) (fun zs => [.dsl ρ.size (zs.map av)]) (fun zs => ∀ z ∈ zs, ok z) := fun w S cs y hr => by
  obtain ⟨A, c, rfl, hsl⟩ := hr
  obtain ⟨q1, q2⟩ := sl_rpd k hs hsl
  refine ⟨fun z hz => ?_, .one q2⟩
  obtain ⟨x, hx, rfl⟩ := List.mem_map.1 hz
  exact q1 x hx
/-- an argument that is a struct, told abstractly -/
theorem AvsG.agg (k : AvsG ρ g av ok) {w : World} {S : Nat → Prop} {σ' : Nat → Option Value} {cs : Array Value} {y : α} (hr : ρ.R w S cs.toList y) : ok (g y) ∧ Rp w S σ' (.agg (av (g y))) (.agg cs) := by
  obtain ⟨q1, q2, q3⟩ := k w S cs.toList y hr
  exact ⟨q1, .data _ _ (.agg _ _ (by simpa using q2) (fun i a v ha hv => q3 i a v ha (by simpa using hv)) fun v hv => ρ.one hr v (by simpa using hv))⟩
/-- an argument that is a slice, told abstractly -/
theorem AvsG.sl (k : AvsG ρ g av ok) (hs : 0 < ρ.size) {w : World} {S : Nat → Prop} {σ' : Nat → Option Value} {A : Option Addr} {c : Nat} {xs : List α} (h : Sl ρ w S A c xs) : (∀ z ∈ xs.map g, ok z) ∧ Rp w S σ' (.dsl ρ.size ((xs.map g).map av)) (.slice A xs.length c) := by
  obtain ⟨q1, q2⟩ := sl_rpd k hs h
  refine ⟨fun z hz => ?_, .data _ _ q2⟩
  obtain ⟨x, hx, rfl⟩ := List.mem_map.1 hz
  exact q1 x hx
end
/-- a walk from nothing held, to the law's end -/
theorem law_calls {P : Program} {f : FuncId} {ps : List AV} {us : List Value} {W : World} {r : Value} (h : Tri P f ps ⟨0, []⟩ (fun v _ => v = .p r)) (hr : Rps W (fun b => b < W.heap.size) (fun _ => none) ps us) :
    Calls P f us.toArray W fun e W' => e = .returned r ∧ Below W.heap.size W W' := by
  have hs : Sat P W (fun b => b < W.heap.size) (fun _ => none) ⟨0, []⟩ := ⟨fun b hb => hb, fun id u hu => by (cases hu), fun id o ho => by (cases ho), fun i j o o' b hi => by (cases hi), fun i o b hi => by (cases hi), fun i A n c h => by (cases h)⟩
  refine (h W _ _ us hs hr).mono fun e W' ⟨v, S', σ', r', H', h1, h2, h3, h4, h5, _⟩ => ?_
  subst h2
  obtain ⟨rfl, _⟩ := h4.p_inv
  exact ⟨h1, h5.os, h5.tape, h5.output, h5.size, fun b hb => h5.keep b hb fun ⟨i, o, hi, _⟩ => by (cases hi)⟩
/-- a result may be told with less -/
theorem Tri.res {P : Program} {f : FuncId} {ps : List AV} {H : AH} {Q Q' : AV → AH → Prop} (h : Tri P f ps H Q) (hq : ∀ r H', Q r H' → ∃ r', Sub P H' r r' ∧ Q' r' H') : Tri P f ps H Q' := fun w S σ us hs hr =>
  (h w S σ us hs hr).mono fun e w' ⟨v, S', σ', r, H', h1, h2, h3, h4, h5⟩ => by
    obtain ⟨r', q1, q2⟩ := hq r H' h2
    exact ⟨v, S', σ', r', H', h1, q2, h3, q1 _ _ _ _ h3 h4, h5⟩
end Go.Proofs.Ytgkkilbeingleaa

/- More of abstract walks: appends in drawn regions. Nothing of the program is named here. -/
namespace Go.Proofs.Ytgkkilbeingleaa
open Go.RowKit Go.Maps
section
variable {P : Program} {w : World} {S : Nat → Prop} {σ : Nat → Option Value} {H H0 H1 H2 V : AH} {B : Nat}
theorem Cl.mono {a : AV} {B B' : Nat} (h : Cl B a) (hb : B ≤ B') : Cl B' a := fun w S σ v hr => (h w S σ v hr).mono (fun _ h => h) (fun _ _ => rfl) (fun id u hu => by
  obtain ⟨h1, h2⟩ := cutS_some hu
  rw [cutS_lt (by omega)]; exact h2)
theorem ClO.mono {o : AO} {B B' : Nat} (h : ClO B o) (hb : B ≤ B') : ClO B' o := by
  cases o with
  | box t cs => exact fun a ha => Cl.mono (h a ha) hb
  | row t sz es => exact fun e he a ha => Cl.mono (h e he a ha) hb
  | crow t sz c es => exact fun e he a ha => Cl.mono (h e he a ha) hb
  | map kt n f => exact fun k a ha => Cl.mono (h k a ha) hb
  | smap kt n f st c => exact fun k a ha => Cl.mono (h k a ha) hb
  | miter m st c vis => exact Nat.lt_of_lt_of_le (show m < B from h) hb
  | _ => trivial
theorem WF.up (h : WF H) (n : Nat) : WF (H.up n) := fun id o ho => ⟨Nat.lt_of_lt_of_le (h id o ho).1 (Nat.le_add_right _ _), ClO.mono (h id o ho).2 (Nat.le_add_right _ _)⟩
theorem WF.put (h : WF H) {i : Nat} {o : AO} (hi : i < H.nx) (hc : ClO H.nx o) : WF (H.put i o) := fun id o' ho => by
  by_cases e : id = i
  · subst e; rw [AH.get_put_self] at ho; injection ho with ho; subst ho; exact ⟨hi, hc⟩
  · rw [AH.get_put_ne e] at ho; exact h id o' ho
theorem WF.box (h : WF H) {i : Nat} {t : TypeId} {cs : List AV} (hi : i < H.nx) (hc : Clo H.nx cs) : WF (H.put i (.box t cs)) := h.put hi hc
theorem DtR.clo {es : List (List AV)} (h : ∀ e ∈ es, ∀ a ∈ e, ∃ v, a = .p v ∨ ∃ sz xs, a = .dsl sz xs) : ∀ e ∈ es, Clo B e := fun e he a ha => by
  obtain ⟨v, rfl | ⟨sz, xs, rfl⟩⟩ := h e he a ha
  · exact Cl.p _
  · exact Cl.dsl _ _
/-- what holds a slice that grew is given back with it as data -/
theorem Grows.rt_in {M : AH} {t sz : Nat} {u v v' : AV} {es : List (List AV)} {Q : AV → AH → Prop} (h : Grows t sz M H1 u es) (hwM : WF M) (hle : M.le H1) (hn : M.nx ≤ H1.nx) (hw : WF H0) (h0 : H0.le M) (hn0 : H0.nx ≤ M.nx)
    (hs : ∀ H2, Sub P H2 u (.dsl sz es) → Sub P H2 v v') (hc : Cl H0.nx v') (hq : Q v' H0) : Rt P H0.nx v Q H1 := by
  obtain ⟨H2, k1, k2, k3, _, k4⟩ := h.fz (P := P) hwM hle hn
  exact Gh.step ((GW.st k1 (by omega)).trans (GW.sub (.cons (hs _ k4) .nil) (by omega))) (Gh.back hw (h0.trans k2) (.one hc) ⟨_, rfl, hq⟩)
/-- what holds slices is given back told anew -/
theorem rt_sub {v v' : AV} {Q : AV → AH → Prop} (hw : WF H0) (h0 : H0.le H1) (hn : H0.nx ≤ H1.nx) (hs : Sub P H1 v v') (hc : Cl H0.nx v') (hq : Q v' H0) : Rt P H0.nx v Q H1 :=
  Gh.step (GW.sub (.cons hs .nil) hn) (Gh.back hw h0 (.one hc) ⟨_, rfl, hq⟩)
/-- a call in a drawn region that lays a row -/
theorem car_of {id : Nat} {sl : List Nat} {f : FuncId} {first ps cap : List AV} (t : TypeId) (sz : Nat) (es : List (List AV)) {k : AV → AH → Prop} (hc : callable P f = true) (hd : ∀ e ∈ es, e.length = sz) (h : ∀ H2, (mixV V H sl).le H2 → Tri P f (first ++ ps ++ cap) H2 (fun r H' => Grows t sz H2 H' r es ∧ H2.le H' ∧ H2.nx ≤ H'.nx))
    (hk : k (.osl id sz 0 es.length) (H.put id (.row t sz es))) : CaR P V id sl (.fn (.func f) first cap) ps k H :=
  ⟨f, first, cap, t, sz, es, rfl, hc, hd, fun H2 hle => (h H2 hle).mono fun r H' ⟨h1, h2, _⟩ => ⟨h1.elim .inl fun ⟨r, xs, e1, e2, _, e4, e5, e6⟩ => .inr ⟨r, xs, e1, e2, e4, e5, e6⟩, h2⟩, hk⟩
/-- an append in a drawn region to what it has laid -/
theorem wrf_row {tgt src : Option Nat} {id r off n t sz bytes : Nat} {es ys : List (List AV)} {x : AV} {k : AV → AH → Prop} (ht : tgt = some r) (h1 : V.get r = none) (h2 : H.get r = some (.row t sz es)) (h3 : off + n ≤ es.length) (h4 : ElF V H src sz x ys) (h5 : n + ys.length ≤ maxLen) (h6 : (n + ys.length) * bytes ≤ 140737488355328)
    (hk : k (.osl id sz 0 (n + ys.length)) ((H.kill r).put id (.row t sz ((es.drop off).take n ++ ys)))) : WrF V tgt src id (.app t sz bytes) [.osl r sz off n, x] k H := ⟨_, _, .app_row t sz bytes r off n es ys x H ht h1 h2 h3 h4 h5 h6, hk⟩
theorem wrf_nil {tgt src : Option Nat} {id t sz bytes : Nat} {ys : List (List AV)} {x : AV} {k : AV → AH → Prop} (ht : tgt = none) (h4 : ElF V H src sz x ys) (h5 : ys.length ≤ maxLen) (h6 : ys.length * bytes ≤ 140737488355328)
    (hk : k (.osl id sz 0 ys.length) (H.put id (.row t sz ys))) : WrF V tgt src id (.app t sz bytes) [.p (.slice none 0 0), x] k H := ⟨_, _, .app_nil t sz bytes ys x H ht h4 h5 h6, hk⟩
theorem elF_whole {src : Option Nat} {sz i n : Nat} {t : TypeId} {es : List (List AV)} (hs : src = some i) (hg : H.get i = some (.row t sz es)) (hn : n = es.length) : ElF V H src sz (.osl i sz 0 n) es := by
  subst hn
  have := ElF.new (V := V) (H := H) (src := src) (sz := sz) i 0 es.length t es hs hg (by omega)
  rwa [List.drop_zero, List.take_length] at this
/-- a range over a map begins -/
theorem nd_rng {id m n : Nat} {kt : TypeId} {f : Value → Option AV} {k : AV → AH → Prop} (hg : mapOf (H.get m) = some (kt, n, f)) (K : Keyed P kt) (hk : ∀ st c, k (.ptr id 0) ((H.put m (.smap kt n f st c)).put id (.miter m st c []))) : Nd P id (.rng kt) [.mp m] k H :=
  ⟨_, .rng kt m n f hg K, fun a H' ⟨st, c, e1, e2⟩ => by subst e1; subst e2; exact hk st c⟩
/-- a step of a range -/
theorem nd_nxt {id it m c n : Nat} {st : Value → Nat} {vis : List Value} {kt : TypeId} {f : Value → Option AV} {k : AV → AH → Prop} (hi : H.get it = some (.miter m st c vis)) (hm : H.get m = some (.smap kt n f st c)) (K : Keyed P kt) (hv : ∀ x ∈ vis, (f x).isSome = true ∧ (keyOf P kt x).isSome = true) (hd : vis.Nodup)
    (h0 : (∀ x, (keyOf P kt x).isSome = true → (f x).isSome = true → x ∈ vis) → k (.tup [.p (.bool false)]) H) (h1 : ∀ x v, (keyOf P kt x).isSome = true → f x = some v → x ∉ vis → vis.length < n → k (.tup [.p (.bool true), avOfV x, v]) (H.put it (.miter m st c (vis ++ [x])))) : Nd P id .nxt [.ptr it 0] k H :=
  ⟨_, .nxt it m st c vis kt n f hi hm K hv hd, fun a H' h => by
    rcases h with ⟨e1, e2, h⟩ | ⟨x, v, q1, q2, q3, q4, e1, e2⟩
    · subst e1; subst e2; exact h0 h
    · subst e1; subst e2; exact h1 x v q1 q2 q3 q4⟩
/-- the entry that was come to -/
theorem nd_ent {id it m c n : Nat} {st : Value → Nat} {vis : List Value} {kt : TypeId} {f : Value → Option AV} {x : Value} {v : AV} {k : AV → AH → Prop} (hi : H.get it = some (.miter m st c (vis ++ [x]))) (hm : H.get m = some (.smap kt n f st c)) (K : Keyed P kt) (hx : f x = some v) (hk : (keyOf P kt x).isSome = true)
    (h : k (.tup [avOfV x, v]) H) : Nd P id .ent [.ptr it 0] k H :=
  ⟨_, .ent it m st c vis kt n f x v hi hm K hx hk, fun a H' ⟨e1, e2⟩ => by subst e1; subst e2; exact h⟩
/-- a map's stamps are forgotten -/
theorem Gst.unstamp {m n c : Nat} {kt : TypeId} {f : Value → Option AV} {st : Value → Nat} (hg : H.get m = some (.smap kt n f st c)) : Gst P H (H.put m (.map kt n f)) :=
  ⟨Nat.le_refl _, fun w S σ hs => ⟨S, hs.retell hg (by obtain ⟨g, f', es, h1, h2, _, _, h3⟩ := hs.obj m _ hg; exact ⟨g, f', h1, h2, h3⟩) (fun _ => rfl), fun _ h => h, fun _ h => .inl h, fun _ h => h.retell hg rfl⟩⟩
end
end Go.Proofs.Ytgkkilbeingleaa

/- Abstract walks at this translation. -/
namespace Go.Proofs.Ytgkkilbeingleaa
open Go.RowKit
theorem mixed : Try.prog.follows .mixedOrders = true := by kernel_rfl
end Go.Proofs.Ytgkkilbeingleaa
