/- The law TermNormal holds: whatever comes in, the call returns true and its arguments read as they did. No condition. -/
import Derived.Test.YtkocpdekknfmaaaKn19
import Derived.JoinedOf
import Derived.JoinedAt

/- The document's own normal form; what TermNormal says. -/
namespace Go.Proofs.Ytkocpdekknfmaaa
open Go.RowKit Go.Maps
mutual
/-- its numbers are such as a machine holds -/
def Tm.nums : Tm → Prop
  | ⟨_, n, _, ks⟩ => I64 n ∧ Tm.numss ks
def Tm.numss : List Tm → Prop
  | [] => True
  | t :: r => Tm.nums t ∧ Tm.numss r
end
theorem Tm.nums_mk (k n : Int) (ty : Ty) (ks : List Tm) : Tm.nums ⟨k, n, ty, ks⟩ ↔ I64 n ∧ Tm.numss ks := by rw [Tm.nums]
theorem Tm.numss_iff : ∀ {ks : List Tm}, Tm.numss ks ↔ ∀ t ∈ ks, t.nums
  | [] => by simp [Tm.numss]
  | t :: r => by rw [Tm.numss, Tm.numss_iff (ks := r)]; simp
theorem i64_wrap (x : Int) : I64 (IntKind.i64.wrap x) := by rw [IntKind.wrap_i64]; exact ⟨by omega, by omega⟩
mutual
theorem Tm.nums_lift (a : Int) : ∀ (t : Tm) (d : Int), t.nums → (Tm.lift a d t).nums
  | ⟨k, n, ty, ks⟩, d, h => by
    obtain ⟨h1, h2⟩ := (Tm.nums_mk _ _ _ _).1 h
    rw [Tm.lift_mk, Tm.nums_mk]
    refine ⟨?_, Tm.numss_lift a ks _ h2⟩
    split
    · exact i64_wrap _
    · exact h1
theorem Tm.numss_lift (a : Int) : ∀ (ks : List Tm) (d : Int), Tm.numss ks → Tm.numss (ks.map (Tm.lift a d))
  | [], d, _ => by rw [List.map_nil, Tm.numss]; trivial
  | t :: r, d, h => by
    rw [Tm.numss] at h
    rw [List.map_cons, Tm.numss]
    exact ⟨Tm.nums_lift a t d h.1, Tm.numss_lift a r d h.2⟩
end
mutual
theorem Tm.nums_put (x : Tm) (hx : x.nums) : ∀ (t : Tm) (d : Int), t.nums → (Tm.put x d t).nums
  | ⟨k, n, ty, ks⟩, d, h => by
    obtain ⟨h1, h2⟩ := (Tm.nums_mk _ _ _ _).1 h
    rw [Tm.put_mk]
    split
    · exact Tm.nums_lift _ _ _ hx
    · rw [Tm.nums_mk]
      refine ⟨?_, Tm.numss_put x hx ks _ h2⟩
      split
      · exact i64_wrap _
      · exact h1
theorem Tm.numss_put (x : Tm) (hx : x.nums) : ∀ (ks : List Tm) (d : Int), Tm.numss ks → Tm.numss (ks.map (Tm.put x d))
  | [], d, _ => by rw [List.map_nil, Tm.numss]; trivial
  | t :: r, d, h => by
    rw [Tm.numss] at h
    rw [List.map_cons, Tm.numss]
    exact ⟨Tm.nums_put x hx t d h.1, Tm.numss_put x hx r d h.2⟩
end
mutual
theorem Tm.lift_zero : ∀ (t : Tm) (d : Int), t.nums → Tm.lift 0 d t = t
  | ⟨k, n, ty, ks⟩, d, h => by
    obtain ⟨h1, h2⟩ := (Tm.nums_mk _ _ _ _).1 h
    rw [Tm.lift_mk, Tm.lift_zeros ks _ h2, Int.add_zero, wrapI h1.1 h1.2]
    simp
theorem Tm.lift_zeros : ∀ (ks : List Tm) (d : Int), Tm.numss ks → ks.map (Tm.lift 0 d) = ks
  | [], d, _ => rfl
  | t :: r, d, h => by
    rw [Tm.numss] at h
    rw [List.map_cons, Tm.lift_zero t d h.1, Tm.lift_zeros r d h.2]
end
theorem Tm.nums_kid {t x : Tm} (h : t.nums) (hx : x ∈ t.kids) : x.nums := by
  obtain ⟨k, n, ty, ks⟩ := t
  exact Tm.numss_iff.1 ((Tm.nums_mk _ _ _ _).1 h).2 x hx
theorem Tm.nums_redex {t : Tm} (h : t.nums) : t.redex.nums := by
  unfold Tm.redex
  split
  · rename_i f x r hk
    split
    · rename_i b r2 hf
      exact Tm.nums_put x (Tm.nums_kid h (by rw [hk]; simp)) b 0 (Tm.nums_kid (Tm.nums_kid h (by rw [hk]; simp : f ∈ t.kids)) (by rw [hf]; simp))
    · exact h
  · exact h
theorem Tm.nums_at : ∀ (way : List Int) (t : Tm) (b : Int), t.nums → (Tm.at_ way t b).1.nums
  | [], t, b, h => by
    rw [Tm.at_]
    split
    · split
      · exact Tm.nums_redex h
      · exact h
    · exact h
  | i :: way, t, b, h => by
    rw [Tm.at_]
    split
    · exact h
    · split
      · exact h
      · rename_i k hk
        have hkn := Tm.nums_kid h (List.mem_of_getElem? hk)
        have := Tm.nums_at way k (b + t.size - k.size) hkn
        dsimp only
        split
        · obtain ⟨kd, n, ty, ks⟩ := t
          obtain ⟨h1, h2⟩ := (Tm.nums_mk _ _ _ _).1 h
          refine (Tm.nums_mk _ _ _ _).2 ⟨h1, Tm.numss_iff.2 fun z hz => ?_⟩
          rcases List.mem_or_eq_of_mem_set hz with hz | rfl
          · exact Tm.numss_iff.1 h2 z hz
          · exact this
        · exact h
theorem Tm.nums_norm : ∀ (f : Nat) (t : Tm) (x : Tm) (m : Nat), t.nums → Tm.norm f t = some (x, m) → x.nums := by
  intro f
  induction f with
  | zero =>
    intro t x m h hn
    cases hsp : t.spots with
    | nil => rw [Tm.norm_nil hsp] at hn; injection hn with hn; injection hn with e _; subst e; exact h
    | cons s r => rw [Tm.norm_zero hsp] at hn; cases hn
  | succ f ih =>
    intro t x m h hn
    cases hsp : t.spots with
    | nil => rw [Tm.norm_nil hsp] at hn; injection hn with hn; injection hn with e _; subst e; exact h
    | cons s r =>
      rw [Tm.norm_succ hsp] at hn
      split at hn
      · cases hq : Tm.norm f (Tm.at_ s t 0).1 with
        | none => rw [hq] at hn; cases hn
        | some q =>
          rw [hq] at hn
          injection hn with hn
          injection hn with e _
          subst e
          exact ih _ q.1 q.2 (Tm.nums_at s t 0 h) hq
      · cases hn
/-- what the document says of a term that is right, n steps on -/
def normD (n : Nat) (t : Tm) : AV := if n ≤ 200 then (match Tm.norm (200 - n) t with
  | some (x, m) => .tup [x.av, iv ((n + m : Nat) : Int), iv 0]
  | none => .tup [tm0.av, iv 0, iv 7]) else .tup [tm0.av, iv 0, iv 7]
theorem normD_step {n : Nat} {t : Tm} {s : List Int} {r} (hn : n ≤ 200) (h : t.spots = s :: r) (h0 : (Tm.at_ s t 0).2 = 0) : normD n t = normD (n + 1) (Tm.at_ s t 0).1 := by
  unfold normD
  rw [if_pos hn]
  by_cases h2 : n = 200
  · subst h2
    rw [if_neg (by omega), Tm.norm_zero h]
  · obtain ⟨f, hf⟩ : ∃ f, 200 - n = f + 1 := ⟨200 - n - 1, by omega⟩
    rw [if_pos (by omega), hf, show 200 - (n + 1) = f by omega, Tm.norm_succ h, if_pos h0]
    cases Tm.norm f (Tm.at_ s t 0).1 with
    | none => rfl
    | some x => simp only [Option.map_some]; rw [show n + (x.2 + 1) = n + 1 + x.2 by omega]
set_option maxHeartbeats 4000000 in
theorem c_NormalTerm (t : Tm) (hg : t.good) (hsz : t.size ≤ 400) : PF Try.prog 11 [t.av] (normD 0 t) := fun H => tri_wf fun hw => tri_wordhoardref_NormalTerm (by
  unfold S_wordhoardref_NormalTerm
  simp (disch := first | omega | simp) [Tm.av]
  refine loop_wf (fun s : Tm × Nat => [iv s.2]) (fun s H' => H.le H' ∧ H.nx + 4 ≤ H'.nx ∧ H'.get H.nx = some (.box 27 s.1.cs) ∧ H'.get (H.nx + 1) = some (.box 27 [.p (.int .i64 0), .p (.int .i64 0), .p (.int .i64 0), .p (.int .i64 0), .p (.slice none 0 0), .p (.slice none 0 0)]) ∧ s.1.good ∧ s.1.size ≤ 400 ∧ s.2 ≤ 201 ∧ normD 0 t = normD s.2 s.1) (fun s => 201 - s.2) (t, 0) (.refl (Nat.le_refl _)) ⟨(by repeat (first | with_reducible assumption | with_reducible exact AH.le.refl _ | with_reducible apply AH.le.up | (with_reducible refine AH.le.put hw ?_ ?_; · first | omega | (simp only [up_nx, put_nx, kill_nx]; done) | (simp only [up_nx, put_nx, kill_nx]; omega)) | (with_reducible refine AH.le.kill hw ?_ ?_; · first | omega | (simp only [up_nx, put_nx, kill_nx]; done) | (simp only [up_nx, put_nx, kill_nx]; omega)))), (by first | omega | (simp only [up_nx, put_nx]; done) | (simp only [up_nx, put_nx]; omega)), by simp (disch := first | omega | simp) [put_get_ne], by simp (disch := first | omega | simp), hg, hsz, Nat.zero_le _, rfl⟩ ?_
  rintro ⟨t', n⟩ H1 hn1 hw1 ⟨hle, hn, hb1, hc1, hg', hs', hn', hnr'⟩ k hk
  dsimp only at hb1 hg' hs' hn' hnr' hk
  unfold S_wordhoardref_NormalTerm_L2
  by_cases hle2 : n ≤ 200
  · have hle2' : (n : Int) ≤ 200 := by omega
    have hiv := ivn (i := n) (by omega)
    simp (disch := first | omega | simp) [iv, Tm.cs_len, Tm.cs_take, hb1, hle2']
    refine ca_pure (by kernel_rfl) (c_RSpots t'.size t' (Nat.le_refl _) hs' hg' _) ?_
    cases hsp : t'.spots with
    | nil =>
      simp (disch := first | omega | simp) [Tm.cs_len, Tm.cs_take, hb1, hc1, wSs]
      refine rt_tup hw (by repeat (first | with_reducible assumption | with_reducible exact AH.le.refl _ | with_reducible apply AH.le.up | (with_reducible refine AH.le.put hw ?_ ?_; · first | omega | (simp only [up_nx, put_nx, kill_nx]; done) | (simp only [up_nx, put_nx, kill_nx]; omega)) | (with_reducible refine AH.le.kill hw ?_ ?_; · first | omega | (simp only [up_nx, put_nx, kill_nx]; done) | (simp only [up_nx, put_nx, kill_nx]; omega)))) (.cons (.agg (Tm.cl _ _)) (.cons (Cl.p _) (.cons (Cl.p _) .nil))) ⟨rfl, ?_⟩
      rw [hnr']; unfold normD; rw [if_pos hle2, Tm.norm_nil hsp]; rfl
    | cons s r =>
      have hne : ¬ (((r.length : Nat) : Int) + 1 = 0) := by omega
      simp (disch := first | omega | simp) [wSs, hne]
      unfold S_wordhoardref_NormalTerm_C1
      simp (disch := first | omega | simp) [Tm.cs_len, Tm.cs_take, hb1]
      refine cav_pure (by kernel_rfl) (fun H2 _ => c_StepAt s t' hg' hs' H2) ?_
      by_cases h0 : (Tm.at_ s t' 0).2 = 0
      · obtain ⟨g1, g2⟩ := Tm.at_good s t' 0 hg' h0
        simp (disch := first | omega | simp) [iv, stR, Tm.av, Tm.cs_len, Tm.cs_take, put_get_ne, hb1, h0, hiv, wf_none hw1]
        exact hk ((Tm.at_ s t' 0).1, n + 1) _ _ _ (.refl (by first | omega | (simp only [up_nx, put_nx]; done) | (simp only [up_nx, put_nx]; omega))) ⟨(by repeat (first | with_reducible assumption | with_reducible exact AH.le.refl _ | with_reducible apply AH.le.up | (with_reducible refine AH.le.put hw ?_ ?_; · first | omega | (simp only [up_nx, put_nx, kill_nx]; done) | (simp only [up_nx, put_nx, kill_nx]; omega)) | (with_reducible refine AH.le.kill hw ?_ ?_; · first | omega | (simp only [up_nx, put_nx, kill_nx]; done) | (simp only [up_nx, put_nx, kill_nx]; omega)))), (by first | omega | (simp only [up_nx, put_nx]; done) | (simp only [up_nx, put_nx]; omega)), by simp (disch := first | omega | simp) [Tm.cs_len], by simp (disch := first | omega | simp) [put_get_ne, hc1], g1, by dsimp only; omega, by dsimp only; omega, by dsimp only; rw [hnr', normD_step hle2 hsp h0]⟩ (by dsimp only; omega)
      · have h7 : (Tm.at_ s t' 0).2 = 7 := (Tm.at_spot s t' 0 (by rw [hsp]; simp)).resolve_left h0
        simp (disch := first | omega | simp) [iv, stR, Tm.av, Tm.cs_len, put_get_ne, hc1, h7, wf_none hw1]
        refine rt_tm0 hw (by repeat (first | with_reducible assumption | with_reducible exact AH.le.refl _ | with_reducible apply AH.le.up | (with_reducible refine AH.le.put hw ?_ ?_; · first | omega | (simp only [up_nx, put_nx, kill_nx]; done) | (simp only [up_nx, put_nx, kill_nx]; omega)) | (with_reducible refine AH.le.kill hw ?_ ?_; · first | omega | (simp only [up_nx, put_nx, kill_nx]; done) | (simp only [up_nx, put_nx, kill_nx]; omega)))) (by first | omega | (simp only [up_nx, put_nx]; done) | (simp only [up_nx, put_nx]; omega)) (.cons (Cl.p _) (.cons (Cl.p _) .nil)) ⟨rfl, ?_⟩
        rw [hnr']; unfold normD
        rw [if_pos hle2]
        by_cases h2 : n = 200
        · subst h2; rw [Tm.norm_zero hsp]; rfl
        · obtain ⟨f, hf⟩ : ∃ f, 200 - n = f + 1 := ⟨200 - n - 1, by omega⟩
          rw [hf, Tm.norm_succ hsp, if_neg h0]; rfl
  · have hle2' : ¬ (n : Int) ≤ 200 := by omega
    simp (disch := first | omega | simp) [iv, hc1, hle2']
    refine rt_tm0 hw (by repeat (first | with_reducible assumption | with_reducible exact AH.le.refl _ | with_reducible apply AH.le.up | (with_reducible refine AH.le.put hw ?_ ?_; · first | omega | (simp only [up_nx, put_nx, kill_nx]; done) | (simp only [up_nx, put_nx, kill_nx]; omega)) | (with_reducible refine AH.le.kill hw ?_ ?_; · first | omega | (simp only [up_nx, put_nx, kill_nx]; done) | (simp only [up_nx, put_nx, kill_nx]; omega)))) (by first | omega | (simp only [up_nx, put_nx]; done) | (simp only [up_nx, put_nx]; omega)) (.cons (Cl.p _) (.cons (Cl.p _) .nil)) ⟨rfl, ?_⟩
    rw [hnr']; unfold normD; rw [if_neg hle2]; rfl)
end Go.Proofs.Ytkocpdekknfmaaa

/- What TermNormal says. -/
namespace Go.Proofs.Ytkocpdekknfmaaa
open Go.RowKit Go.Maps
theorem tm_nums (N : Nat) : ∀ {w : World} {S : Nat → Prop} {cs : List Value} {t : Tm}, t.size ≤ N → rTm.R w S cs t → t.nums := by
  induction N with
  | zero => intro w S cs t ht; have := t.size_pos; omega
  | succ N ih =>
    intro w S cs t ht h
    obtain ⟨At, ct, A, c, _, hi, _, hs⟩ := tm_open h
    have hsz := t.size_eq
    have hk : ∀ x ∈ t.kids, x.nums := fun x hx => by
      obtain ⟨i, hi⟩ := List.getElem?_of_mem hx
      obtain ⟨ad, u, _, _, hr, _⟩ := hs.2.2 i x hi
      have := Tm.sizes_mem hx
      exact ih (by omega) hr
    obtain ⟨k, n, ty, ks⟩ := t
    exact (Tm.nums_mk _ _ _ _).2 ⟨hi.2.1, Tm.numss_iff.2 hk⟩
theorem norm_both (t : Tm) (hn : t.nums) : ∃ (x : Tm) (m e : Int), normA 0 t = .tup [x.av, iv m, iv e] ∧ normD 0 t = .tup [x.av, iv m, iv e] := by
  unfold normA normD
  rw [if_pos (by decide)]
  cases hq : Tm.norm (200 - 0) t with
  | none => exact ⟨tm0, 0, 7, rfl, rfl⟩
  | some q =>
    obtain ⟨x, m⟩ := q
    exact ⟨x, ((0 + m : Nat) : Int), 0, by simp only; rw [Tm.lift_zero x 0 (Tm.nums_norm _ _ _ _ hn hq)], rfl⟩
theorem c_TermNormal (t : Tm) (hn : t.nums) : PF Try.prog 3 [t.av] (bv true) := fun H => tri_wf fun hw => tri_wordhoardlaw_TermNormal (by
  unfold S_wordhoardlaw_TermNormal
  simp (disch := first | omega | simp) [Tm.av, Tm.cs_len, Tm.cs_take]
  refine ca_pure (by kernel_rfl) (c_Normal t _) ?_
  by_cases hc : t.check = 0
  · obtain ⟨hwr, hsz⟩ := Tm.check_ok hc
    have hg := Tm.good_of t.size t (Nat.le_refl _) hwr
    obtain ⟨x, m, e, h1, h2⟩ := norm_both t hn
    rw [show normR t = normA 0 t by unfold normR; rw [if_pos hc], h1]
    simp (disch := first | omega | simp) [iv, Tm.av, Tm.cs_len, Tm.cs_take, put_get_ne]
    refine ca_pure (by kernel_rfl) (c_RCheckTerm t _) ?_
    rw [hc]
    refine ca_pure (by kernel_rfl) (c_begun _) ?_
    simp (disch := first | omega | simp) [iv, bv]
    unfold S_wordhoardlaw_TermNormal_C1
    simp (disch := first | omega | simp) [Tm.cs_len, Tm.cs_take, put_get_ne]
    refine ca_pure (by kernel_rfl) (c_NormalTerm t hg hsz _) ?_
    rw [h2]
    simp (disch := first | omega | simp) [iv, Tm.av, Tm.cs_len, Tm.cs_take, put_get_ne]
    refine ca_pure (by kernel_rfl) (c_RSameTerm x.size x x (Nat.le_refl _) _) ?_
    rw [Tm.same_refl]
    simp (disch := first | omega | simp) [bv]
    exact rt_one hw (by repeat (first | with_reducible assumption | with_reducible exact AH.le.refl _ | with_reducible apply AH.le.up | (with_reducible refine AH.le.put hw ?_ ?_; · first | omega | (simp only [up_nx, put_nx, kill_nx]; done) | (simp only [up_nx, put_nx, kill_nx]; omega)) | (with_reducible refine AH.le.kill hw ?_ ?_; · first | omega | (simp only [up_nx, put_nx, kill_nx]; done) | (simp only [up_nx, put_nx, kill_nx]; omega)))) (by repeat (first | exact Cl.p _ | exact Cl.dsl _ _ | exact Cl.any | refine Cl.tup ?_ | refine Cl.agg ?_ | exact Clo.nil | refine Clo.cons ?_ ?_)) ⟨rfl, rfl⟩
  · rw [show normR t = .tup [tm0.av, iv 0, iv t.check] by unfold normR; rw [if_neg hc]]
    simp (disch := first | omega | simp) [iv, Tm.av, Tm.cs_len, Tm.cs_take, put_get_ne]
    refine ca_pure (by kernel_rfl) (c_RCheckTerm t _) ?_
    refine ca_pure (by kernel_rfl) (c_begun _) ?_
    simp (disch := first | omega | simp) [iv, bv]
    unfold S_wordhoardlaw_TermNormal_C1
    simp (disch := first | omega | simp) [Tm.cs_len, Tm.cs_take, hc]
    refine ca_pure (r := bv true) (by kernel_rfl) (Tri.args (qs := [tm0.av, tm0.av]) (.cons (.refl _) (.cons ?_ .nil)) (by rw [← Tm.same_refl tm0]; exact c_RSameTerm tm0.size tm0 tm0 (Nat.le_refl _) _)) ?_
    · rw [Tm.av, tm0_cs]
      exact .agg (.cons (.refl _) (.cons (.refl _) (.cons (.refl _) (.cons (.refl _) (.cons (.nil _ _ (Nat.zero_le _)) (.cons (.nil _ _ (Nat.zero_le _)) .nil))))))
    simp (disch := first | omega | simp) [bv]
    exact rt_one hw (by repeat (first | with_reducible assumption | with_reducible exact AH.le.refl _ | with_reducible apply AH.le.up | (with_reducible refine AH.le.put hw ?_ ?_; · first | omega | (simp only [up_nx, put_nx, kill_nx]; done) | (simp only [up_nx, put_nx, kill_nx]; omega)) | (with_reducible refine AH.le.kill hw ?_ ?_; · first | omega | (simp only [up_nx, put_nx, kill_nx]; done) | (simp only [up_nx, put_nx, kill_nx]; omega)))) (by repeat (first | exact Cl.p _ | exact Cl.dsl _ _ | exact Cl.any | refine Cl.tup ?_ | refine Cl.agg ?_ | exact Clo.nil | refine Clo.cons ?_ ?_)) ⟨rfl, rfl⟩)
theorem w_TermNormal (t : Tm) (hn : t.nums) (H : AH) : Tri Try.prog 3 [.agg (id t).cs] H (fun v _ => v = .p (.bool true)) := (c_TermNormal t hn H).mono fun _v _H' h => h.2
end Go.Proofs.Ytkocpdekknfmaaa

namespace Go.Proofs.Ytkocpdekknfmaaa.termNormal
open Go.ChangeShapes Go.WideShapes Go.ChangeAt Go.RowKit
open Go.ChangeMaps (open_string shut_string)

theorem contract (H : Type) (enc : TypeId × Value → H) (W : World) (base : Nat) (args : Array Value) (ds gs : List (DataW H)) (before : List MemPlace)
    (hval : ∀ (j : Nat) t v, Try.f3.params[j]? = some t → args[j]? = some v → Value.okWide Try.prog W .any base t v)
    (hW : DataW.Whole enc Try.prog Try.f3.params.toList Rows.termNormalSpec.vars false W args.toList ds gs before) :
    Calls Try.prog 3 args W fun e W' => ∃ v, e = .returned v ∧ Rows.termNormalSpec.post enc Try.prog Try.f3 false true false false W args v W' := by
  have hW' := hW
  obtain ⟨p, q, hA0, hV, rfl, hfz, hnd⟩ := hW
  have hA : DataW.TrodAll enc Try.prog W 0 (fun _ => true) true Try.f3.params.toList args.toList ds p := hA0
  rw [Try.params3] at hA hval
  obtain ⟨v0, d0, rfl, rfl, h0⟩ := trodAll_one hA
  obtain ⟨rfl, rfl⟩ := trodVars_none hV
  obtain ⟨cs0, x0, rfl, hs0, hb0⟩ := arg_struct opens_tm Try.underlying27 (hval 0 27 v0 rfl rfl) h0
  obtain ⟨k0, r0⟩ := (avs_tm).agg (σ' := fun _ => none) hs0
  refine (law_calls (us := [.agg cs0]) (w_TermNormal x0 (tm_nums _ (Nat.le_refl _) hs0) _) (.cons r0 .nil)).mono fun e W' ⟨he, hg⟩ => ?_
  subst he
  exact ⟨_, rfl, post_true rfl Try.underlying4 rfl laidOut (by kernel_rfl) hW' rfl hg⟩

set_option maxRecDepth 100000 in
theorem lifted (os : Os) (started : os.Started) (H : Type) (enc : TypeId × Value → H) :
    ReturnsInHanded {} Try.checked os 3 .any (Rows.termNormalSpec.pre6 enc Try.prog Try.f3 Rows.termNormalRow.domain false) (Rows.termNormalSpec.post enc Try.prog Try.f3 false true false false) := by
  refine returnsInHanded_of_change (C := Try.checked) own started (by kernel_rfl) Try.func3
    (ChangeSpec.witness6 (enc := enc) (C := Try.checked) false ⟨#[], #[.agg #[.int .i64 0,.int .i64 0,.int .i64 0,.int .i64 0,.slice none 0 0,.slice none 0 0]], []⟩ 8 (by kernel_rfl) (by kernel_rfl) (by kernel_rfl) (by kernel_rfl)) ?_
  intro W base args ds gs before hval hW _ _
  exact contract H enc W base args ds gs before hval hW

theorem proved : Rows.TermNormalSaid :=
  OpenClaim.holds_of_wide 3 Try.f3 rfl rfl rfl rfl rfl rfl rfl ⟨rfl, rfl, rfl, rfl, rfl⟩ rfl rfl rfl rfl rfl (by kernel_rfl) Try.func3 (by kernel_rfl)
    (of_decide_eq_true (by kernel_rfl)) (by unfold Func.isWrapper; first | (rw [if_pos (by decide +kernel)]; kernel_rfl) | (rw [if_neg (by decide +kernel)]; exact ⟨rfl, rfl⟩))
    (fun os started H enc _ => lifted os started H enc)
end Go.Proofs.Ytkocpdekknfmaaa.termNormal
