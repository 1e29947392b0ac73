/- The law TermSteps holds: whatever comes in, the call returns true and its arguments read as they did. No condition. -/
import Derived.Test.YtkocpdekknfmaaaKs21
import Derived.JoinedOf
import Derived.JoinedAt

/- The document's own normal form; what TermNormal says. -/
namespace Go.Proofs.Ytkocpdekknfmaaa
open Go.RowKit Go.Maps
mutual
/-- its numbers are such as a machine holds -/
def Tm.nums : Tm → Prop
  | ⟨_, n, _, ks⟩ => I64 n ∧ Tm.numss ks
def Tm.numss : List Tm → Prop
  | [] => True
  | t :: r => Tm.nums t ∧ Tm.numss r
end
theorem Tm.nums_mk (k n : Int) (ty : Ty) (ks : List Tm) : Tm.nums ⟨k, n, ty, ks⟩ ↔ I64 n ∧ Tm.numss ks := by rw [Tm.nums]
theorem Tm.numss_iff : ∀ {ks : List Tm}, Tm.numss ks ↔ ∀ t ∈ ks, t.nums
  | [] => by simp [Tm.numss]
  | t :: r => by rw [Tm.numss, Tm.numss_iff (ks := r)]; simp
theorem i64_wrap (x : Int) : I64 (IntKind.i64.wrap x) := by rw [IntKind.wrap_i64]; exact ⟨by omega, by omega⟩
mutual
theorem Tm.nums_lift (a : Int) : ∀ (t : Tm) (d : Int), t.nums → (Tm.lift a d t).nums
  | ⟨k, n, ty, ks⟩, d, h => by
    obtain ⟨h1, h2⟩ := (Tm.nums_mk _ _ _ _).1 h
    rw [Tm.lift_mk, Tm.nums_mk]
    refine ⟨?_, Tm.numss_lift a ks _ h2⟩
    split
    · exact i64_wrap _
    · exact h1
theorem Tm.numss_lift (a : Int) : ∀ (ks : List Tm) (d : Int), Tm.numss ks → Tm.numss (ks.map (Tm.lift a d))
  | [], d, _ => by rw [List.map_nil, Tm.numss]; trivial
  | t :: r, d, h => by
    rw [Tm.numss] at h
    rw [List.map_cons, Tm.numss]
    exact ⟨Tm.nums_lift a t d h.1, Tm.numss_lift a r d h.2⟩
end
mutual
theorem Tm.nums_put (x : Tm) (hx : x.nums) : ∀ (t : Tm) (d : Int), t.nums → (Tm.put x d t).nums
  | ⟨k, n, ty, ks⟩, d, h => by
    obtain ⟨h1, h2⟩ := (Tm.nums_mk _ _ _ _).1 h
    rw [Tm.put_mk]
    split
    · exact Tm.nums_lift _ _ _ hx
    · rw [Tm.nums_mk]
      refine ⟨?_, Tm.numss_put x hx ks _ h2⟩
      split
      · exact i64_wrap _
      · exact h1
theorem Tm.numss_put (x : Tm) (hx : x.nums) : ∀ (ks : List Tm) (d : Int), Tm.numss ks → Tm.numss (ks.map (Tm.put x d))
  | [], d, _ => by rw [List.map_nil, Tm.numss]; trivial
  | t :: r, d, h => by
    rw [Tm.numss] at h
    rw [List.map_cons, Tm.numss]
    exact ⟨Tm.nums_put x hx t d h.1, Tm.numss_put x hx r d h.2⟩
end
mutual
theorem Tm.lift_zero : ∀ (t : Tm) (d : Int), t.nums → Tm.lift 0 d t = t
  | ⟨k, n, ty, ks⟩, d, h => by
    obtain ⟨h1, h2⟩ := (Tm.nums_mk _ _ _ _).1 h
    rw [Tm.lift_mk, Tm.lift_zeros ks _ h2, Int.add_zero, wrapI h1.1 h1.2]
    simp
theorem Tm.lift_zeros : ∀ (ks : List Tm) (d : Int), Tm.numss ks → ks.map (Tm.lift 0 d) = ks
  | [], d, _ => rfl
  | t :: r, d, h => by
    rw [Tm.numss] at h
    rw [List.map_cons, Tm.lift_zero t d h.1, Tm.lift_zeros r d h.2]
end
theorem Tm.nums_kid {t x : Tm} (h : t.nums) (hx : x ∈ t.kids) : x.nums := by
  obtain ⟨k, n, ty, ks⟩ := t
  exact Tm.numss_iff.1 ((Tm.nums_mk _ _ _ _).1 h).2 x hx
theorem Tm.nums_redex {t : Tm} (h : t.nums) : t.redex.nums := by
  unfold Tm.redex
  split
  · rename_i f x r hk
    split
    · rename_i b r2 hf
      exact Tm.nums_put x (Tm.nums_kid h (by rw [hk]; simp)) b 0 (Tm.nums_kid (Tm.nums_kid h (by rw [hk]; simp : f ∈ t.kids)) (by rw [hf]; simp))
    · exact h
  · exact h
theorem Tm.nums_at : ∀ (way : List Int) (t : Tm) (b : Int), t.nums → (Tm.at_ way t b).1.nums
  | [], t, b, h => by
    rw [Tm.at_]
    split
    · split
      · exact Tm.nums_redex h
      · exact h
    · exact h
  | i :: way, t, b, h => by
    rw [Tm.at_]
    split
    · exact h
    · split
      · exact h
      · rename_i k hk
        have hkn := Tm.nums_kid h (List.mem_of_getElem? hk)
        have := Tm.nums_at way k (b + t.size - k.size) hkn
        dsimp only
        split
        · obtain ⟨kd, n, ty, ks⟩ := t
          obtain ⟨h1, h2⟩ := (Tm.nums_mk _ _ _ _).1 h
          refine (Tm.nums_mk _ _ _ _).2 ⟨h1, Tm.numss_iff.2 fun z hz => ?_⟩
          rcases List.mem_or_eq_of_mem_set hz with hz | rfl
          · exact Tm.numss_iff.1 h2 z hz
          · exact this
        · exact h
theorem Tm.nums_norm : ∀ (f : Nat) (t : Tm) (x : Tm) (m : Nat), t.nums → Tm.norm f t = some (x, m) → x.nums := by
  intro f
  induction f with
  | zero =>
    intro t x m h hn
    cases hsp : t.spots with
    | nil => rw [Tm.norm_nil hsp] at hn; injection hn with hn; injection hn with e _; subst e; exact h
    | cons s r => rw [Tm.norm_zero hsp] at hn; cases hn
  | succ f ih =>
    intro t x m h hn
    cases hsp : t.spots with
    | nil => rw [Tm.norm_nil hsp] at hn; injection hn with hn; injection hn with e _; subst e; exact h
    | cons s r =>
      rw [Tm.norm_succ hsp] at hn
      split at hn
      · cases hq : Tm.norm f (Tm.at_ s t 0).1 with
        | none => rw [hq] at hn; cases hn
        | some q =>
          rw [hq] at hn
          injection hn with hn
          injection hn with e _
          subst e
          exact ih _ q.1 q.2 (Tm.nums_at s t 0 h) hq
      · cases hn
/-- what the document says of a term that is right, n steps on -/
def normD (n : Nat) (t : Tm) : AV := if n ≤ 200 then (match Tm.norm (200 - n) t with
  | some (x, m) => .tup [x.av, iv ((n + m : Nat) : Int), iv 0]
  | none => .tup [tm0.av, iv 0, iv 7]) else .tup [tm0.av, iv 0, iv 7]
theorem normD_step {n : Nat} {t : Tm} {s : List Int} {r} (hn : n ≤ 200) (h : t.spots = s :: r) (h0 : (Tm.at_ s t 0).2 = 0) : normD n t = normD (n + 1) (Tm.at_ s t 0).1 := by
  unfold normD
  rw [if_pos hn]
  by_cases h2 : n = 200
  · subst h2
    rw [if_neg (by omega), Tm.norm_zero h]
  · obtain ⟨f, hf⟩ : ∃ f, 200 - n = f + 1 := ⟨200 - n - 1, by omega⟩
    rw [if_pos (by omega), hf, show 200 - (n + 1) = f by omega, Tm.norm_succ h, if_pos h0]
    cases Tm.norm f (Tm.at_ s t 0).1 with
    | none => rfl
    | some x => simp only [Option.map_some]; rw [show n + (x.2 + 1) = n + 1 + x.2 by omega]
set_option maxHeartbeats 4000000 in
theorem c_NormalTerm (t : Tm) (hg : t.good) (hsz : t.size ≤ 400) : PF Try.prog 11 [t.av] (normD 0 t) := fun H => tri_wf fun hw => tri_wordhoardref_NormalTerm (by
  unfold S_wordhoardref_NormalTerm
  simp (disch := first | omega | simp) [Tm.av]
  refine loop_wf (fun s : Tm × Nat => [iv s.2]) (fun s H' => H.le H' ∧ H.nx + 4 ≤ H'.nx ∧ H'.get H.nx = some (.box 27 s.1.cs) ∧ H'.get (H.nx + 1) = some (.box 27 [.p (.int .i64 0), .p (.int .i64 0), .p (.int .i64 0), .p (.int .i64 0), .p (.slice none 0 0), .p (.slice none 0 0)]) ∧ s.1.good ∧ s.1.size ≤ 400 ∧ s.2 ≤ 201 ∧ normD 0 t = normD s.2 s.1) (fun s => 201 - s.2) (t, 0) (.refl (Nat.le_refl _)) ⟨(by repeat (first | with_reducible assumption | with_reducible exact AH.le.refl _ | with_reducible apply AH.le.up | (with_reducible refine AH.le.put hw ?_ ?_; · first | omega | (simp only [up_nx, put_nx, kill_nx]; done) | (simp only [up_nx, put_nx, kill_nx]; omega)) | (with_reducible refine AH.le.kill hw ?_ ?_; · first | omega | (simp only [up_nx, put_nx, kill_nx]; done) | (simp only [up_nx, put_nx, kill_nx]; omega)))), (by first | omega | (simp only [up_nx, put_nx]; done) | (simp only [up_nx, put_nx]; omega)), by simp (disch := first | omega | simp) [put_get_ne], by simp (disch := first | omega | simp), hg, hsz, Nat.zero_le _, rfl⟩ ?_
  rintro ⟨t', n⟩ H1 hn1 hw1 ⟨hle, hn, hb1, hc1, hg', hs', hn', hnr'⟩ k hk
  dsimp only at hb1 hg' hs' hn' hnr' hk
  unfold S_wordhoardref_NormalTerm_L2
  by_cases hle2 : n ≤ 200
  · have hle2' : (n : Int) ≤ 200 := by omega
    have hiv := ivn (i := n) (by omega)
    simp (disch := first | omega | simp) [iv, Tm.cs_len, Tm.cs_take, hb1, hle2']
    refine ca_pure (by kernel_rfl) (c_RSpots t'.size t' (Nat.le_refl _) hs' hg' _) ?_
    cases hsp : t'.spots with
    | nil =>
      simp (disch := first | omega | simp) [Tm.cs_len, Tm.cs_take, hb1, hc1, wSs]
      refine rt_tup hw (by repeat (first | with_reducible assumption | with_reducible exact AH.le.refl _ | with_reducible apply AH.le.up | (with_reducible refine AH.le.put hw ?_ ?_; · first | omega | (simp only [up_nx, put_nx, kill_nx]; done) | (simp only [up_nx, put_nx, kill_nx]; omega)) | (with_reducible refine AH.le.kill hw ?_ ?_; · first | omega | (simp only [up_nx, put_nx, kill_nx]; done) | (simp only [up_nx, put_nx, kill_nx]; omega)))) (.cons (.agg (Tm.cl _ _)) (.cons (Cl.p _) (.cons (Cl.p _) .nil))) ⟨rfl, ?_⟩
      rw [hnr']; unfold normD; rw [if_pos hle2, Tm.norm_nil hsp]; rfl
    | cons s r =>
      have hne : ¬ (((r.length : Nat) : Int) + 1 = 0) := by omega
      simp (disch := first | omega | simp) [wSs, hne]
      unfold S_wordhoardref_NormalTerm_C1
      simp (disch := first | omega | simp) [Tm.cs_len, Tm.cs_take, hb1]
      refine cav_pure (by kernel_rfl) (fun H2 _ => c_StepAt s t' hg' hs' H2) ?_
      by_cases h0 : (Tm.at_ s t' 0).2 = 0
      · obtain ⟨g1, g2⟩ := Tm.at_good s t' 0 hg' h0
        simp (disch := first | omega | simp) [iv, stR, Tm.av, Tm.cs_len, Tm.cs_take, put_get_ne, hb1, h0, hiv, wf_none hw1]
        exact hk ((Tm.at_ s t' 0).1, n + 1) _ _ _ (.refl (by first | omega | (simp only [up_nx, put_nx]; done) | (simp only [up_nx, put_nx]; omega))) ⟨(by repeat (first | with_reducible assumption | with_reducible exact AH.le.refl _ | with_reducible apply AH.le.up | (with_reducible refine AH.le.put hw ?_ ?_; · first | omega | (simp only [up_nx, put_nx, kill_nx]; done) | (simp only [up_nx, put_nx, kill_nx]; omega)) | (with_reducible refine AH.le.kill hw ?_ ?_; · first | omega | (simp only [up_nx, put_nx, kill_nx]; done) | (simp only [up_nx, put_nx, kill_nx]; omega)))), (by first | omega | (simp only [up_nx, put_nx]; done) | (simp only [up_nx, put_nx]; omega)), by simp (disch := first | omega | simp) [Tm.cs_len], by simp (disch := first | omega | simp) [put_get_ne, hc1], g1, by dsimp only; omega, by dsimp only; omega, by dsimp only; rw [hnr', normD_step hle2 hsp h0]⟩ (by dsimp only; omega)
      · have h7 : (Tm.at_ s t' 0).2 = 7 := (Tm.at_spot s t' 0 (by rw [hsp]; simp)).resolve_left h0
        simp (disch := first | omega | simp) [iv, stR, Tm.av, Tm.cs_len, put_get_ne, hc1, h7, wf_none hw1]
        refine rt_tm0 hw (by repeat (first | with_reducible assumption | with_reducible exact AH.le.refl _ | with_reducible apply AH.le.up | (with_reducible refine AH.le.put hw ?_ ?_; · first | omega | (simp only [up_nx, put_nx, kill_nx]; done) | (simp only [up_nx, put_nx, kill_nx]; omega)) | (with_reducible refine AH.le.kill hw ?_ ?_; · first | omega | (simp only [up_nx, put_nx, kill_nx]; done) | (simp only [up_nx, put_nx, kill_nx]; omega)))) (by first | omega | (simp only [up_nx, put_nx]; done) | (simp only [up_nx, put_nx]; omega)) (.cons (Cl.p _) (.cons (Cl.p _) .nil)) ⟨rfl, ?_⟩
        rw [hnr']; unfold normD
        rw [if_pos hle2]
        by_cases h2 : n = 200
        · subst h2; rw [Tm.norm_zero hsp]; rfl
        · obtain ⟨f, hf⟩ : ∃ f, 200 - n = f + 1 := ⟨200 - n - 1, by omega⟩
          rw [hf, Tm.norm_succ hsp, if_neg h0]; rfl
  · have hle2' : ¬ (n : Int) ≤ 200 := by omega
    simp (disch := first | omega | simp) [iv, hc1, hle2']
    refine rt_tm0 hw (by repeat (first | with_reducible assumption | with_reducible exact AH.le.refl _ | with_reducible apply AH.le.up | (with_reducible refine AH.le.put hw ?_ ?_; · first | omega | (simp only [up_nx, put_nx, kill_nx]; done) | (simp only [up_nx, put_nx, kill_nx]; omega)) | (with_reducible refine AH.le.kill hw ?_ ?_; · first | omega | (simp only [up_nx, put_nx, kill_nx]; done) | (simp only [up_nx, put_nx, kill_nx]; omega)))) (by first | omega | (simp only [up_nx, put_nx]; done) | (simp only [up_nx, put_nx]; omega)) (.cons (Cl.p _) (.cons (Cl.p _) .nil)) ⟨rfl, ?_⟩
    rw [hnr']; unfold normD; rw [if_neg hle2]; rfl)
end Go.Proofs.Ytkocpdekknfmaaa

/- What TermNormal says. -/
namespace Go.Proofs.Ytkocpdekknfmaaa
open Go.RowKit Go.Maps
theorem tm_nums (N : Nat) : ∀ {w : World} {S : Nat → Prop} {cs : List Value} {t : Tm}, t.size ≤ N → rTm.R w S cs t → t.nums := by
  induction N with
  | zero => intro w S cs t ht; have := t.size_pos; omega
  | succ N ih =>
    intro w S cs t ht h
    obtain ⟨At, ct, A, c, _, hi, _, hs⟩ := tm_open h
    have hsz := t.size_eq
    have hk : ∀ x ∈ t.kids, x.nums := fun x hx => by
      obtain ⟨i, hi⟩ := List.getElem?_of_mem hx
      obtain ⟨ad, u, _, _, hr, _⟩ := hs.2.2 i x hi
      have := Tm.sizes_mem hx
      exact ih (by omega) hr
    obtain ⟨k, n, ty, ks⟩ := t
    exact (Tm.nums_mk _ _ _ _).2 ⟨hi.2.1, Tm.numss_iff.2 hk⟩
theorem norm_both (t : Tm) (hn : t.nums) : ∃ (x : Tm) (m e : Int), normA 0 t = .tup [x.av, iv m, iv e] ∧ normD 0 t = .tup [x.av, iv m, iv e] := by
  unfold normA normD
  rw [if_pos (by decide)]
  cases hq : Tm.norm (200 - 0) t with
  | none => exact ⟨tm0, 0, 7, rfl, rfl⟩
  | some q =>
    obtain ⟨x, m⟩ := q
    exact ⟨x, ((0 + m : Nat) : Int), 0, by simp only; rw [Tm.lift_zero x 0 (Tm.nums_norm _ _ _ _ hn hq)], rfl⟩
theorem c_TermNormal (t : Tm) (hn : t.nums) : PF Try.prog 3 [t.av] (bv true) := fun H => tri_wf fun hw => tri_wordhoardlaw_TermNormal (by
  unfold S_wordhoardlaw_TermNormal
  simp (disch := first | omega | simp) [Tm.av, Tm.cs_len, Tm.cs_take]
  refine ca_pure (by kernel_rfl) (c_Normal t _) ?_
  by_cases hc : t.check = 0
  · obtain ⟨hwr, hsz⟩ := Tm.check_ok hc
    have hg := Tm.good_of t.size t (Nat.le_refl _) hwr
    obtain ⟨x, m, e, h1, h2⟩ := norm_both t hn
    rw [show normR t = normA 0 t by unfold normR; rw [if_pos hc], h1]
    simp (disch := first | omega | simp) [iv, Tm.av, Tm.cs_len, Tm.cs_take, put_get_ne]
    refine ca_pure (by kernel_rfl) (c_RCheckTerm t _) ?_
    rw [hc]
    refine ca_pure (by kernel_rfl) (c_begun _) ?_
    simp (disch := first | omega | simp) [iv, bv]
    unfold S_wordhoardlaw_TermNormal_C1
    simp (disch := first | omega | simp) [Tm.cs_len, Tm.cs_take, put_get_ne]
    refine ca_pure (by kernel_rfl) (c_NormalTerm t hg hsz _) ?_
    rw [h2]
    simp (disch := first | omega | simp) [iv, Tm.av, Tm.cs_len, Tm.cs_take, put_get_ne]
    refine ca_pure (by kernel_rfl) (c_RSameTerm x.size x x (Nat.le_refl _) _) ?_
    rw [Tm.same_refl]
    simp (disch := first | omega | simp) [bv]
    exact rt_one hw (by repeat (first | with_reducible assumption | with_reducible exact AH.le.refl _ | with_reducible apply AH.le.up | (with_reducible refine AH.le.put hw ?_ ?_; · first | omega | (simp only [up_nx, put_nx, kill_nx]; done) | (simp only [up_nx, put_nx, kill_nx]; omega)) | (with_reducible refine AH.le.kill hw ?_ ?_; · first | omega | (simp only [up_nx, put_nx, kill_nx]; done) | (simp only [up_nx, put_nx, kill_nx]; omega)))) (by repeat (first | exact Cl.p _ | exact Cl.dsl _ _ | exact Cl.any | refine Cl.tup ?_ | refine Cl.agg ?_ | exact Clo.nil | refine Clo.cons ?_ ?_)) ⟨rfl, rfl⟩
  · rw [show normR t = .tup [tm0.av, iv 0, iv t.check] by unfold normR; rw [if_neg hc]]
    simp (disch := first | omega | simp) [iv, Tm.av, Tm.cs_len, Tm.cs_take, put_get_ne]
    refine ca_pure (by kernel_rfl) (c_RCheckTerm t _) ?_
    refine ca_pure (by kernel_rfl) (c_begun _) ?_
    simp (disch := first | omega | simp) [iv, bv]
    unfold S_wordhoardlaw_TermNormal_C1
    simp (disch := first | omega | simp) [Tm.cs_len, Tm.cs_take, hc]
    refine ca_pure (r := bv true) (by kernel_rfl) (Tri.args (qs := [tm0.av, tm0.av]) (.cons (.refl _) (.cons ?_ .nil)) (by rw [← Tm.same_refl tm0]; exact c_RSameTerm tm0.size tm0 tm0 (Nat.le_refl _) _)) ?_
    · rw [Tm.av, tm0_cs]
      exact .agg (.cons (.refl _) (.cons (.refl _) (.cons (.refl _) (.cons (.refl _) (.cons (.nil _ _ (Nat.zero_le _)) (.cons (.nil _ _ (Nat.zero_le _)) .nil))))))
    simp (disch := first | omega | simp) [bv]
    exact rt_one hw (by repeat (first | with_reducible assumption | with_reducible exact AH.le.refl _ | with_reducible apply AH.le.up | (with_reducible refine AH.le.put hw ?_ ?_; · first | omega | (simp only [up_nx, put_nx, kill_nx]; done) | (simp only [up_nx, put_nx, kill_nx]; omega)) | (with_reducible refine AH.le.kill hw ?_ ?_; · first | omega | (simp only [up_nx, put_nx, kill_nx]; done) | (simp only [up_nx, put_nx, kill_nx]; omega)))) (by repeat (first | exact Cl.p _ | exact Cl.dsl _ _ | exact Cl.any | refine Cl.tup ?_ | refine Cl.agg ?_ | exact Clo.nil | refine Clo.cons ?_ ?_)) ⟨rfl, rfl⟩)
theorem w_TermNormal (t : Tm) (hn : t.nums) (H : AH) : Tri Try.prog 3 [.agg (id t).cs] H (fun v _ => v = .p (.bool true)) := (c_TermNormal t hn H).mono fun _v _H' h => h.2
end Go.Proofs.Ytkocpdekknfmaaa

/- The spots by a walk that appends to its way. -/
namespace Go.Proofs.Ytkocpdekknfmaaa
open Go.RowKit Go.Maps
/-- a way: nil, or a slice of one's own whose capacity is known -/
def WayAt (H : AH) (a : AV) (l : List Int) : Prop := (a = .p (.slice none 0 0) ∧ l = []) ∨ ∃ r c, a = .osl r 1 0 l.length ∧ H.get r = some (.crow 3 1 c (l.map fun x => [iv x])) ∧ 0 < l.length ∧ l.length ≤ c
theorem c_CloneW {H : AH} {a : AV} (l : List Int) (hb : l.length ≤ 1000) (ha : WayAt H a l) : Tri Try.prog 32 [a] H (fun v H' => H' = H ∧ v = wE l) := tri_wf fun hw => by
  have hml : maxLen = 9223372036854775807 := by decide
  have hu : ∃ e, Try.prog.underlying 35 = some (.slice e) := ⟨3, by kernel_rfl⟩
  refine tri_slices_Clone_s_int_int ?_
  unfold S_slices_Clone_s_int_int
  rcases ha with ⟨rfl, rfl⟩ | ⟨r, c, rfl, hg, hpos, hlc⟩
  · simp
    exact rt_sub (v' := wE []) hw (.refl _) (Nat.le_refl _) (.nil _ _ (Nat.zero_le _)) (wE_cl _ _) ⟨rfl, rfl⟩
  · have hr : r < H.nx := (hw _ _ hg).1
    have hll : (l.map fun x => [iv x]).length = l.length := by simp
    have hdt := dt_ints l
    unfold wE
    generalize (l.map fun x => [iv x]) = ys at *
    simp (disch := first | omega | simp) [hg, put_get_ne, hll]
    refine ⟨hpos, by omega, by omega, ?_⟩
    rw [List.take_of_length_le (by omega), ← hll]
    refine Grows.rt (t := 3) (.row (by first | omega | (simp only [up_nx, put_nx, kill_nx]; done) | (simp only [up_nx, put_nx, kill_nx]; omega)) (by first | omega | (simp only [up_nx, put_nx, kill_nx]; done) | (simp only [up_nx, put_nx, kill_nx]; omega)) (put_get _ _) hdt rfl) hw (by repeat (first | with_reducible assumption | with_reducible exact AH.le.refl _ | with_reducible apply AH.le.up | (with_reducible refine AH.le.put hw ?_ ?_; · first | omega | (simp only [up_nx, put_nx, kill_nx]; done) | (simp only [up_nx, put_nx, kill_nx]; omega)) | (with_reducible refine AH.le.kill hw ?_ ?_; · first | omega | (simp only [up_nx, put_nx, kill_nx]; done) | (simp only [up_nx, put_nx, kill_nx]; omega)))) (by first | omega | (simp only [up_nx, put_nx, kill_nx]; done) | (simp only [up_nx, put_nx, kill_nx]; omega)) ⟨rfl, rfl⟩
/-- what a step of the walk leaves: out holds more; all else is as it was -/
def Left (o : Nat) (u u' : AV) (H H' : AH) : Prop := H.nx ≤ H'.nx ∧ ∀ j, j < H.nx → j ≠ o → (∀ n, u ≠ .osl j 1 0 n) → H'.get j = H.get j ∧ ∀ n, u' ≠ .osl j 1 0 n
theorem Left.refl (o : Nat) (u : AV) (H : AH) : Left o u u H H := ⟨Nat.le_refl _, fun _ _ _ h => ⟨rfl, h⟩⟩
theorem Left.trans {o : Nat} {u u1 u2 : AV} {H H1 H2 : AH} (h : Left o u u1 H H1) (k : Left o u1 u2 H1 H2) : Left o u u2 H H2 := ⟨Nat.le_trans h.1 k.1, fun j hj hjo hu => by
  obtain ⟨h1, h2⟩ := h.2 j hj hjo hu
  obtain ⟨k1, k2⟩ := k.2 j (Nat.lt_of_lt_of_le hj h.1) hjo h2
  exact ⟨k1.trans h1, k2⟩⟩
def OutAt (o : Nat) (G H : AH) (u : AV) (acc : List (List Int)) : Prop := H.get o = some (.box 36 [u]) ∧ Grows 35 1 G H u (wSs acc) ∧ o < G.nx
def WalkAt (o p : Nat) (H : AH) : Prop := ∃ tt, H.get p = some (.box tt [.fn (.func 30) [] [.ptr o 0, .ptr p 0]])
theorem way_off {H : AH} {u : AV} {G : AH} {acc : List (List Int)} {r c : Nat} {es : List (List AV)} (hg : Grows 35 1 G H u (wSs acc)) (hr : H.get r = some (.crow 3 1 c es)) : ∀ n, u ≠ .osl r 1 0 n := fun n hu => by
  rcases hg with ⟨rfl, _⟩ | ⟨q, xs, rfl, _, _, h3, _⟩
  · cases hu
  · injection hu with hu
    subst hu
    rw [h3] at hr; injection hr with hr; cases hr
end Go.Proofs.Ytkocpdekknfmaaa

/- The walk that gathers the spots. -/
namespace Go.Proofs.Ytkocpdekknfmaaa
open Go.RowKit Go.Maps
set_option maxHeartbeats 4000000 in
theorem c_walk (o p : Nat) (hop : p ≠ o) (G : AH) (N : Nat) : ∀ t : Tm, t.size ≤ N → N ≤ 400 → t.good → ∀ (l : List Int) (way : AV), l.length + N ≤ 900 → ∀ acc : List (List Int), acc.length + t.size ≤ 900 → ∀ (H : AH) (u : AV), G.nx ≤ H.nx → WayAt H way l → WalkAt o p H → OutAt o G H u acc →
    Tri Try.prog 30 [t.av, way, .ptr o 0, .ptr p 0] H (fun _ H' => ∃ u', Left o u u' H H' ∧ OutAt o G H' u' (acc ++ t.spots.map (l ++ ·))) := by
  induction N with
  | zero => intro t ht; have := t.size_pos; omega
  | succ N ih =>
    intro t ht hN hg l way hl acc hacc H u hG hway hwk hout
    refine tri_wf fun hw => tri_term_Spots_fn1 ?_
    have hml : maxLen = 9223372036854775807 := by decide
    have hsz := t.size_eq
    have hse := t.spots_eq
    have hlk := Tm.len_sizes t.kids
    obtain ⟨tt, hp⟩ := hwk
    obtain ⟨ho, hgr, hoG⟩ := hout
    have hpn := (hw _ _ hp).1
    have hon := (hw _ _ ho).1
    unfold S_term_Spots_fn1
    simp (disch := first | omega | simp) [Tm.av]
    generalize ho0 : (if t.spot = true then [[]] else ([] : List (List Int))) = o0 at hse
    have ho1 : o0.length ≤ 1 := by rw [← ho0]; split <;> simp
    generalize hM : (H.up 1).put H.nx (.box 27 t.cs) = M
    have hMn : M.nx = H.nx + 1 := by rw [← hM]; rfl
    have hMb : M.get H.nx = some (.box 27 t.cs) := by rw [← hM]; simp
    have hMg : ∀ j, j < H.nx → M.get j = H.get j := fun j hj => by rw [← hM, AH.get_put_ne (by omega)]; rfl
    have hMo : M.get o = some (.box 36 [u]) := by rw [hMg _ hon]; exact ho
    have hMw : WayAt M way l := hway.imp_right fun ⟨r, c, h1, h2, h3⟩ => ⟨r, c, h1, by rw [hMg _ (hw _ _ h2).1]; exact h2, h3⟩
    have hMu : Left o u u H M := ⟨by omega, fun j hj _ h => ⟨hMg j hj, h⟩⟩
    have hMgr : Grows 35 1 G M u (wSs acc) := hgr.same (by omega) fun j hj _ => hMg j hj
    refine cut_wf (fun _ : Unit => []) (fun _ H1 => H.nx + 1 ≤ H1.nx ∧ H1.get H.nx = some (.box 27 t.cs) ∧ ∃ u1, Left o u u1 H H1 ∧ OutAt o G H1 u1 (acc ++ o0.map (l ++ ·))) (fun k hk => ?_) ?_
    · simp (disch := first | omega | simp) [Tm.cs_len, Tm.cs_take, hMb]
      refine ca_pure (by kernel_rfl) (c_isSpot t hg _) ?_
      cases hs : t.spot with
      | false =>
        rw [hs] at ho0
        simp only [Bool.false_eq_true, if_false] at ho0
        subst ho0
        simp (disch := first | omega | simp) [bv]
        exact hk () _ _ _ (.refl (Nat.le_refl _)) ⟨by omega, hMb, u, hMu, hMo, by simpa using hMgr, hoG⟩
      | true =>
        rw [hs] at ho0
        simp only [if_true] at ho0
        subst ho0
        simp (disch := first | omega | simp) [bv, hMo]
        refine cav_pure (by kernel_rfl) (fun H2 hle2 => c_CloneW l (by omega) (hMw.imp_right fun ⟨r, c, h1, h2, h3⟩ => ⟨r, c, h1, hle2 _ _ h2, h3⟩)) ?_
        simp (disch := first | omega | simp) [wE]
        have hal : (wSs acc).length = acc.length := wSs_len acc
        have hl3 : acc.length + 1 ≤ maxLen := by omega
        have hl4 : (acc.length + 1) * 24 ≤ 140737488355328 := by omega
        have hMul := hMu.2
        rcases hMgr with ⟨rfl, hnil⟩ | ⟨r, xs, rfl, q1, q2, q3, q4, q5⟩
        · have ha0 : acc = [] := List.eq_nil_of_length_eq_zero (by rw [← hal, hnil]; rfl)
          subst ha0
          simp (disch := first | omega | simp) [put_get_ne, hMo]
          refine ⟨by omega, hk () _ _ _ (.refl (by first | omega | (simp only [up_nx, put_nx]; done) | (simp only [up_nx, put_nx]; omega))) ⟨(by first | omega | (simp only [up_nx, put_nx]; done) | (simp only [up_nx, put_nx]; omega)), by simp (disch := first | omega | simp) [put_get_ne, hMb], .osl (M.nx + 4) 1 0 1, ⟨(by first | omega | (simp only [up_nx, put_nx]; done) | (simp only [up_nx, put_nx]; omega)), fun j hj hjo _ => ⟨by simp (disch := first | omega | simp) [put_get_ne]; exact hMg j hj, fun n hn => by injection hn with hn; omega⟩⟩, by simp (disch := first | omega | simp), ?_, hoG⟩⟩
          exact .row (by first | omega | (simp only [up_nx, put_nx, kill_nx]; done) | (simp only [up_nx, put_nx, kill_nx]; omega)) (by first | omega | (simp only [up_nx, put_nx]; done) | (simp only [up_nx, put_nx]; omega)) (by simp (disch := first | omega | simp) [put_get_ne]; rfl) (dt_wSs [l ++ []]) rfl
        · have hxl' : acc.length ≤ xs.length := by have := congrArg List.length q4; rw [hal, List.length_take] at this; omega
          rw [hal] at q4 ⊢
          have hro : r ≠ o := fun e => by subst e; rw [hMo] at q3; cases q3
          have hrn : r ≠ H.nx := fun e => by subst e; rw [hMb] at q3; cases q3
          simp (disch := first | omega | simp) [put_get_ne, kill_get_ne, hMo, q3]
          refine ⟨hxl', hl3, hl4, hk () _ _ _ (.refl (by first | omega | (simp only [up_nx, put_nx, kill_nx]; done) | (simp only [up_nx, put_nx, kill_nx]; omega))) ⟨(by first | omega | (simp only [up_nx, put_nx, kill_nx]; done) | (simp only [up_nx, put_nx, kill_nx]; omega)), by simp (disch := first | omega | simp) [put_get_ne, kill_get_ne, hMb], .osl (M.nx + 4) 1 0 (acc.length + 1), ⟨(by first | omega | (simp only [up_nx, put_nx, kill_nx]; done) | (simp only [up_nx, put_nx, kill_nx]; omega)), fun j hj hjo hju => ⟨?_, fun n hn => by injection hn with hn; omega⟩⟩, by simp (disch := first | omega | simp), ?_, hoG⟩⟩
          · have hjr : j ≠ r := fun e => hju acc.length (by rw [e, hal])
            simp (disch := first | omega | simp) [put_get_ne, kill_get_ne]
            exact hMg j hj
          · rw [wSs_app]
            refine .row (by first | omega | (simp only [up_nx, put_nx, kill_nx]; done) | (simp only [up_nx, put_nx, kill_nx]; omega)) (by first | omega | (simp only [up_nx, put_nx, kill_nx]; done) | (simp only [up_nx, put_nx, kill_nx]; omega)) (by simp (disch := first | omega | simp) [put_get_ne, q4]; rfl) (by rw [← wSs_app]; exact dt_wSs _) (by rw [List.length_append, hal]; rfl)
    have hup : ∀ n, u ≠ .osl p 1 0 n := fun n hu => by
      rcases hgr with ⟨rfl, _⟩ | ⟨q, xs, rfl, _, _, h3, _⟩
      · cases hu
      · injection hu with hu; subst hu; rw [h3] at hp; cases hp
    rintro _ M1 hn1 hwM1 ⟨hnx1, hb1, u1, hL1, hO1⟩
    unfold S_term_Spots_fn1_K2
    simp (disch := first | omega | simp) [Tm.cs_g5, hb1]
    refine loop_wf (fun i : Nat => [iv i]) (fun i H' => H.nx + 1 ≤ H'.nx ∧ H'.get H.nx = some (.box 27 t.cs) ∧ i ≤ t.kids.length ∧ ∃ u2, Left o u u2 H H' ∧ OutAt o G H' u2 (acc ++ (o0 ++ Tm.spotss 0 (t.kids.take i)).map (l ++ ·))) (fun i => t.kids.length - i) 0 (.refl (Nat.le_refl _)) ⟨hnx1, hb1, Nat.zero_le _, u1, hL1, by rw [List.take_zero, Tm.spotss, List.append_nil]; exact hO1⟩ ?_
    rintro i H1 hn2 hw1 ⟨hnx2, hb2, hi, u2, hL2, hO2⟩ k hk
    unfold S_term_Spots_fn1_L1
    by_cases hil : i < t.kids.length
    · obtain ⟨x, hx⟩ : ∃ x, t.kids[i]? = some x := ⟨_, List.getElem?_eq_getElem hil⟩
      have hxg : ∀ h, t.kids[i]'h = x := fun h => (List.getElem?_eq_some_iff.1 hx).2
      have hiv := ivn (i := i) (by omega)
      have hxs := Tm.sizes_mem (List.mem_of_getElem? hx)
      have hgx := Tm.good_kid hg (List.mem_of_getElem? hx)
      have hp1 : H1.get p = some (.box tt [.fn (.func 30) [] [.ptr o 0, .ptr p 0]]) := by rw [(hL2.2 p hpn hop hup).1]; exact hp
      have htk := Tm.spotss_take t.kids 0 i x hx
      rw [Nat.zero_add] at htk
      have hnx : ∀ n, u2 ≠ .osl H.nx 1 0 n := fun n hu => by
        rcases hO2.2.1 with ⟨rfl, _⟩ | ⟨q, xs, rfl, _, _, h3, _⟩
        · cases hu
        · injection hu with hu; subst hu; rw [hb2] at h3; cases h3
      have hacc2 : acc ++ (o0 ++ Tm.spotss 0 (t.kids.take (i + 1))).map (l ++ ·) = (acc ++ (o0 ++ Tm.spotss 0 (t.kids.take i)).map (l ++ ·)) ++ x.spots.map ((l ++ [(i : Int)]) ++ ·) := by
        rw [htk, ← List.append_assoc o0, List.map_append, ← List.append_assoc acc, List.map_map]
        congr 1
        exact List.map_congr_left fun s _ => by simp
      simp (disch := first | omega | simp) [iv, hil, hxg, Tm.cs_len, Tm.cs_take]
      have hsl1 := Tm.spotss_len 0 (t.kids.take i)
      have hsl2 := Tm.sizes_succ t.kids i hil
      rw [hxg] at hsl2
      have hsl3 := Tm.sizes_le t.kids (i + 1)
      have hal2 : (acc ++ (o0 ++ Tm.spotss 0 (t.kids.take i)).map (l ++ ·)).length + x.size ≤ 900 := by simp only [List.length_append, List.length_map]; omega
      generalize hA : acc ++ (o0 ++ Tm.spotss 0 (t.kids.take i)).map (l ++ ·) = A at *
      -- the call, where the way is a row laid just now
      have fresh : ∀ (X : AH) (q : Nat), H1.nx ≤ X.nx → (∀ j, j < H1.nx → X.get j = H1.get j) → H1.nx ≤ q → X.get q = some (.row 3 1 ((l ++ [(i : Int)]).map fun x => [iv x])) →
          Tri Try.prog 30 [x.av, .osl q 1 0 (l.length + 1), .ptr o 0, .ptr p 0] X (fun _ H' => ∃ u', Left o u2 u' H1 H' ∧ OutAt o G H' u' (A ++ x.spots.map ((l ++ [(i : Int)]) ++ ·))) := by
        intro X q hXn hXg hq hXq
        refine Tri.capped hXq fun c hc => ?_
        have hXg' : ∀ j, j < H1.nx → (X.put q (.crow 3 1 c ((l ++ [(i : Int)]).map fun x => [iv x]))).get j = H1.get j := fun j hj => by rw [AH.get_put_ne (by omega)]; exact hXg j hj
        have hpn1 : p < H1.nx := (hw1 _ _ hp1).1
        have hon1 : o < H1.nx := (hw1 _ _ hO2.1).1
        refine (ih x (by omega) (by omega) hgx (l ++ [(i : Int)]) (.osl q 1 0 (l.length + 1)) (by simp; omega) A hal2 _ u2 (by simp only [put_nx]; omega) (.inr ⟨q, c, by simp, put_get _ _, by simp, by simpa using hc⟩) ⟨tt, by rw [hXg' _ hpn1]; exact hp1⟩ ⟨by rw [hXg' _ hon1]; exact hO2.1, hO2.2.1.same (by simp only [put_nx]; omega) fun j hj _ => hXg' j hj, hO2.2.2⟩).mono fun v H' ⟨u', k1, k2⟩ => ⟨u', Left.trans (u1 := u2) ⟨by simp only [put_nx]; omega, fun j hj _ h => ⟨hXg' j hj, h⟩⟩ k1, k2⟩
      have done : ∀ (H' : AH) (u' : AV), Left o u2 u' H1 H' → OutAt o G H' u' (A ++ x.spots.map ((l ++ [(i : Int)]) ++ ·)) → k [iv ((i + 1 : Nat) : Int)] H' := by
        intro H' u' k1 k2
        have := k1.1
        refine hk (i + 1) _ _ _ (.refl (by omega)) ⟨by omega, by rw [(k1.2 H.nx (by omega) (by omega) hnx).1]; exact hb2, hil, u', hL2.trans k1, ?_⟩ (by omega)
        rw [hacc2]; exact k2
      rcases hway with ⟨rfl, rfl⟩ | ⟨r, c, rfl, hr, hr1, hr2⟩
      · refine ⟨[], ?_⟩
        simp (disch := first | omega | simp) [Tm.cs_len, Tm.cs_take, put_get_ne, hp1]
        refine wro_nil (elF_whole (t := 3) (es := [[iv i]]) rfl (by simp (disch := first | omega | simp) [iv]) rfl) (by simp; omega) (by simp) ?_
        refine ca_of (by kernel_rfl) (fresh _ (H1.nx + 6 + 5) (by first | omega | (simp only [up_nx, put_nx]; done) | (simp only [up_nx, put_nx]; omega)) (fun j hj => by simp (disch := first | omega | simp) [put_get_ne]) (by omega) (by simp (disch := first | omega | simp))) ?_
        rintro v H' ⟨u', k1, k2⟩
        simp (disch := first | omega | simp) [hiv]
        exact done H' u' k1 k2
      · refine ⟨[r], ?_⟩
        have hrn := (hw _ _ hr).1
        have hpr : p ≠ r := fun e => by subst e; rw [hp] at hr; cases hr
        have hor : r ≠ o := fun e => by subst e; rw [ho] at hr; cases hr
        have hr1' : H1.get r = some (.crow 3 1 c (l.map fun x => [iv x])) := by rw [(hL2.2 r hrn hor (way_off hgr hr)).1]; exact hr
        have hru2 := way_off hO2.2.1 hr1'
        have hrlt : r < H1.nx := by omega
        simp (disch := first | omega | simp) [Tm.cs_len, Tm.cs_take, put_get_ne, hp1, del_get_ne]
        by_cases hroom : l.length + 1 ≤ c
        · refine wro_in (es := l.map fun x => [iv x]) (c := c) (by omega) (by simp) (by simp (disch := first | omega | simp) [put_get_ne, hr1']) (by simp) (elF_whole (t := 3) (es := [[iv i]]) rfl (by simp (disch := first | omega | simp) [iv]) rfl) (by simpa using hroom) ?_
          have hes : (l.map fun x => [iv x]) ++ [[iv (i : Int)]] = (l ++ [(i : Int)]).map fun x => [iv x] := by simp
          rw [hes]
          generalize hX : AH.put _ r _ = X
          have hXn : X.nx = H1.nx + 13 := by rw [← hX]; rfl
          have hXg : ∀ j, j < H1.nx → j ≠ r → X.get j = H1.get j := fun j hj hjr => by rw [← hX]; simp (disch := first | omega | simp) [put_get_ne]
          have hXr : X.get r = some (.crow 3 1 c ((l ++ [(i : Int)]).map fun x => [iv x])) := by rw [← hX, put_get]
          have hpn1 : p < H1.nx := (hw1 _ _ hp1).1
          have hon1 : o < H1.nx := (hw1 _ _ hO2.1).1
          refine ca_of (by kernel_rfl) (ih x (by omega) (by omega) hgx (l ++ [(i : Int)]) (.osl r 1 0 (l.length + 1)) (by simp; omega) A hal2 X u2 (by omega) (.inr ⟨r, c, by simp, hXr, by simp, by simpa using hroom⟩) ⟨tt, by rw [hXg _ hpn1 hpr]; exact hp1⟩ ⟨by rw [hXg _ hon1 (Ne.symm hor)]; exact hO2.1, hO2.2.1.same (by omega) fun j hj ⟨n, hv⟩ => hXg j hj (fun e => hru2 n (by rw [← e]; exact hv)), hO2.2.2⟩) ?_
          rintro v H' ⟨u', k1, k2⟩
          have hn := k1.1
          have hrH := (k1.2 r (by omega) hor hru2)
          have hr' : H'.get r = some (.crow 3 1 c ((l ++ [(i : Int)]).map fun x => [iv x])) := hrH.1.trans hXr
          simp (disch := first | omega | simp) [hiv]
          have hp2 := Gst.prefix (P := Try.prog) hr' l.length
          rw [← List.map_take, List.take_left'] at hp2
          · have hru' := hrH.2
            refine hk (i + 1) (H'.put r (.crow 3 1 c (l.map fun x => [iv x]))) _ _ (.st hp2 (by omega)) ⟨by simp only [put_nx]; omega, ?_, hil, u', ?_, ?_⟩ (by omega)
            · rw [AH.get_put_ne (by omega), (k1.2 H.nx (by omega) (by omega) hnx).1, hXg _ (by omega) (by omega)]; exact hb2
            · refine hL2.trans ⟨by simp only [put_nx]; omega, fun j hj hjo hju => ?_⟩
              by_cases e : j = r
              · subst e; exact ⟨by rw [put_get]; exact hr1'.symm, hru'⟩
              · obtain ⟨q1, q2⟩ := k1.2 j (by omega) hjo hju
                exact ⟨by rw [AH.get_put_ne e, q1]; exact hXg j hj e, q2⟩
            · rw [hacc2]
              refine ⟨by rw [AH.get_put_ne (Ne.symm hor)]; exact k2.1, k2.2.1.same (by simp only [put_nx]; omega) fun j hj ⟨n, hv⟩ => AH.get_put_ne fun e => hru' n (by rw [← e]; exact hv), k2.2.2⟩
          · rfl
        · refine wro_out (es := l.map fun x => [iv x]) (c := c) (by omega) (by simp (disch := first | omega | simp) [put_get_ne, hr1']) (by simp) (elF_whole (t := 3) (es := [[iv i]]) rfl (by simp (disch := first | omega | simp) [iv]) rfl) (by simp; omega) (by simp; omega) (by simp; omega) ?_
          refine ca_of (by kernel_rfl) (fresh _ (H1.nx + 6 + 5) (by first | omega | (simp only [up_nx, put_nx]; done) | (simp only [up_nx, put_nx]; omega)) (fun j hj => by simp (disch := first | omega | simp) [put_get_ne]) (by omega) (by simp (disch := first | omega | simp))) ?_
          rintro v H' ⟨u', k1, k2⟩
          simp (disch := first | omega | simp) [hiv]
          exact done H' u' k1 k2
    · have hie : i = t.kids.length := by omega
      subst hie
      rw [List.take_length, ← hse] at hO2
      simp (disch := first | omega | simp) [iv]
      exact rt_refl ⟨u2, hL2, hO2⟩ (by omega)
end Go.Proofs.Ytkocpdekknfmaaa

/- What TermSteps says. -/
namespace Go.Proofs.Ytkocpdekknfmaaa
open Go.RowKit Go.Maps
def spR (t : Tm) : AV := if t.check = 0 then .tup [.dsl 1 (wSs t.spots), iv 0] else .tup [.dsl 1 [], iv t.check]
theorem c_Spots (t : Tm) : PF Try.prog 12 [t.av] (spR t) := fun H => tri_wf fun hw => tri_term_Spots (by
  unfold S_term_Spots
  simp (disch := first | omega | simp) [Tm.av, Tm.cs_len, Tm.cs_take]
  refine ca_pure (by kernel_rfl) (c_Check t _) ?_
  by_cases hc : t.check = 0
  · have hnr : spR t = .tup [.dsl 1 (wSs t.spots), iv 0] := by unfold spR; rw [if_pos hc]
    obtain ⟨hwr, hsz⟩ := Tm.check_ok hc
    have hg := Tm.good_of t.size t (Nat.le_refl _) hwr
    rw [hnr, hc]
    simp (disch := first | omega | simp) [iv, Tm.cs_len, Tm.cs_take, put_get_ne]
    refine ca_of (by kernel_rfl) (c_walk (H.nx + 3) (H.nx + 4) (by omega) _ t.size t (Nat.le_refl _) hsz hg [] _ (by simp; omega) [] (by simp; omega) _ (.p (.slice none 0 0)) (Nat.le_refl _) (.inl ⟨rfl, rfl⟩) ⟨_, by simp (disch := first | omega | simp); rfl⟩ ⟨by simp (disch := first | omega | simp) [put_get_ne], .nil _ _ _ _, by simp only [up_nx, put_nx]; omega⟩) ?_
    rintro v H' ⟨u', ⟨k0, k1⟩, k2, k3, k4⟩
    simp (disch := first | omega | simp) [k2]
    simp only [List.nil_append, List.map_id'] at k3
    simp only [up_nx, put_nx] at k0
    have hle : H.le H' := fun j o ho => by
      have hj := (hw j o ho).1
      rw [(k1 j (by simp only [up_nx, put_nx]; omega) (by omega) (fun n e => by cases e)).1]
      simp (disch := first | omega | simp) [put_get_ne, ho]
    refine (k3.base (H0 := H) (by simp only [up_nx, put_nx]; omega)).rt_in hw hle (by omega) hw (.refl _) (Nat.le_refl _) (fun H2 h => .tup (.cons h (.refl _))) (by repeat (first | exact Cl.p _ | exact Cl.dsl _ _ | exact Cl.any | refine Cl.tup ?_ | refine Cl.agg ?_ | exact Clo.nil | refine Clo.cons ?_ ?_)) ⟨rfl, rfl⟩
  · have hnr : spR t = .tup [.dsl 1 [], iv t.check] := by unfold spR; rw [if_neg hc]
    rw [hnr]
    simp (disch := first | omega | simp) [iv, hc]
    exact rt_sub (v' := .tup [.dsl 1 [], iv t.check]) hw (by repeat (first | with_reducible assumption | with_reducible exact AH.le.refl _ | with_reducible apply AH.le.up | (with_reducible refine AH.le.put hw ?_ ?_; · first | omega | (simp only [up_nx, put_nx, kill_nx]; done) | (simp only [up_nx, put_nx, kill_nx]; omega)) | (with_reducible refine AH.le.kill hw ?_ ?_; · first | omega | (simp only [up_nx, put_nx, kill_nx]; done) | (simp only [up_nx, put_nx, kill_nx]; omega)))) (by first | omega | (simp only [up_nx, put_nx]; done) | (simp only [up_nx, put_nx]; omega)) (.tup (.cons (.nil _ _ (Nat.zero_le _)) (.refl _))) (by repeat (first | exact Cl.p _ | exact Cl.dsl _ _ | exact Cl.any | refine Cl.tup ?_ | refine Cl.agg ?_ | exact Clo.nil | refine Clo.cons ?_ ?_)) ⟨rfl, rfl⟩)
def stpR (way : List Int) (t : Tm) : AV := if t.check = 0 then .tup [(if (Tm.at_ way t 0).2 = 0 then Tm.lift 0 0 (Tm.at_ way t 0).1 else tm0).av, iv (Tm.at_ way t 0).2] else .tup [tm0.av, iv t.check]
set_option maxHeartbeats 4000000 in
theorem c_Step (way : List Int) (t : Tm) : PF Try.prog 13 [t.av, wE way] (stpR way t) := fun H => tri_wf fun hw => tri_term_Step (by
  unfold S_term_Step
  simp (disch := first | omega | simp) [Tm.av, Tm.cs_len, Tm.cs_take, put_get_ne]
  refine ca_pure (by kernel_rfl) (c_Check t _) ?_
  by_cases hc : t.check = 0
  · obtain ⟨hwr, hsz⟩ := Tm.check_ok hc
    have hg := Tm.good_of t.size t (Nat.le_refl _) hwr
    unfold stpR
    rw [if_pos hc, hc]
    simp (disch := first | omega | simp) [iv, Tm.av, Tm.cs_len, Tm.cs_take, put_get_ne]
    refine ca_pure (by kernel_rfl) (c_at way t hg hsz 0 (by decide) (by omega) _) ?_
    by_cases h0 : (Tm.at_ way t 0).2 = 0
    · obtain ⟨g1, g2⟩ := Tm.at_good way t 0 hg h0
      simp (disch := first | omega | simp) [iv, Tm.av, Tm.cs_len, Tm.cs_take, h0]
      refine ca_pure (by kernel_rfl) (c_copied _ g1 (by omega) _) ?_
      simp (disch := first | omega | simp) [Tm.av, Tm.cs_len, Tm.cs_take, put_get_ne]
      exact rt_tup hw (by repeat (first | with_reducible assumption | with_reducible exact AH.le.refl _ | with_reducible apply AH.le.up | (with_reducible refine AH.le.put hw ?_ ?_; · first | omega | (simp only [up_nx, put_nx, kill_nx]; done) | (simp only [up_nx, put_nx, kill_nx]; omega)) | (with_reducible refine AH.le.kill hw ?_ ?_; · first | omega | (simp only [up_nx, put_nx, kill_nx]; done) | (simp only [up_nx, put_nx, kill_nx]; omega)))) (.cons (.agg (Tm.cl _ _)) (.cons (Cl.p _) .nil)) ⟨rfl, rfl⟩
    · simp (disch := first | omega | simp) [iv, Tm.av, Tm.cs_len, put_get_ne, h0]
      exact rt_tm0 hw (by repeat (first | with_reducible assumption | with_reducible exact AH.le.refl _ | with_reducible apply AH.le.up | (with_reducible refine AH.le.put hw ?_ ?_; · first | omega | (simp only [up_nx, put_nx, kill_nx]; done) | (simp only [up_nx, put_nx, kill_nx]; omega)) | (with_reducible refine AH.le.kill hw ?_ ?_; · first | omega | (simp only [up_nx, put_nx, kill_nx]; done) | (simp only [up_nx, put_nx, kill_nx]; omega)))) (by first | omega | (simp only [up_nx, put_nx]; done) | (simp only [up_nx, put_nx]; omega)) (.cons (Cl.p _) .nil) ⟨rfl, rfl⟩
  · unfold stpR
    rw [if_neg hc]
    simp (disch := first | omega | simp) [iv, Tm.av, hc]
    exact rt_tm0 hw (by repeat (first | with_reducible assumption | with_reducible exact AH.le.refl _ | with_reducible apply AH.le.up | (with_reducible refine AH.le.put hw ?_ ?_; · first | omega | (simp only [up_nx, put_nx, kill_nx]; done) | (simp only [up_nx, put_nx, kill_nx]; omega)) | (with_reducible refine AH.le.kill hw ?_ ?_; · first | omega | (simp only [up_nx, put_nx, kill_nx]; done) | (simp only [up_nx, put_nx, kill_nx]; omega)))) (by first | omega | (simp only [up_nx, put_nx]; done) | (simp only [up_nx, put_nx]; omega)) (.cons (Cl.p _) .nil) ⟨rfl, rfl⟩)
theorem c_RSameI (a : List Int) (ha : a.length ≤ 1000) : PF Try.prog 15 [wE a, wE a] (bv true) := fun H => tri_wf fun hw => tri_wordhoardref_Same (by
  have hml : maxLen = 9223372036854775807 := by decide
  unfold S_wordhoardref_Same
  simp (disch := first | omega | simp) [iv, wE]
  refine loop_st (fun i : Nat => [iv i]) (fun i H' => H = H' ∧ i ≤ a.length) (fun i => a.length - i) 0 (.refl (Nat.le_refl _)) ⟨rfl, Nat.zero_le _⟩ ?_
  rintro i _ hn ⟨rfl, hi⟩ k hk
  unfold S_wordhoardref_Same_L1
  by_cases hil : i < a.length
  · have hiv := ivn (i := i) (by omega)
    simp (disch := first | omega | simp) [iv, hil, hiv]
    exact hk (i + 1) _ _ _ (.refl (Nat.le_refl _)) ⟨rfl, hil⟩ (by omega)
  · have : i = a.length := by omega
    subst this
    simp (disch := first | omega | simp) [iv]
    exact rt_refl ⟨rfl, rfl⟩ (Nat.le_refl _))
theorem Tm.at_two (way : List Int) (t : Tm) (hn : t.nums) : (if (Tm.at_ way t 0).2 = 0 then Tm.lift 0 0 (Tm.at_ way t 0).1 else tm0) = if (Tm.at_ way t 0).2 = 0 then (Tm.at_ way t 0).1 else tm0 := by
  split
  · exact Tm.lift_zero _ 0 (Tm.nums_at way t 0 hn)
  · rfl
set_option maxHeartbeats 4000000 in
theorem c_TermSteps (t : Tm) (way : List Int) (hn : t.nums) : PF Try.prog 4 [t.av, wE way] (bv true) := fun H => tri_wf fun hw => tri_wordhoardlaw_TermSteps (by
  have hml : maxLen = 9223372036854775807 := by decide
  unfold S_wordhoardlaw_TermSteps
  simp (disch := first | omega | simp) [Tm.av, Tm.cs_len, Tm.cs_take]
  refine ca_pure (by kernel_rfl) (c_Spots t _) ?_
  by_cases hc : t.check = 0
  · obtain ⟨hwr, hsz⟩ := Tm.check_ok hc
    have hg := Tm.good_of t.size t (Nat.le_refl _) hwr
    have hsl := t.spots_len
    have hdeep := t.spots_deep
    rw [show spR t = .tup [.dsl 1 (wSs t.spots), iv 0] by unfold spR; rw [if_pos hc]]
    simp (disch := first | omega | simp) [iv, Tm.cs_len, Tm.cs_take]
    refine ca_pure (by kernel_rfl) (c_Step way t _) ?_
    unfold stpR
    rw [if_pos hc, Tm.at_two way t hn]
    generalize hx : (if (Tm.at_ way t 0).2 = 0 then (Tm.at_ way t 0).1 else tm0) = x
    generalize he : (Tm.at_ way t 0).2 = e
    simp (disch := first | omega | simp) [iv, Tm.av, Tm.cs_len, Tm.cs_take, put_get_ne]
    refine ca_pure (by kernel_rfl) (c_RCheckTerm t _) ?_
    rw [hc]
    refine ca_pure (by kernel_rfl) (c_begun _) ?_
    simp (disch := first | omega | simp) [iv, bv]
    unfold S_wordhoardlaw_TermSteps_C2
    simp (disch := first | omega | simp) [Tm.cs_len, Tm.cs_take, put_get_ne]
    refine ca_of (by kernel_rfl) (c_RSpots t.size t (Nat.le_refl _) hsz hg _) ?_
    rintro _ _ ⟨rfl, rfl⟩
    simp (disch := first | omega | simp) [wSs_len]
    generalize hM : AH.put _ _ _ = M
    have hMb : M.get H.nx = some (.box 27 t.cs) := by rw [← hM]; simp (disch := first | omega | simp) [put_get_ne]
    have hMx : M.get (H.nx + 2 + 6) = some (.box 27 x.cs) := by rw [← hM]; simp (disch := first | omega | simp)
    have hMl : H.le M := by rw [← hM]; exact (by repeat (first | with_reducible assumption | with_reducible exact AH.le.refl _ | with_reducible apply AH.le.up | (with_reducible refine AH.le.put hw ?_ ?_; · first | omega | (simp only [up_nx, put_nx, kill_nx]; done) | (simp only [up_nx, put_nx, kill_nx]; omega)) | (with_reducible refine AH.le.kill hw ?_ ?_; · first | omega | (simp only [up_nx, put_nx, kill_nx]; done) | (simp only [up_nx, put_nx, kill_nx]; omega))))
    have hMn : H.nx + 11 ≤ M.nx := by rw [← hM]; exact Nat.le_refl _
    refine loop_st (fun i : Nat => [iv i]) (fun i H' => M = H' ∧ i ≤ t.spots.length) (fun i => t.spots.length - i) 0 (.refl (Nat.le_refl _)) ⟨rfl, Nat.zero_le _⟩ ?_
    rintro i _ hn1 ⟨rfl, hi⟩ k hk
    unfold S_wordhoardlaw_TermSteps_L1
    by_cases hil : i < t.spots.length
    · have hiv := ivn (i := i) (by omega)
      obtain ⟨s, hs⟩ : ∃ s, t.spots[i]? = some s := ⟨_, List.getElem?_eq_getElem hil⟩
      have hsd := hdeep s (List.mem_of_getElem? hs)
      have hsq : (wSs t.spots)[i]? = some [wE s] := by unfold wSs; rw [List.getElem?_map, hs]; rfl
      simp (disch := first | omega | simp) [iv, hil, wSs_len, hsq]
      refine cav_pure (by kernel_rfl) (fun H2 _ => c_RSameI s (by omega) H2) ?_
      simp (disch := first | omega | simp) [bv, hiv]
      exact hk (i + 1) _ _ _ (.refl (Nat.le_refl _)) ⟨rfl, hil⟩ (by omega)
    · have : i = t.spots.length := by omega
      subst this
      simp (disch := first | omega | simp) [iv, wSs_len, Tm.cs_len, Tm.cs_take, hMb]
      refine ca_pure (by kernel_rfl) (c_StepAt way t hg hsz _) ?_
      unfold stR
      rw [hx, he]
      simp (disch := first | omega | simp) [iv, Tm.av, Tm.cs_len, Tm.cs_take, put_get_ne, hMx]
      refine ca_pure (by kernel_rfl) (c_RSameTerm x.size x x (Nat.le_refl _) _) ?_
      rw [Tm.same_refl]
      simp (disch := first | omega | simp) [bv]
      exact rt_one hw (by repeat (first | with_reducible assumption | with_reducible exact AH.le.refl _ | with_reducible apply AH.le.up | (with_reducible refine AH.le.put hw ?_ ?_; · first | omega | (simp only [up_nx, put_nx, kill_nx]; done) | (simp only [up_nx, put_nx, kill_nx]; omega)) | (with_reducible refine AH.le.kill hw ?_ ?_; · first | omega | (simp only [up_nx, put_nx, kill_nx]; done) | (simp only [up_nx, put_nx, kill_nx]; omega)))) (by repeat (first | exact Cl.p _ | exact Cl.dsl _ _ | exact Cl.any | refine Cl.tup ?_ | refine Cl.agg ?_ | exact Clo.nil | refine Clo.cons ?_ ?_)) ⟨rfl, rfl⟩
  · rw [show spR t = .tup [.dsl 1 [], iv t.check] by unfold spR; rw [if_neg hc]]
    simp (disch := first | omega | simp) [iv, Tm.cs_len, Tm.cs_take]
    refine ca_pure (by kernel_rfl) (c_Step way t _) ?_
    rw [show stpR way t = .tup [tm0.av, iv t.check] by unfold stpR; rw [if_neg hc]]
    simp (disch := first | omega | simp) [iv, Tm.av, Tm.cs_len, Tm.cs_take, put_get_ne]
    refine ca_pure (by kernel_rfl) (c_RCheckTerm t _) ?_
    refine ca_pure (by kernel_rfl) (c_begun _) ?_
    simp (disch := first | omega | simp) [iv, bv]
    unfold S_wordhoardlaw_TermSteps_C2
    simp (disch := first | omega | simp) [Tm.cs_len, Tm.cs_take, hc]
    refine ca_pure (r := bv true) (by kernel_rfl) (Tri.args (qs := [tm0.av, tm0.av]) (.cons (.refl _) (.cons ?_ .nil)) (by rw [← Tm.same_refl tm0]; exact c_RSameTerm tm0.size tm0 tm0 (Nat.le_refl _) _)) ?_
    · rw [Tm.av, tm0_cs]
      exact .agg (.cons (.refl _) (.cons (.refl _) (.cons (.refl _) (.cons (.refl _) (.cons (.nil _ _ (Nat.zero_le _)) (.cons (.nil _ _ (Nat.zero_le _)) .nil))))))
    simp (disch := first | omega | simp) [bv]
    exact rt_one hw (by repeat (first | with_reducible assumption | with_reducible exact AH.le.refl _ | with_reducible apply AH.le.up | (with_reducible refine AH.le.put hw ?_ ?_; · first | omega | (simp only [up_nx, put_nx, kill_nx]; done) | (simp only [up_nx, put_nx, kill_nx]; omega)) | (with_reducible refine AH.le.kill hw ?_ ?_; · first | omega | (simp only [up_nx, put_nx, kill_nx]; done) | (simp only [up_nx, put_nx, kill_nx]; omega)))) (by repeat (first | exact Cl.p _ | exact Cl.dsl _ _ | exact Cl.any | refine Cl.tup ?_ | refine Cl.agg ?_ | exact Clo.nil | refine Clo.cons ?_ ?_)) ⟨rfl, rfl⟩)
theorem w_TermSteps (t : Tm) (way : List Int) (hn : t.nums) (H : AH) : Tri Try.prog 4 [.agg (id t).cs, wE way] H (fun v _ => v = .p (.bool true)) := (c_TermSteps t way hn H).mono fun _v _H' h => h.2
end Go.Proofs.Ytkocpdekknfmaaa

namespace Go.Proofs.Ytkocpdekknfmaaa.termSteps
open Go.ChangeShapes Go.WideShapes Go.ChangeAt Go.RowKit
open Go.ChangeMaps (open_string shut_string)

theorem contract (H : Type) (enc : TypeId × Value → H) (W : World) (base : Nat) (args : Array Value) (ds gs : List (DataW H)) (before : List MemPlace)
    (hval : ∀ (j : Nat) t v, Try.f4.params[j]? = some t → args[j]? = some v → Value.okWide Try.prog W .any base t v)
    (hW : DataW.Whole enc Try.prog Try.f4.params.toList Rows.termStepsSpec.vars false W args.toList ds gs before) :
    Calls Try.prog 4 args W fun e W' => ∃ v, e = .returned v ∧ Rows.termStepsSpec.post enc Try.prog Try.f4 false true false false W args v W' := by
  have hW' := hW
  obtain ⟨p, q, hA0, hV, rfl, hfz, hnd⟩ := hW
  have hA : DataW.TrodAll enc Try.prog W 0 (fun _ => true) true Try.f4.params.toList args.toList ds p := hA0
  rw [Try.params4] at hA hval
  obtain ⟨v0, v1, d0, d1, p0, p1, rfl, rfl, rfl, h0, h1⟩ := trodAll_two hA
  obtain ⟨rfl, rfl⟩ := trodVars_none hV
  obtain ⟨cs0, x0, rfl, hs0, hb0⟩ := arg_struct opens_tm Try.underlying27 (hval 0 27 v0 rfl rfl) h0
  obtain ⟨A1, c1, x1, rfl, hs1, hb1⟩ := arg_slice opens_nums Try.underlying35 (hval 1 35 v1 rfl rfl) h1
  obtain ⟨k0, r0⟩ := (avs_tm).agg (σ' := fun _ => none) hs0
  obtain ⟨k1, r1⟩ := (avs_int).sl (by decide) (σ' := fun _ => none) hs1
  refine (law_calls (us := [.agg cs0, .slice A1 x1.length c1]) (w_TermSteps x0 (x1.map id) (tm_nums _ (Nat.le_refl _) hs0) _) (.cons r0 (.cons r1 .nil))).mono fun e W' ⟨he, hg⟩ => ?_
  subst he
  exact ⟨_, rfl, post_true rfl Try.underlying4 rfl laidOut (by kernel_rfl) hW' rfl hg⟩

set_option maxRecDepth 100000 in
theorem lifted (os : Os) (started : os.Started) (H : Type) (enc : TypeId × Value → H) :
    ReturnsInHanded {} Try.checked os 4 .any (Rows.termStepsSpec.pre6 enc Try.prog Try.f4 Rows.termStepsRow.domain false) (Rows.termStepsSpec.post enc Try.prog Try.f4 false true false false) := by
  refine returnsInHanded_of_change (C := Try.checked) own started (by kernel_rfl) Try.func4
    (ChangeSpec.witness6 (enc := enc) (C := Try.checked) false ⟨#[], #[.agg #[.int .i64 0,.int .i64 0,.int .i64 0,.int .i64 0,.slice none 0 0,.slice none 0 0], .slice none 0 0], []⟩ 8 (by kernel_rfl) (by kernel_rfl) (by kernel_rfl) (by kernel_rfl)) ?_
  intro W base args ds gs before hval hW _ _
  exact contract H enc W base args ds gs before hval hW

theorem proved : Rows.TermStepsSaid :=
  OpenClaim.holds_of_wide 4 Try.f4 rfl rfl rfl rfl rfl rfl rfl ⟨rfl, rfl, rfl, rfl, rfl⟩ rfl rfl rfl rfl rfl (by kernel_rfl) Try.func4 (by kernel_rfl)
    (of_decide_eq_true (by kernel_rfl)) (by unfold Func.isWrapper; first | (rw [if_pos (by decide +kernel)]; kernel_rfl) | (rw [if_neg (by decide +kernel)]; exact ⟨rfl, rfl⟩))
    (fun os started H enc _ => lifted os started H enc)
end Go.Proofs.Ytkocpdekknfmaaa.termSteps
