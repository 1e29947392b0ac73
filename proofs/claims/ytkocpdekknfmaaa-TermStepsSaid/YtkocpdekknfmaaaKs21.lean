/- Texts that the proof rests on, part 21: what each holds stands at its head. -/
import Derived.Test.YtkocpdekknfmaaaKs20

/- The document's own step: lifted, replaced. -/
namespace Go.Proofs.Ytkocpdekknfmaaa
open Go.RowKit Go.Maps
set_option maxHeartbeats 4000000 in
theorem c_lifted (N : Nat) : ∀ t : Tm, t.size ≤ N → N ≤ 1000000 → ∀ (by_ d : Int), 0 ≤ d → d + N ≤ 1000000 → ∀ H, Tri Try.prog 58 [t.av, iv by_, iv d] H (fun r H' => H' = H ∧ r = (Tm.lift by_ d t).av) := by
  induction N with
  | zero => intro t ht; have := t.size_pos; omega
  | succ N ih =>
    intro t ht hN by_ d hd0 hd1 H
    refine tri_wf fun hw => tri_wordhoardref_lifted ?_
    have hml : maxLen = 9223372036854775807 := by decide
    have hsz := t.size_eq
    have hlk := Tm.len_sizes t.kids
    have hl := Tm.lift_eq by_ d t
    have hwr : IntKind.i64.wrap (d + 1) = d + 1 := wrapI (by omega) (by omega)
    unfold S_wordhoardref_lifted
    simp (disch := first | omega | simp) [iv, Tm.av]
    have hw0 := hw
    have hzl : Clo H.nx [AV.p (Value.int IntKind.i64 0), AV.p (Value.int IntKind.i64 0), AV.p (Value.int IntKind.i64 0), AV.p (Value.int IntKind.i64 0), AV.p (Value.slice none 0 0), AV.p (Value.slice none 0 0)] := (by repeat (first | exact Cl.p _ | exact Cl.dsl _ _ | exact Cl.any | refine Cl.tup ?_ | refine Cl.agg ?_ | exact Clo.nil | refine Clo.cons ?_ ?_))
    refine cut_wf (fun _ : Unit => []) (fun _ H' => H.le H' ∧ H.nx + 2 ≤ H'.nx ∧ H'.get H.nx = some (.box 27 (Tm.cs ⟨t.kind, if t.kind = 1 ∧ d ≤ t.num then IntKind.i64.wrap (t.num + by_) else t.num, t.type, t.kids⟩)) ∧ H'.get (H.nx + 1) = some (.box 27 [.p (.int .i64 0), .p (.int .i64 0), .p (.int .i64 0), .p (.int .i64 0), .p (.slice none 0 0), .p (.slice none 0 0)])) (fun k hk => ?_) ?_
    · by_cases h1 : t.kind = 1 ∧ d ≤ t.num
      · obtain ⟨k1, n1⟩ := h1
        simp (disch := first | omega | simp) [iv, Tm.cs_len, Tm.cs_g0, Tm.cs_g1, put_get_ne, k1, n1]
        refine hk () _ _ _ (.refl (by first | omega | (simp only [up_nx, put_nx]; done) | (simp only [up_nx, put_nx]; omega))) ⟨(by repeat (first | with_reducible assumption | with_reducible exact AH.le.refl _ | with_reducible apply AH.le.up | (with_reducible refine AH.le.put hw ?_ ?_; · first | omega | (simp only [up_nx, put_nx, kill_nx]; done) | (simp only [up_nx, put_nx, kill_nx]; omega)) | (with_reducible refine AH.le.kill hw ?_ ?_; · first | omega | (simp only [up_nx, put_nx, kill_nx]; done) | (simp only [up_nx, put_nx, kill_nx]; omega)))), (by first | omega | (simp only [up_nx, put_nx]; done) | (simp only [up_nx, put_nx]; omega)), ?_, by simp (disch := first | omega | simp) [put_get_ne]⟩
        rw [put_get, if_pos ⟨k1, n1⟩, Tm.cs_eq, Tm.cs_eq]; rfl
      · have hc : t.kind ≠ 1 ∨ (t.kind = 1 ∧ ¬ d ≤ t.num) := by omega
        have he : (⟨t.kind, if t.kind = 1 ∧ d ≤ t.num then IntKind.i64.wrap (t.num + by_) else t.num, t.type, t.kids⟩ : Tm) = t := by rw [if_neg h1]; cases t; rfl
        rw [he] at hk
        rcases hc with k1 | ⟨k1, n1⟩
        · simp (disch := first | omega | simp) [iv, Tm.cs_g0, put_get_ne, k1]
          exact hk () _ _ _ (.refl (by first | omega | (simp only [up_nx, put_nx, kill_nx]; done) | (simp only [up_nx, put_nx, kill_nx]; omega))) ⟨(by repeat (first | with_reducible assumption | with_reducible exact AH.le.refl _ | with_reducible apply AH.le.up | (with_reducible refine AH.le.put hw ?_ ?_; · first | omega | (simp only [up_nx, put_nx, kill_nx]; done) | (simp only [up_nx, put_nx, kill_nx]; omega)) | (with_reducible refine AH.le.kill hw ?_ ?_; · first | omega | (simp only [up_nx, put_nx, kill_nx]; done) | (simp only [up_nx, put_nx, kill_nx]; omega)))), (by first | omega | (simp only [up_nx, put_nx]; done) | (simp only [up_nx, put_nx]; omega)), by simp (disch := first | omega | simp) [put_get_ne], by simp (disch := first | omega | simp)⟩
        · simp (disch := first | omega | simp) [iv, Tm.cs_g0, Tm.cs_g1, put_get_ne, k1, n1]
          exact hk () _ _ _ (.refl (by first | omega | (simp only [up_nx, put_nx, kill_nx]; done) | (simp only [up_nx, put_nx, kill_nx]; omega))) ⟨(by repeat (first | with_reducible assumption | with_reducible exact AH.le.refl _ | with_reducible apply AH.le.up | (with_reducible refine AH.le.put hw ?_ ?_; · first | omega | (simp only [up_nx, put_nx, kill_nx]; done) | (simp only [up_nx, put_nx, kill_nx]; omega)) | (with_reducible refine AH.le.kill hw ?_ ?_; · first | omega | (simp only [up_nx, put_nx, kill_nx]; done) | (simp only [up_nx, put_nx, kill_nx]; omega)))), (by first | omega | (simp only [up_nx, put_nx]; done) | (simp only [up_nx, put_nx]; omega)), by simp (disch := first | omega | simp) [put_get_ne], by simp (disch := first | omega | simp)⟩
    generalize hn' : (if t.kind = 1 ∧ d ≤ t.num then IntKind.i64.wrap (t.num + by_) else t.num) = n' at *
    rintro _ M hMn' hwM ⟨hMl, hMn, hMb, hMc⟩
    generalize ht' : (⟨t.kind, n', t.type, t.kids⟩ : Tm) = t' at *
    have hk' : t'.kind = t.kind := by rw [← ht']
    have hks' : t'.kids = t.kids := by rw [← ht']
    unfold S_wordhoardref_lifted_K3
    refine cut_st (fun _ : Unit => [iv (if t.kind = 3 then d + 1 else d)]) (fun _ H' => M = H') (fun k hk => ?_) ?_
    · by_cases h3 : t.kind = 3
      · simp (disch := first | omega | simp) [iv, hMb, Tm.cs_g0, h3, hk', hwr]
        exact hk () _ _ _ (by simp [h3]; exact .refl (Nat.le_refl _)) rfl
      · simp (disch := first | omega | simp) [iv, hMb, Tm.cs_g0, h3, hk']
        exact hk () _ _ _ (by simp [h3]; exact .refl (Nat.le_refl _)) rfl
    rintro _ H2 hn2 rfl
    generalize hd' : (if t.kind = 3 then d + 1 else d) = d' at *
    have hd2 : 0 ≤ d' ∧ d' ≤ d + 1 := by rw [← hd']; split <;> omega
    unfold S_wordhoardref_lifted_K2
    have hw := hwM
    refine loop_st (fun s : AV × Nat => [s.1, iv s.2]) (fun s H' => M.le H' ∧ M.nx ≤ H'.nx ∧ s.2 ≤ t.kids.length ∧ Grows 27 6 M H' s.1 ((t.kids.take s.2).map fun x => (Tm.lift by_ d' x).cs)) (fun s => t.kids.length - s.2) (.p (.slice none 0 0), 0) (.refl (Nat.le_refl _)) ⟨.refl _, Nat.le_refl _, Nat.zero_le _, .nil _ _ _ _⟩ ?_
    rintro ⟨v, i⟩ H1 hn1 ⟨hle, hn, hi, hgr⟩ k hk
    dsimp only at hi hgr hk
    have hb1 := hle _ _ hMb
    have hc1 := hle _ _ hMc
    unfold S_wordhoardref_lifted_L1
    by_cases hil : i < t.kids.length
    · obtain ⟨x, hx⟩ : ∃ x, t.kids[i]? = some x := ⟨_, List.getElem?_eq_getElem hil⟩
      have hxg : ∀ h, t.kids[i]'h = x := fun h => (List.getElem?_eq_some_iff.1 hx).2
      have hiv := ivn (i := i) (by omega)
      have hxs := Tm.sizes_mem (List.mem_of_getElem? hx)
      simp (disch := first | omega | simp) [iv, hil, hxg, Tm.cs_len, Tm.cs_g5, Tm.cs_take, hb1, hks']
      refine ca_pure (by kernel_rfl) (ih x (by omega) (by omega) by_ d' hd2.1 (by omega) _) ?_
      simp (disch := first | omega | simp) [Tm.av, Tm.cs_len, Tm.cs_take]
      refine Grows.app (ys := [(Tm.lift by_ d' x).cs]) hw (hgr.kp (by repeat (first | with_reducible assumption | with_reducible exact Kp.refl _ | with_reducible apply Kp.up | (with_reducible refine Kp.put ?_ ?_; · first | omega | (simp only [up_nx, put_nx, kill_nx]; done) | (simp only [up_nx, put_nx, kill_nx]; omega)) | (with_reducible refine Kp.kill ?_ ?_; · first | omega | (simp only [up_nx, put_nx, kill_nx]; done) | (simp only [up_nx, put_nx, kill_nx]; omega))))) (by repeat (first | with_reducible assumption | with_reducible exact AH.le.refl _ | with_reducible apply AH.le.up | (with_reducible refine AH.le.put hw ?_ ?_; · first | omega | (simp only [up_nx, put_nx, kill_nx]; done) | (simp only [up_nx, put_nx, kill_nx]; omega)) | (with_reducible refine AH.le.kill hw ?_ ?_; · first | omega | (simp only [up_nx, put_nx, kill_nx]; done) | (simp only [up_nx, put_nx, kill_nx]; omega)))) (by first | omega | (simp only [up_nx, put_nx, kill_nx]; done) | (simp only [up_nx, put_nx, kill_nx]; omega)) (by first | omega | (simp only [up_nx, put_nx]; done) | (simp only [up_nx, put_nx]; omega)) ?_ (dt_tm [_]) ?_ ?_ fun v' H3 g3 l3 n3 k3 _ => ?_
      · simp (disch := first | omega | simp)
      · rw [List.length_map, List.length_take]; simp only [List.length_singleton]; omega
      · rw [List.length_map, List.length_take]; simp only [List.length_singleton]; omega
      · rw [q_add_i, hiv]
        simp only [up_nx, put_nx] at n3
        refine hk (v', i + 1) _ _ _ (.refl (by omega)) ⟨l3, by omega, hil, ?_⟩ (by dsimp only; omega)
        dsimp only
        rw [List.take_add_one, hx, Option.toList_some, List.map_append]; exact g3
    · have hie : i = t.kids.length := by omega
      subst hie
      rw [List.take_length] at hgr
      obtain ⟨hp1, hp2⟩ := hgr.part
      simp (disch := first | omega | simp) [iv, Tm.cs_len, Tm.cs_g5, put_get_ne, hb1, hc1, hks', hp1, hp2]
      refine Grows.rt_in (M := H) (v' := (Tm.lift by_ d t).av) (u := v) (t := 27) (sz := 6) (es := t.kids.map fun x => (Tm.lift by_ d' x).cs) ?_ hw0 ?_ (by first | omega | (simp only [up_nx, put_nx]; done) | (simp only [up_nx, put_nx]; omega)) hw0 (.refl _) (Nat.le_refl _) ?_ (.agg (Tm.cl _ _)) ⟨rfl, rfl⟩
      · refine (hgr.base (H0 := H) (by omega)).same (by first | omega | (simp only [up_nx, put_nx]; done) | (simp only [up_nx, put_nx]; omega)) fun j hj ⟨n, hv⟩ => ?_
        have := hgr.ge hv
        simp (disch := first | omega | simp) [put_get_ne]
      · have hw := hw0; have h1 := hMl.trans hle; exact (by repeat (first | with_reducible assumption | with_reducible exact AH.le.refl _ | with_reducible apply AH.le.up | (with_reducible refine AH.le.put hw ?_ ?_; · first | omega | (simp only [up_nx, put_nx, kill_nx]; done) | (simp only [up_nx, put_nx, kill_nx]; omega)) | (with_reducible refine AH.le.kill hw ?_ ?_; · first | omega | (simp only [up_nx, put_nx, kill_nx]; done) | (simp only [up_nx, put_nx, kill_nx]; omega))))
      · intro H2 hs
        rw [show (List.take 6 (List.take 6 (List.take 5 t'.cs ++ v :: List.drop 6 t'.cs))) = [iv t'.kind, iv t'.num, iv t'.type.kind, iv t'.type.num, .dsl 3 (t'.type.kids.map Ty.cs), v] by rw [Tm.cs_eq]; rfl]
        rw [hl, Tm.av_eq, List.map_map, ← ht']
        exact .agg (.cons (.refl _) (.cons (.refl _) (.cons (.refl _) (.cons (.refl _) (.cons (.refl _) (.cons hs .nil))))))
end Go.Proofs.Ytkocpdekknfmaaa

/- The document's own step: replaced. -/
namespace Go.Proofs.Ytkocpdekknfmaaa
open Go.RowKit Go.Maps
mutual
/-- x in a variable's place, as long as there is room; what room is left -/
def Tm.repl (x : Tm) : Int → Tm → Int → (Tm × Bool) × Int
  | d, ⟨k, n, ty, ks⟩, l =>
    if k = 1 ∧ n = d then ((Tm.lift d 0 x, decide (0 ≤ l - (x.size : Int))), l - (x.size : Int))
    else if l - 1 < 0 then ((⟨k, n, ty, ks⟩, false), l - 1)
    else match Tm.repls x (if k = 3 then d + 1 else d) ks (l - 1) with
      | (some ks', l') => ((⟨k, if k = 1 ∧ d < n then IntKind.i64.wrap (n - 1) else n, ty, ks'⟩, true), l')
      | (none, l') => ((⟨k, if k = 1 ∧ d < n then IntKind.i64.wrap (n - 1) else n, ty, ks⟩, false), l')
def Tm.repls (x : Tm) : Int → List Tm → Int → Option (List Tm) × Int
  | _, [], l => (some [], l)
  | d, t :: r, l =>
    if (Tm.repl x d t l).1.2 = true then
      (match Tm.repls x d r (Tm.repl x d t l).2 with
      | (some ys, l') => (some ((Tm.repl x d t l).1.1 :: ys), l')
      | (none, l') => (none, l'))
    else (none, (Tm.repl x d t l).2)
end
theorem Tm.repl_eq (x : Tm) (d : Int) (t : Tm) (l : Int) : Tm.repl x d t l = if t.kind = 1 ∧ t.num = d then ((Tm.lift d 0 x, decide (0 ≤ l - (x.size : Int))), l - (x.size : Int))
    else if l - 1 < 0 then ((t, false), l - 1)
    else match Tm.repls x (if t.kind = 3 then d + 1 else d) t.kids (l - 1) with
      | (some ks', l') => ((⟨t.kind, if t.kind = 1 ∧ d < t.num then IntKind.i64.wrap (t.num - 1) else t.num, t.type, ks'⟩, true), l')
      | (none, l') => ((⟨t.kind, if t.kind = 1 ∧ d < t.num then IntKind.i64.wrap (t.num - 1) else t.num, t.type, t.kids⟩, false), l') := by cases t; rw [Tm.repl]
mutual
/-- where there is room it is what is put there -/
theorem Tm.repl_law (x : Tm) : ∀ (t : Tm) (d l : Int), t.good → 0 ≤ l → (((Tm.put x d t).size : Int) ≤ l → Tm.repl x d t l = ((Tm.put x d t, true), l - (Tm.put x d t).size)) ∧ (l < ((Tm.put x d t).size : Int) → (Tm.repl x d t l).1.2 = false)
  | ⟨k, n, ty, ks⟩, d, l, hg, hl => by
    obtain ⟨⟨_, _, h1, _⟩, hs⟩ := (Tm.good_mk _ _ _ _).1 hg
    rw [Tm.put_mk, Tm.repl]
    by_cases h : k = 1 ∧ n = d
    · rw [if_pos h, if_pos h, Tm.size_lift _ _ _ (Nat.le_refl _)]
      exact ⟨fun hh => by rw [decide_eq_true (by omega)], fun hh => decide_eq_false (by omega)⟩
    · rw [if_neg h, if_neg h]
      obtain ⟨i1, i2⟩ := Tm.repls_law x ks (if k = 3 then d + 1 else d) (l - 1) hs
      rw [Tm.size_mk]
      simp only [Int.natCast_add, Int.natCast_one]
      by_cases h0 : l - 1 < 0
      · rw [if_pos h0]
        exact ⟨fun hh => absurd hh (by omega), fun _ => rfl⟩
      · rw [if_neg h0]
        constructor
        · intro hh
          rw [(i1 (by omega) (by omega))]
          simp only
          congr 1
          omega
        · intro hh
          have := i2 (by omega) (by omega)
          generalize Tm.repls x (if k = 3 then d + 1 else d) ks (l - 1) = q at *
          obtain ⟨q1, q2⟩ := q
          simp only at this
          subst this
          rfl
theorem Tm.repls_law (x : Tm) : ∀ (ks : List Tm) (d l : Int), Tm.goods ks → (0 ≤ l → (Tm.sizes (ks.map (Tm.put x d)) : Int) ≤ l → Tm.repls x d ks l = (some (ks.map (Tm.put x d)), l - (Tm.sizes (ks.map (Tm.put x d)) : Int))) ∧ (0 ≤ l → l < (Tm.sizes (ks.map (Tm.put x d)) : Int) → (Tm.repls x d ks l).1 = none)
  | [], d, l, _ => by
    rw [Tm.repls, List.map_nil, Tm.sizes]
    exact ⟨fun _ _ => by simp, fun _ h => by simp at h; omega⟩
  | t :: r, d, l, hg => by
    rw [Tm.repls, List.map_cons, Tm.sizes]
    simp only [Int.natCast_add]
    constructor
    · intro h0 h
      rw [(Tm.repl_law x t d l hg.1 h0).1 (by omega)]
      simp only [if_true]
      rw [(Tm.repls_law x r d (l - (Tm.put x d t).size) hg.2).1 (by omega) (by omega)]
      simp only
      congr 1
      omega
    · intro h0 h
      by_cases hf : ((Tm.put x d t).size : Int) ≤ l
      · rw [(Tm.repl_law x t d l hg.1 h0).1 hf]
        simp only [if_true]
        have := (Tm.repls_law x r d (l - (Tm.put x d t).size) hg.2).2 (by omega) (by omega)
        generalize Tm.repls x d r (l - (Tm.put x d t).size) = q at *
        obtain ⟨q1, q2⟩ := q
        simp only at this
        subst this
        rfl
      · rw [if_neg (by rw [(Tm.repl_law x t d l hg.1 h0).2 (by omega)]; simp)]
end
mutual
theorem Tm.repl_low (x : Tm) (hx : x.size ≤ 400) : ∀ (t : Tm) (d l : Int), 0 ≤ l → -400 ≤ (Tm.repl x d t l).2 ∧ (Tm.repl x d t l).2 ≤ l ∧ ((Tm.repl x d t l).1.2 = true → 0 ≤ (Tm.repl x d t l).2)
  | ⟨k, n, ty, ks⟩, d, l, hl => by
    rw [Tm.repl]
    split
    · refine ⟨by simp only; omega, by simp only; omega, fun h => of_decide_eq_true h⟩
    · split
      · refine ⟨by simp only; omega, by simp only; omega, fun h => by cases h⟩
      · have := Tm.repls_low x hx ks (if k = 3 then d + 1 else d) (l - 1) (by omega)
        generalize Tm.repls x (if k = 3 then d + 1 else d) ks (l - 1) = q at *
        obtain ⟨q1, q2⟩ := q
        cases q1 with
        | none => exact ⟨this.1, by simp only at this ⊢; omega, fun h => by cases h⟩
        | some ys => exact ⟨this.1, by simp only at this ⊢; omega, fun _ => this.2.2 rfl⟩
theorem Tm.repls_low (x : Tm) (hx : x.size ≤ 400) : ∀ (ks : List Tm) (d l : Int), 0 ≤ l → -400 ≤ (Tm.repls x d ks l).2 ∧ (Tm.repls x d ks l).2 ≤ l ∧ ((Tm.repls x d ks l).1.isSome = true → 0 ≤ (Tm.repls x d ks l).2)
  | [], d, l, hl => by rw [Tm.repls]; exact ⟨by simp only; omega, Int.le_refl _, fun _ => hl⟩
  | t :: r, d, l, hl => by
    rw [Tm.repls]
    have h1 := Tm.repl_low x hx t d l hl
    split
    · rename_i ht
      have h2 := Tm.repls_low x hx r d (Tm.repl x d t l).2 (h1.2.2 ht)
      generalize Tm.repls x d r (Tm.repl x d t l).2 = q at *
      obtain ⟨q1, q2⟩ := q
      cases q1 with
      | none => exact ⟨h2.1, by simp only at h2 ⊢; omega, fun h => by cases h⟩
      | some ys => exact ⟨h2.1, by simp only at h2 ⊢; omega, fun _ => h2.2.2 rfl⟩
    · exact ⟨h1.1, h1.2.1, fun h => by cases h⟩
end
/-- what is told of the rest of the kids, from k on -/
theorem Tm.repls_at {x : Tm} {ks : List Tm} {i : Nat} {y : Tm} (d l : Int) (h : ks[i]? = some y) : Tm.repls x d (ks.drop i) l = if (Tm.repl x d y l).1.2 = true then
      (match Tm.repls x d (ks.drop (i + 1)) (Tm.repl x d y l).2 with
      | (some ys, l') => (some ((Tm.repl x d y l).1.1 :: ys), l')
      | (none, l') => (none, l'))
    else (none, (Tm.repl x d y l).2) := by
  obtain ⟨h1, h2⟩ := List.getElem?_eq_some_iff.1 h
  rw [List.drop_eq_getElem_cons h1, Tm.repls, h2]
theorem Tm.repls_end {x : Tm} {ks : List Tm} {i : Nat} {d l : Int} (h : ks.length ≤ i) : Tm.repls x d (ks.drop i) l = (some [], l) := by rw [List.drop_eq_nil_iff.2 h, Tm.repls]
section
variable {H X : AH} {p : Nat}
theorem le_rebase {a b : AO} (h : (H.put p a).le X) : (H.put p b).le (X.put p b) := fun j o hj => by
  by_cases e : j = p
  · subst e; rw [AH.get_put_self] at hj ⊢; exact hj
  · rw [AH.get_put_ne e] at hj ⊢; exact h j o (by rw [AH.get_put_ne e]; exact hj)
theorem le_base {b : AO} (h : H.le X) : (H.put p b).le (X.put p b) := fun j o hj => by
  by_cases e : j = p
  · subst e; rw [AH.get_put_self] at hj ⊢; exact hj
  · rw [AH.get_put_ne e] at hj ⊢; exact h j o hj
end
end Go.Proofs.Ytkocpdekknfmaaa

/- The document's own step: replaced, walked. -/
namespace Go.Proofs.Ytkocpdekknfmaaa
open Go.RowKit Go.Maps
theorem rt_tupP {P : Program} {H H1 : AH} {p : Nat} {o : AO} {vs : List AV} {Q : AV → AH → Prop} (hw : WF (H.put p o)) (hle : (H.put p o).le H1) (hc : Clo H.nx vs) (hq : Q (.tup vs) (H.put p o)) : Rt P H.nx (.tup vs) Q H1 := rt_tup (H0 := H.put p o) hw hle hc hq
set_option maxHeartbeats 4000000 in
theorem c_repl (x : Tm) (hx : x.size ≤ 400) (N : Nat) : ∀ t : Tm, t.size ≤ N → N ≤ 400 → ∀ d : Int, 0 ≤ d → d + N ≤ 100000 → ∀ l : Int, 0 ≤ l → l ≤ 1000 → ∀ (p : Nat) (H : AH), H.get p = some (.box 3 [iv l]) →
    Tri Try.prog 47 [t.av, x.av, iv d, .ptr p 0] H (fun r H' => H' = H.put p (.box 3 [iv (Tm.repl x d t l).2]) ∧ r = .tup [(Tm.repl x d t l).1.1.av, bv (Tm.repl x d t l).1.2]) := by
  induction N with
  | zero => intro t ht; have := t.size_pos; omega
  | succ N ih =>
    intro t ht hN d hd0 hd1 l hl0 hl1 p H hgp
    refine tri_wf fun hw => tri_wordhoardref_replaced ?_
    have hml : maxLen = 9223372036854775807 := by decide
    have hp : p < H.nx := (hw _ _ hgp).1
    have hsz := t.size_eq
    have hxp := x.size_pos
    have hlk := Tm.len_sizes t.kids
    have hre := Tm.repl_eq x d t l
    have hwr : IntKind.i64.wrap (d + 1) = d + 1 := wrapI (by omega) (by omega)
    have hwl : IntKind.i64.wrap (l - (x.size : Int)) = l - (x.size : Int) := wrapI (by omega) (by omega)
    have hw1 : IntKind.i64.wrap (l - 1) = l - 1 := wrapI (by omega) (by omega)
    have hws : ∀ q, WF (H.put p (.box 3 [.p (.int .i64 q)])) := fun q => hw.box hp (by repeat (first | exact Cl.p _ | exact Cl.dsl _ _ | exact Cl.any | refine Cl.tup ?_ | refine Cl.agg ?_ | exact Clo.nil | refine Clo.cons ?_ ?_))
    rw [show iv l = .p (.int .i64 l) from rfl] at hgp
    unfold S_wordhoardref_replaced
    by_cases h1 : t.kind = 1 ∧ t.num = d
    · obtain ⟨k1, n1⟩ := h1
      rw [if_pos ⟨k1, n1⟩] at hre
      simp (disch := first | omega | simp) [iv, Tm.av, Tm.cs_len, Tm.cs_g0, Tm.cs_g1, Tm.cs_take, put_get_ne, hgp, k1, n1]
      refine cav_pure (by kernel_rfl) (fun H2 _ => c_RTermSize x.size x (Nat.le_refl _) 400 H2 (by decide) (by decide)) ?_
      rw [capN_low (by omega)]
      simp (disch := first | omega | simp) [iv, put_get_ne, hgp, hwl]
      refine ⟨[H.nx + 2], ?_⟩
      simp (disch := first | omega | simp) [Tm.cs_len, Tm.cs_take, put_get_ne, del_get_ne]
      refine cav_pure (by kernel_rfl) (fun H2 _ => c_lifted x.size x (Nat.le_refl _) (by omega) d 0 (by decide) (by omega) H2) ?_
      simp (disch := first | omega | simp) [Tm.av, del_get_ne]
      refine wro_st (t := 27) (cs := [.p (.int .i64 0), .p (.int .i64 0), .p (.int .i64 0), .p (.int .i64 0), .p (.slice none 0 0), .p (.slice none 0 0)]) (by omega) (by simp) (by simp (disch := first | omega | simp) [put_get_ne]) rfl (by simp (disch := first | omega | simp) [Tm.cs_len]) (by simp) ?_
      simp (disch := first | omega | simp) [Tm.cs_len, Tm.cs_take]
      generalize hX : (((H.up 4).put H.nx (.box 27 t.cs)).put (H.nx + 1) (.box 27 x.cs)).put (H.nx + 2) (.box 27 [.p (.int .i64 0), .p (.int .i64 0), .p (.int .i64 0), .p (.int .i64 0), .p (.slice none 0 0), .p (.slice none 0 0)]) = X
      have hHX : H.le X := by rw [← hX]; exact (by repeat (first | with_reducible assumption | with_reducible exact AH.le.refl _ | with_reducible apply AH.le.up | (with_reducible refine AH.le.put hw ?_ ?_; · first | omega | (simp only [up_nx, put_nx, kill_nx]; done) | (simp only [up_nx, put_nx, kill_nx]; omega)) | (with_reducible refine AH.le.kill hw ?_ ?_; · first | omega | (simp only [up_nx, put_nx, kill_nx]; done) | (simp only [up_nx, put_nx, kill_nx]; omega))))
      refine rt_tupP (hws (l - (x.size : Int))) ?_ (.cons (.agg (Tm.cl _ _)) (.cons (Cl.p _) .nil)) ⟨by rw [hre], by rw [hre]; simp [bv]⟩
      have h2 := le_base (p := p) (b := .box 3 [.p (.int .i64 (l - (x.size : Int)))]) (H := H) (X := X.up 8) (by repeat (first | with_reducible assumption | with_reducible exact AH.le.refl _ | with_reducible apply AH.le.up | (with_reducible refine AH.le.put hw ?_ ?_; · first | omega | (simp only [up_nx, put_nx, kill_nx]; done) | (simp only [up_nx, put_nx, kill_nx]; omega)) | (with_reducible refine AH.le.kill hw ?_ ?_; · first | omega | (simp only [up_nx, put_nx, kill_nx]; done) | (simp only [up_nx, put_nx, kill_nx]; omega))))
      have hw := hws (l - (x.size : Int))
      exact (by repeat (first | with_reducible assumption | with_reducible exact AH.le.refl _ | with_reducible apply AH.le.up | (with_reducible refine AH.le.put hw ?_ ?_; · first | omega | (simp only [put_nx]; done) | (simp only [put_nx]; omega)) | (with_reducible refine AH.le.kill hw ?_ ?_; · first | omega | (simp only [up_nx, put_nx, kill_nx]; done) | (simp only [up_nx, put_nx, kill_nx]; omega))))
    · rw [if_neg h1] at hre
      have hc : t.kind ≠ 1 ∨ (t.kind = 1 ∧ t.num ≠ d) := by by_cases h : t.kind = 1; exact .inr ⟨h, fun e => h1 ⟨h, e⟩⟩; exact .inl h
      have key : S_wordhoardref_replaced_C5 (.p (.int .i64 d)) (.ptr p 0) (fun r H' => H' = H.put p (.box 3 [iv (Tm.repl x d t l).2]) ∧ r = .tup [(Tm.repl x d t l).1.1.av, bv (Tm.repl x d t l).1.2]) H (.ptr H.nx 0) (.ptr (H.nx + 1) 0) (.ptr (H.nx + 2) 0) ((((H.up 4).put H.nx (.box 27 t.cs)).put (H.nx + 1) (.box 27 x.cs)).put (H.nx + 2) (.box 27 [.p (.int .i64 0), .p (.int .i64 0), .p (.int .i64 0), .p (.int .i64 0), .p (.slice none 0 0), .p (.slice none 0 0)])) := by
        unfold S_wordhoardref_replaced_C5
        by_cases hneg : l - 1 < 0
        · rw [if_pos hneg] at hre
          simp (disch := first | omega | simp) [iv, Tm.av, Tm.cs_len, Tm.cs_take, put_get_ne, hgp, hw1, hneg]
          generalize hX : (((H.up 4).put H.nx (.box 27 t.cs)).put (H.nx + 1) (.box 27 x.cs)).put (H.nx + 2) (.box 27 [.p (.int .i64 0), .p (.int .i64 0), .p (.int .i64 0), .p (.int .i64 0), .p (.slice none 0 0), .p (.slice none 0 0)]) = X
          have hHX : H.le X := by rw [← hX]; exact (by repeat (first | with_reducible assumption | with_reducible exact AH.le.refl _ | with_reducible apply AH.le.up | (with_reducible refine AH.le.put hw ?_ ?_; · first | omega | (simp only [up_nx, put_nx, kill_nx]; done) | (simp only [up_nx, put_nx, kill_nx]; omega)) | (with_reducible refine AH.le.kill hw ?_ ?_; · first | omega | (simp only [up_nx, put_nx, kill_nx]; done) | (simp only [up_nx, put_nx, kill_nx]; omega))))
          refine rt_tupP (hws (l - 1)) ?_ (.cons (.agg (Tm.cl _ _)) (.cons (Cl.p _) .nil)) ⟨by rw [hre], by rw [hre]; rfl⟩
          have h2 := le_base (p := p) (b := .box 3 [.p (.int .i64 (l - 1))]) (H := H) (X := X.up 6) (by repeat (first | with_reducible assumption | with_reducible exact AH.le.refl _ | with_reducible apply AH.le.up | (with_reducible refine AH.le.put hw ?_ ?_; · first | omega | (simp only [up_nx, put_nx, kill_nx]; done) | (simp only [up_nx, put_nx, kill_nx]; omega)) | (with_reducible refine AH.le.kill hw ?_ ?_; · first | omega | (simp only [up_nx, put_nx, kill_nx]; done) | (simp only [up_nx, put_nx, kill_nx]; omega))))
          have hw := hws (l - 1)
          exact (by repeat (first | with_reducible assumption | with_reducible exact AH.le.refl _ | with_reducible apply AH.le.up | (with_reducible refine AH.le.put hw ?_ ?_; · first | omega | (simp only [put_nx]; done) | (simp only [put_nx]; omega)) | (with_reducible refine AH.le.kill hw ?_ ?_; · first | omega | (simp only [up_nx, put_nx, kill_nx]; done) | (simp only [up_nx, put_nx, kill_nx]; omega))))
        · rw [if_neg hneg] at hre
          simp (disch := first | omega | simp) [iv, Tm.av, put_get_ne, hgp, hw1, hneg]
          generalize hX : ((((((H.up 4).put H.nx (.box 27 t.cs)).put (H.nx + 1) (.box 27 x.cs)).put (H.nx + 2) (.box 27 [.p (.int .i64 0), .p (.int .i64 0), .p (.int .i64 0), .p (.int .i64 0), .p (.slice none 0 0), .p (.slice none 0 0)])).up 6).put p (.box 3 [.p (.int .i64 (l - 1))])) = X
          have hXn : X.nx = H.nx + 10 := by rw [← hX]; rfl
          have hXl : (H.put p (.box 3 [.p (.int .i64 (l - 1))])).le X := by rw [← hX]; exact le_base (by repeat (first | with_reducible assumption | with_reducible exact AH.le.refl _ | with_reducible apply AH.le.up | (with_reducible refine AH.le.put hw ?_ ?_; · first | omega | (simp only [up_nx, put_nx, kill_nx]; done) | (simp only [up_nx, put_nx, kill_nx]; omega)) | (with_reducible refine AH.le.kill hw ?_ ?_; · first | omega | (simp only [up_nx, put_nx, kill_nx]; done) | (simp only [up_nx, put_nx, kill_nx]; omega))))
          have hXb : X.get H.nx = some (.box 27 t.cs) := by rw [← hX]; simp (disch := first | omega | simp) [put_get_ne]
          have hXc : X.get (H.nx + 1) = some (.box 27 x.cs) := by rw [← hX]; simp (disch := first | omega | simp) [put_get_ne]
          have hXd : X.get (H.nx + 2) = some (.box 27 [.p (.int .i64 0), .p (.int .i64 0), .p (.int .i64 0), .p (.int .i64 0), .p (.slice none 0 0), .p (.slice none 0 0)]) := by rw [← hX]; simp (disch := first | omega | simp) [put_get_ne]
          clear hX
          have hwP := hws (l - 1)
          have hw0 := hw
          refine cut_wf (fun _ : Unit => []) (fun _ H' => (H.put p (.box 3 [.p (.int .i64 (l - 1))])).le H' ∧ H.nx + 10 ≤ H'.nx ∧ H'.get H.nx = some (.box 27 (Tm.cs ⟨t.kind, if t.kind = 1 ∧ d < t.num then IntKind.i64.wrap (t.num - 1) else t.num, t.type, t.kids⟩)) ∧ H'.get (H.nx + 1) = some (.box 27 x.cs) ∧ H'.get (H.nx + 2) = some (.box 27 [.p (.int .i64 0), .p (.int .i64 0), .p (.int .i64 0), .p (.int .i64 0), .p (.slice none 0 0), .p (.slice none 0 0)])) (fun k hk => ?_) ?_
          · by_cases h2 : t.kind = 1 ∧ d < t.num
            · obtain ⟨k1, n1⟩ := h2
              simp (disch := first | omega | simp) [iv, Tm.cs_len, Tm.cs_g0, Tm.cs_g1, k1, n1, hXb]
              refine hk () _ _ _ (.refl (by first | omega | (simp only [up_nx, put_nx]; done) | (simp only [up_nx, put_nx]; omega))) ⟨by have hw := hwP; exact (by repeat (first | with_reducible assumption | with_reducible exact AH.le.refl _ | with_reducible apply AH.le.up | (with_reducible refine AH.le.put hw ?_ ?_; · first | omega | (simp only [put_nx]; done) | (simp only [put_nx]; omega)) | (with_reducible refine AH.le.kill hw ?_ ?_; · first | omega | (simp only [up_nx, put_nx, kill_nx]; done) | (simp only [up_nx, put_nx, kill_nx]; omega)))), (by first | omega | (simp only [up_nx, put_nx]; done) | (simp only [up_nx, put_nx]; omega)), ?_, by simp (disch := first | omega | simp) [put_get_ne, hXc], by simp (disch := first | omega | simp) [put_get_ne, hXd]⟩
              rw [put_get, if_pos ⟨k1, n1⟩, Tm.cs_eq, Tm.cs_eq]; rfl
            · have hc2 : t.kind ≠ 1 ∨ (t.kind = 1 ∧ ¬ d < t.num) := by omega
              have he : (⟨t.kind, if t.kind = 1 ∧ d < t.num then IntKind.i64.wrap (t.num - 1) else t.num, t.type, t.kids⟩ : Tm) = t := by rw [if_neg h2]; cases t; rfl
              rw [he] at hk
              rcases hc2 with k1 | ⟨k1, n1⟩
              · simp (disch := first | omega | simp) [iv, Tm.cs_g0, k1, hXb]
                exact hk () _ _ _ (.refl (by first | omega | (simp only [up_nx, put_nx, kill_nx]; done) | (simp only [up_nx, put_nx, kill_nx]; omega))) ⟨hXl, (by first | omega | (simp only [up_nx, put_nx, kill_nx]; done) | (simp only [up_nx, put_nx, kill_nx]; omega)), hXb, hXc, hXd⟩
              · simp (disch := first | omega | simp) [iv, Tm.cs_g0, Tm.cs_g1, k1, n1, hXb]
                exact hk () _ _ _ (.refl (by first | omega | (simp only [up_nx, put_nx, kill_nx]; done) | (simp only [up_nx, put_nx, kill_nx]; omega))) ⟨hXl, (by first | omega | (simp only [up_nx, put_nx, kill_nx]; done) | (simp only [up_nx, put_nx, kill_nx]; omega)), hXb, hXc, hXd⟩
          generalize hn' : (if t.kind = 1 ∧ d < t.num then IntKind.i64.wrap (t.num - 1) else t.num) = n' at *
          rintro _ M hMn' hwM ⟨hMl, hMn, hMb, hMc, hMd⟩
          generalize ht' : (⟨t.kind, n', t.type, t.kids⟩ : Tm) = t' at *
          have hk' : t'.kind = t.kind := by rw [← ht']
          have hks' : t'.kids = t.kids := by rw [← ht']
          unfold S_wordhoardref_replaced_K4
          refine cut_st (fun _ : Unit => [iv (if t.kind = 3 then d + 1 else d)]) (fun _ H' => M = H') (fun k hk => ?_) ?_
          · by_cases h3 : t.kind = 3
            · simp (disch := first | omega | simp) [iv, hMb, Tm.cs_g0, h3, hk', hwr]
              exact hk () _ _ _ (by simp [h3]; exact .refl (Nat.le_refl _)) rfl
            · simp (disch := first | omega | simp) [iv, hMb, Tm.cs_g0, h3, hk']
              exact hk () _ _ _ (by simp [h3]; exact .refl (Nat.le_refl _)) rfl
          rintro _ H2 hn2 rfl
          generalize hd' : (if t.kind = 3 then d + 1 else d) = d' at *
          have hd2 : 0 ≤ d' ∧ d' ≤ d + 1 := by rw [← hd']; split <;> omega
          unfold S_wordhoardref_replaced_K3
          have hMp : M.get p = some (.box 3 [.p (.int .i64 (l - 1))]) := hMl _ _ (put_get _ _)
          have hwMp : ∀ q, WF (M.put p (.box 3 [.p (.int .i64 q)])) := fun q => hwM.box (by omega) (by repeat (first | exact Cl.p _ | exact Cl.dsl _ _ | exact Cl.any | refine Cl.tup ?_ | refine Cl.agg ?_ | exact Clo.nil | refine Clo.cons ?_ ?_))
          have hHMp : ∀ q, (H.put p (.box 3 [.p (.int .i64 q)])).le (M.put p (.box 3 [.p (.int .i64 q)])) := fun q => le_rebase hMl
          have hMM : (M.put p (.box 3 [.p (.int .i64 (l - 1))])).le M := fun j o hj => by
            by_cases e : j = p
            · subst e; rw [put_get] at hj; rw [hMp]; exact hj
            · rw [AH.get_put_ne e] at hj; exact hj
          refine loop_wf (fun s : AV × Nat × Int × List Tm => [s.1, iv s.2.1]) (fun s H' => (M.put p (.box 3 [.p (.int .i64 s.2.2.1)])).le H' ∧ M.nx ≤ H'.nx ∧ s.2.1 ≤ t.kids.length ∧ (0 ≤ s.2.2.1 ∧ s.2.2.1 ≤ l) ∧ s.2.2.2.length = s.2.1 ∧ Grows 27 6 M H' s.1 (s.2.2.2.map Tm.cs) ∧
            Tm.repls x d' t.kids (l - 1) = (match Tm.repls x d' (t.kids.drop s.2.1) s.2.2.1 with | (some zs, l') => (some (s.2.2.2 ++ zs), l') | (none, l') => (none, l'))) (fun s => t.kids.length - s.2.1) (.p (.slice none 0 0), 0, l - 1, []) (.refl (Nat.le_refl _)) ⟨hMM, Nat.le_refl _, Nat.zero_le _, by dsimp only; omega, rfl, .nil _ _ _ _, by
              dsimp only
              rw [List.drop_zero]
              generalize Tm.repls x d' t.kids (l - 1) = q
              obtain ⟨q1, q2⟩ := q
              cases q1 <;> rfl⟩ ?_
          rintro ⟨v, i, cl, ys⟩ H1 hn1 hw1 ⟨hle, hn, hi, hcl, hyl, hgr, hrr⟩ k hk
          dsimp only at hle hi hcl hyl hgr hrr hk
          have hb1 : H1.get H.nx = some (.box 27 t'.cs) := hle _ _ (by rw [AH.get_put_ne (by omega)]; exact hMb)
          have hc1 : H1.get (H.nx + 1) = some (.box 27 x.cs) := hle _ _ (by rw [AH.get_put_ne (by omega)]; exact hMc)
          have hd1' : H1.get (H.nx + 2) = some (.box 27 [.p (.int .i64 0), .p (.int .i64 0), .p (.int .i64 0), .p (.int .i64 0), .p (.slice none 0 0), .p (.slice none 0 0)]) := hle _ _ (by rw [AH.get_put_ne (by omega)]; exact hMd)
          have hp1 : H1.get p = some (.box 3 [.p (.int .i64 cl)]) := hle _ _ (put_get _ _)
          unfold S_wordhoardref_replaced_L2
          by_cases hil : i < t.kids.length
          · obtain ⟨y, hy⟩ : ∃ y, t.kids[i]? = some y := ⟨_, List.getElem?_eq_getElem hil⟩
            have hyg : ∀ h, t.kids[i]'h = y := fun h => (List.getElem?_eq_some_iff.1 hy).2
            have hiv := ivn (i := i) (by omega)
            have hys := Tm.sizes_mem (List.mem_of_getElem? hy)
            simp (disch := first | omega | simp) [iv, hil, Tm.cs_g5, hb1, hks']
            unfold S_wordhoardref_replaced_C1
            simp (disch := first | omega | simp) [hil, hyg, Tm.cs_len, Tm.cs_g5, Tm.cs_take, hb1, hc1, hks']
            refine cap_one (i := p) (o := .box 3 [.p (.int .i64 (Tm.repl x d' y cl).2)]) (by kernel_rfl) (by omega) (fun H2 hag => ih y (by omega) (by omega) d' hd2.1 (by omega) cl hcl.1 (by omega) p H2 (by rw [hag p (by omega)]; exact hp1)) ?_
            have hlow := Tm.repl_low x hx y d' cl hcl.1
            rw [Tm.repls_at d' cl hy] at hrr
            generalize hQ : Tm.repl x d' y cl = Q at *
            obtain ⟨⟨z, ok⟩, cl'⟩ := Q
            dsimp only at hlow hrr ⊢
            have hH1 := AH.le.up (n := 15) ((hHMp cl).trans hle)
            have hH2 := le_rebase (b := .box 3 [.p (.int .i64 cl')]) hH1
            cases ok with
            | false =>
              simp only [Bool.false_eq_true, if_false] at hrr
              rw [hrr] at hre
              simp (disch := first | omega | simp) [bv, Tm.av, Tm.cs_len, Tm.cs_take, put_get_ne, wf_none hw1, hb1, hd1']
              refine rt_tupP (hws cl') ?_ (.cons (.agg (Tm.cl _ _)) (.cons (Cl.p _) .nil)) ⟨by rw [hre], by rw [hre]⟩
              have hw := hws cl'
              exact (by repeat (first | with_reducible assumption | with_reducible exact AH.le.refl _ | with_reducible apply AH.le.up | (with_reducible refine AH.le.put hw ?_ ?_; · first | omega | (simp only [put_nx]; done) | (simp only [put_nx]; omega)) | (with_reducible refine AH.le.kill hw ?_ ?_; · first | omega | (simp only [up_nx, put_nx, kill_nx]; done) | (simp only [up_nx, put_nx, kill_nx]; omega))))
            | true =>
              simp only [if_true] at hrr
              simp (disch := first | omega | simp) [bv, Tm.av, Tm.cs_len, Tm.cs_take, put_get_ne, wf_none hw1]
              have hw := hwMp cl'
              have hM2 := le_rebase (b := .box 3 [.p (.int .i64 cl')]) (AH.le.up (n := 15) hle)
              have hgr1 : Grows 27 6 (M.put p (.box 3 [.p (.int .i64 cl')])) H1 v (ys.map Tm.cs) := hgr
              refine Grows.app (ys := [z.cs]) hw (hgr1.same (by first | omega | (simp only [up_nx, put_nx]; done) | (simp only [up_nx, put_nx]; omega)) fun j hj ⟨n, hv⟩ => ?_) (by repeat (first | with_reducible assumption | with_reducible exact AH.le.refl _ | with_reducible apply AH.le.up | (with_reducible refine AH.le.put hw ?_ ?_; · first | omega | (simp only [put_nx]; done) | (simp only [put_nx]; omega)) | (with_reducible refine AH.le.kill hw ?_ ?_; · first | omega | (simp only [up_nx, put_nx, kill_nx]; done) | (simp only [up_nx, put_nx, kill_nx]; omega)))) (by first | omega | (simp only [put_nx]; done) | (simp only [put_nx]; omega)) (by first | omega | (simp only [up_nx, put_nx]; done) | (simp only [up_nx, put_nx]; omega)) ?_ (dt_tm [_]) ?_ ?_ fun v' H3 g3 l3 n3 k3 _ => ?_
              · have := hgr.ge hv
                simp (disch := first | omega | simp) [put_get_ne]
              · simp (disch := first | omega | simp)
              · rw [List.length_map]; simp only [List.length_singleton]; omega
              · rw [List.length_map]; simp only [List.length_singleton]; omega
              · rw [q_add_i, hiv]
                simp only [up_nx, put_nx] at n3
                refine hk (v', i + 1, cl', ys ++ [z]) _ _ _ (.refl (by omega)) ⟨l3, by omega, hil, by dsimp only; have := hlow.2.2 rfl; omega, by dsimp only; simp [hyl], ?_, ?_⟩ (by dsimp only; omega)
                · dsimp only
                  rw [List.map_append]; exact g3
                · dsimp only
                  rw [hrr]
                  generalize Tm.repls x d' (t.kids.drop (i + 1)) cl' = q
                  obtain ⟨q1, q2⟩ := q
                  cases q1 with
                  | none => rfl
                  | some zs => simp
          · have hie : i = t.kids.length := by omega
            subst hie
            rw [Tm.repls_end (Nat.le_refl _)] at hrr
            dsimp only at hrr
            rw [List.append_nil] at hrr
            rw [hrr] at hre
            dsimp only at hre
            obtain ⟨hp1', hp2⟩ := hgr.part
            simp (disch := first | omega | simp) [iv, Tm.cs_len, Tm.cs_g5, put_get_ne, hb1, hd1', hks', hp1', hp2]
            have hw := hws cl
            have hHP : (H.put p (.box 3 [.p (.int .i64 cl)])).le H1 := (hHMp cl).trans hle
            have hfin : H.put p (.box 3 [.p (.int .i64 cl)]) = H.put p (.box 3 [.p (.int .i64 (Tm.repl x d t l).2)]) := by rw [hre]
            refine Grows.rt_in (H0 := H.put p (.box 3 [.p (.int .i64 cl)])) (M := H.put p (.box 3 [.p (.int .i64 cl)])) (v' := .tup [Tm.av ⟨t.kind, n', t.type, ys⟩, bv true]) (u := v) (t := 27) (sz := 6) (es := ys.map Tm.cs) ?_ hw ?_ (by simp only [up_nx, put_nx]; omega) hw (.refl _) (Nat.le_refl _) ?_ (.tup (.cons (.agg (Tm.cl _ _)) (.cons (Cl.p _) .nil))) ⟨hfin, by rw [hre]; rfl⟩
            · refine (hgr.base (H0 := H.put p (.box 3 [.p (.int .i64 cl)])) (by simp only [put_nx]; omega)).same (by simp only [up_nx, put_nx]; omega) fun j hj ⟨n, hv⟩ => ?_
              have := hgr.ge hv
              simp (disch := first | omega | simp) [put_get_ne]
            · exact (by repeat (first | with_reducible assumption | with_reducible exact AH.le.refl _ | with_reducible apply AH.le.up | (with_reducible refine AH.le.put hw ?_ ?_; · first | omega | (simp only [put_nx]; done) | (simp only [put_nx]; omega)) | (with_reducible refine AH.le.kill hw ?_ ?_; · first | omega | (simp only [up_nx, put_nx, kill_nx]; done) | (simp only [up_nx, put_nx, kill_nx]; omega))))
            · intro H2 hs
              rw [show (List.take 6 (List.take 6 (List.take 5 t'.cs ++ v :: List.drop 6 t'.cs))) = [iv t'.kind, iv t'.num, iv t'.type.kind, iv t'.type.num, .dsl 3 (t'.type.kids.map Ty.cs), v] by rw [Tm.cs_eq]; rfl]
              rw [Tm.av_eq, ← ht']
              exact .tup (.cons (.agg (.cons (.refl _) (.cons (.refl _) (.cons (.refl _) (.cons (.refl _) (.cons (.refl _) (.cons hs .nil))))))) (.cons (.refl _) .nil))
      rcases hc with k1 | ⟨k1, n1⟩
      · simp (disch := first | omega | simp) [iv, Tm.av, Tm.cs_g0, put_get_ne, k1]
        exact key
      · simp (disch := first | omega | simp) [iv, Tm.av, Tm.cs_g0, Tm.cs_g1, put_get_ne, k1, n1]
        exact key
end Go.Proofs.Ytkocpdekknfmaaa

/- The document's own step at a way. -/
namespace Go.Proofs.Ytkocpdekknfmaaa
open Go.RowKit Go.Maps
/-- what the document's step says -/
def stR (r : Tm × Int) : AV := .tup [(if r.2 = 0 then r.1 else tm0).av, iv r.2]
set_option maxHeartbeats 4000000 in
theorem c_stepped : ∀ (way : List Int) (t : Tm), t.good → t.size ≤ 400 → ∀ most : Int, t.size ≤ most → most ≤ 400 → ∀ H, Tri Try.prog 34 [t.av, wE way, iv most] H (fun r H' => H' = H ∧ r = stR (Tm.at_ way t (400 - most))) := by
  intro way
  induction way with
  | nil =>
    intro t hg ht most hm0 hm1 H
    refine tri_wf fun hw => tri_wordhoardref_stepped ?_
    have htp := t.size_pos
    unfold S_wordhoardref_stepped wE
    simp (disch := first | omega | simp) [iv, Tm.av, Tm.cs_len, Tm.cs_take, put_get_ne]
    refine ca_pure (by kernel_rfl) (c_RIsSpot t hg _) ?_
    cases hs : t.spot with
    | false =>
      simp (disch := first | omega | simp) [bv]
      exact rt_tm0 hw (by repeat (first | with_reducible assumption | with_reducible exact AH.le.refl _ | with_reducible apply AH.le.up | (with_reducible refine AH.le.put hw ?_ ?_; · first | omega | (simp only [up_nx, put_nx, kill_nx]; done) | (simp only [up_nx, put_nx, kill_nx]; omega)) | (with_reducible refine AH.le.kill hw ?_ ?_; · first | omega | (simp only [up_nx, put_nx, kill_nx]; done) | (simp only [up_nx, put_nx, kill_nx]; omega)))) (by first | omega | (simp only [up_nx, put_nx]; done) | (simp only [up_nx, put_nx]; omega)) (.cons (Cl.p _) .nil) ⟨rfl, by rw [Tm.at_nil_no hs]; rfl⟩
    | true =>
      obtain ⟨n, ty, f, x, c, e, hf3, hfk, hfg, hxg, hbg, hr, hsz⟩ := Tm.spot_form hg hs
      have hks : t.kids = [f, x] := by rw [e]
      have hxp := x.size_pos
      have hcp := c.size_pos
      obtain ⟨q1, q2⟩ := Tm.repl_law x c 0 most hbg (by omega)
      have hat : Tm.at_ [] t (400 - most) = if ((Tm.put x 0 c).size : Int) ≤ most then (Tm.put x 0 c, 0) else (t, 7) := by
        rw [Tm.at_, if_pos hs, hr]
        by_cases h : ((Tm.put x 0 c).size : Int) ≤ most
        · rw [if_pos (by omega), if_pos h]
        · rw [if_neg (by omega), if_neg h]
      simp (disch := first | omega | simp) [bv]
      unfold S_wordhoardref_stepped_C1
      simp (disch := first | omega | simp) [Tm.cs_len, Tm.cs_g5, Tm.cs_take, put_get_ne, hks, hfk]
      refine cap_one (i := H.nx + 3 + 1) (o := .box 3 [.p (.int .i64 (Tm.repl x 0 c most).2)]) (by kernel_rfl) (by omega) (fun H2 hag => c_repl x (by omega) c.size c (Nat.le_refl _) (by omega) 0 (by decide) (by omega) most (by omega) (by omega) (H.nx + 3 + 1) H2 (by rw [hag _ (by omega)]; simp (disch := first | omega | simp) [iv])) ?_
      by_cases h : ((Tm.put x 0 c).size : Int) ≤ most
      · rw [if_pos h] at hat
        have hq := q1 h
        simp (disch := first | omega | simp) [bv, Tm.av, Tm.cs_len, Tm.cs_take, put_get_ne, hq, wf_none hw]
        exact rt_tup hw (by repeat (first | with_reducible assumption | with_reducible exact AH.le.refl _ | with_reducible apply AH.le.up | (with_reducible refine AH.le.put hw ?_ ?_; · first | omega | (simp only [up_nx, put_nx, kill_nx]; done) | (simp only [up_nx, put_nx, kill_nx]; omega)) | (with_reducible refine AH.le.kill hw ?_ ?_; · first | omega | (simp only [up_nx, put_nx, kill_nx]; done) | (simp only [up_nx, put_nx, kill_nx]; omega)))) (.cons (.agg (Tm.cl _ _)) (.cons (Cl.p _) .nil)) ⟨rfl, by rw [hat]; rfl⟩
      · rw [if_neg h] at hat
        have hq := q2 (by omega)
        simp (disch := first | omega | simp) [bv, Tm.av, Tm.cs_len, put_get_ne, hq, wf_none hw]
        exact rt_tm0 hw (by repeat (first | with_reducible assumption | with_reducible exact AH.le.refl _ | with_reducible apply AH.le.up | (with_reducible refine AH.le.put hw ?_ ?_; · first | omega | (simp only [up_nx, put_nx, kill_nx]; done) | (simp only [up_nx, put_nx, kill_nx]; omega)) | (with_reducible refine AH.le.kill hw ?_ ?_; · first | omega | (simp only [up_nx, put_nx, kill_nx]; done) | (simp only [up_nx, put_nx, kill_nx]; omega)))) (by first | omega | (simp only [up_nx, put_nx]; done) | (simp only [up_nx, put_nx]; omega)) (.cons (Cl.p _) .nil) ⟨rfl, by rw [hat]; rfl⟩
  | cons i way ih =>
    intro t hg ht most hm0 hm1 H
    refine tri_wf fun hw => tri_wordhoardref_stepped ?_
    have htp := t.size_pos
    have hsz := t.size_eq
    have hlk := Tm.len_sizes t.kids
    have hne : ¬ ((way.length : Int) + 1 = 0) := by omega
    unfold S_wordhoardref_stepped wE
    simp (disch := first | omega | simp) [iv, Tm.av, hne]
    unfold S_wordhoardref_stepped_C3
    by_cases hi0 : i < 0
    · simp (disch := first | omega | simp) [hi0]
      exact rt_tm0 hw (by repeat (first | with_reducible assumption | with_reducible exact AH.le.refl _ | with_reducible apply AH.le.up | (with_reducible refine AH.le.put hw ?_ ?_; · first | omega | (simp only [up_nx, put_nx, kill_nx]; done) | (simp only [up_nx, put_nx, kill_nx]; omega)) | (with_reducible refine AH.le.kill hw ?_ ?_; · first | omega | (simp only [up_nx, put_nx, kill_nx]; done) | (simp only [up_nx, put_nx, kill_nx]; omega)))) (by first | omega | (simp only [up_nx, put_nx]; done) | (simp only [up_nx, put_nx]; omega)) (.cons (Cl.p _) .nil) ⟨rfl, by rw [Tm.at_low hi0]; rfl⟩
    obtain ⟨m, rfl⟩ : ∃ m : Nat, i = m := ⟨i.toNat, by omega⟩
    by_cases hil : m < t.kids.length
    · obtain ⟨x, hx⟩ : ∃ x, t.kids[m]? = some x := ⟨_, List.getElem?_eq_getElem hil⟩
      have hxg : ∀ h, t.kids[m]'h = x := fun h => (List.getElem?_eq_some_iff.1 hx).2
      have hgx := Tm.good_kid hg (List.mem_of_getElem? hx)
      have hxs := Tm.sizes_mem (List.mem_of_getElem? hx)
      have hxp := x.size_pos
      have hin := Tm.at_in (way := way) (d := 400 - most) hx
      have n1 : ¬ (t.kids.length : Int) ≤ (m : Int) := by omega
      have h1l : (1 : Int) ≤ (way.length : Int) + 1 := by omega
      simp (disch := first | omega | simp) [Tm.cs_g5, put_get_ne, hi0, n1]
      unfold S_wordhoardref_stepped_C2
      simp (disch := first | omega | simp) [Tm.cs_len, Tm.cs_take, put_get_ne]
      refine cav_pure (by kernel_rfl) (fun H2 _ => c_RTermSize t.size t (Nat.le_refl _) 400 H2 (by decide) (by decide)) ?_
      rw [capN_low (by omega)]
      simp (disch := first | omega | simp) [iv, Tm.cs_len, Tm.cs_g5, Tm.cs_take, put_get_ne, hil, hxg]
      refine cav_pure (by kernel_rfl) (fun H2 _ => c_RTermSize x.size x (Nat.le_refl _) 400 H2 (by decide) (by decide)) ?_
      rw [capN_low (by omega)]
      have w1 : IntKind.i64.wrap ((t.size : Int) - (x.size : Int)) = (t.size : Int) - (x.size : Int) := wrapI (by omega) (by omega)
      have w2 : IntKind.i64.wrap (most - ((t.size : Int) - (x.size : Int))) = most - ((t.size : Int) - (x.size : Int)) := wrapI (by omega) (by omega)
      simp (disch := first | omega | simp) [iv, Tm.cs_len, Tm.cs_g5, Tm.cs_take, put_get_ne, hil, hxg, h1l, w1, w2]
      refine cav_pure (by kernel_rfl) (fun H2 _ => ih x hgx (by omega) (most - ((t.size : Int) - (x.size : Int))) (by omega) (by omega) H2) ?_
      rw [show 400 - (most - ((t.size : Int) - (x.size : Int))) = 400 - most + t.size - x.size by omega]
      generalize hrr : Tm.at_ way x (400 - most + t.size - x.size) = rr at *
      obtain ⟨y, e⟩ := rr
      dsimp only at hin
      by_cases he : e = 0
      · subst he
        have hv := hin.1 rfl
        have hl2 : t.kids.length ≤ maxLen := by rw [show maxLen = 9223372036854775807 by decide]; omega
        have hl3 : t.kids.length * 80 ≤ 140737488355328 := by omega
        have hyd : y.cs ++ List.drop 6 x.cs = y.cs := by rw [List.drop_of_length_le (by rw [Tm.cs_len]; omega), List.append_nil]
        simp (disch := first | omega | simp) [iv, Tm.av, Tm.cs_len, Tm.cs_g5, Tm.cs_take, put_get_ne, kill_get_ne, stR, wf_none hw, hil, hl2, hl3, hxg, hyd]
        rw [← List.map_set]
        refine Grows.rt_in (M := H) (v' := .tup [Tm.av ⟨t.kind, t.num, t.type, t.kids.set m y⟩, iv 0]) (u := .osl (H.nx + 3 + 19 + 3) 6 0 t.kids.length) (t := 27) (sz := 6) (es := (t.kids.set m y).map Tm.cs) ?_ hw ?_ (by first | omega | (simp only [up_nx, put_nx, kill_nx]; done) | (simp only [up_nx, put_nx, kill_nx]; omega)) hw (.refl _) (Nat.le_refl _) ?_ (.tup (.cons (.agg (Tm.cl _ _)) (.cons (Cl.p _) .nil))) ⟨rfl, by rw [hv]; rfl⟩
        · refine .row (by first | omega | (simp only [up_nx, put_nx, kill_nx]; done) | (simp only [up_nx, put_nx, kill_nx]; omega)) (by first | omega | (simp only [up_nx, put_nx, kill_nx]; done) | (simp only [up_nx, put_nx, kill_nx]; omega)) ?_ (dt_tm _) (by simp)
          simp (disch := first | omega | simp) [put_get_ne]
        · exact (by repeat (first | with_reducible assumption | with_reducible exact AH.le.refl _ | with_reducible apply AH.le.up | (with_reducible refine AH.le.put hw ?_ ?_; · first | omega | (simp only [up_nx, put_nx, kill_nx]; done) | (simp only [up_nx, put_nx, kill_nx]; omega)) | (with_reducible refine AH.le.kill hw ?_ ?_; · first | omega | (simp only [up_nx, put_nx, kill_nx]; done) | (simp only [up_nx, put_nx, kill_nx]; omega))))
        · intro H2 hs
          rw [show List.take 6 (List.take 6 (List.take 5 t.cs ++ AV.osl (H.nx + 3 + 19 + 3) 6 0 t.kids.length :: List.drop 6 t.cs)) = [iv t.kind, iv t.num, iv t.type.kind, iv t.type.num, .dsl 3 (t.type.kids.map Ty.cs), .osl (H.nx + 3 + 19 + 3) 6 0 t.kids.length] by rw [Tm.cs_eq]; rfl]
          rw [Tm.av_eq]
          exact .tup (.cons (.agg (.cons (.refl _) (.cons (.refl _) (.cons (.refl _) (.cons (.refl _) (.cons (.refl _) (.cons hs .nil))))))) (.cons (.refl _) .nil))
      · have hv := hin.2 he
        simp (disch := first | omega | simp) [iv, Tm.av, Tm.cs_len, put_get_ne, he, stR, wf_none hw]
        exact rt_tm0 hw (by repeat (first | with_reducible assumption | with_reducible exact AH.le.refl _ | with_reducible apply AH.le.up | (with_reducible refine AH.le.put hw ?_ ?_; · first | omega | (simp only [up_nx, put_nx, kill_nx]; done) | (simp only [up_nx, put_nx, kill_nx]; omega)) | (with_reducible refine AH.le.kill hw ?_ ?_; · first | omega | (simp only [up_nx, put_nx, kill_nx]; done) | (simp only [up_nx, put_nx, kill_nx]; omega)))) (by first | omega | (simp only [up_nx, put_nx]; done) | (simp only [up_nx, put_nx]; omega)) (.cons (Cl.p _) .nil) ⟨rfl, by rw [hv]; simp only [he, if_false]; rfl⟩
    · have n1 : (t.kids.length : Int) ≤ (m : Int) := by omega
      simp (disch := first | omega | simp) [Tm.cs_g5, put_get_ne, hi0, n1]
      exact rt_tm0 hw (by repeat (first | with_reducible assumption | with_reducible exact AH.le.refl _ | with_reducible apply AH.le.up | (with_reducible refine AH.le.put hw ?_ ?_; · first | omega | (simp only [up_nx, put_nx, kill_nx]; done) | (simp only [up_nx, put_nx, kill_nx]; omega)) | (with_reducible refine AH.le.kill hw ?_ ?_; · first | omega | (simp only [up_nx, put_nx, kill_nx]; done) | (simp only [up_nx, put_nx, kill_nx]; omega)))) (by first | omega | (simp only [up_nx, put_nx]; done) | (simp only [up_nx, put_nx]; omega)) (.cons (Cl.p _) .nil) ⟨rfl, by rw [Tm.at_high (by omega)]; rfl⟩
theorem c_StepAt (way : List Int) (t : Tm) (hg : t.good) (ht : t.size ≤ 400) : PF Try.prog 16 [t.av, wE way] (stR (Tm.at_ way t 0)) := fun H => tri_wf fun hw => tri_wordhoardref_StepAt (by
  unfold S_wordhoardref_StepAt
  simp (disch := first | omega | simp) [Tm.av, Tm.cs_len, Tm.cs_take, put_get_ne]
  refine ca_pure (by kernel_rfl) (c_stepped way t hg ht 400 (by omega) (by decide) _) ?_
  rw [show (400 : Int) - 400 = 0 by decide]
  unfold stR
  simp (disch := first | omega | simp) [iv, Tm.av, Tm.cs_len, Tm.cs_take]
  exact rt_tup hw (by repeat (first | with_reducible assumption | with_reducible exact AH.le.refl _ | with_reducible apply AH.le.up | (with_reducible refine AH.le.put hw ?_ ?_; · first | omega | (simp only [up_nx, put_nx, kill_nx]; done) | (simp only [up_nx, put_nx, kill_nx]; omega)) | (with_reducible refine AH.le.kill hw ?_ ?_; · first | omega | (simp only [up_nx, put_nx, kill_nx]; done) | (simp only [up_nx, put_nx, kill_nx]; omega)))) (.cons (.agg (Tm.cl _ _)) (.cons (Cl.p _) .nil)) ⟨rfl, rfl⟩)
end Go.Proofs.Ytkocpdekknfmaaa

/- The document's own spots. -/
namespace Go.Proofs.Ytkocpdekknfmaaa
open Go.RowKit Go.Maps
mutual
theorem Tm.spots_len : ∀ t : Tm, t.spots.length ≤ t.size
  | ⟨k, n, ty, ks⟩ => by
    have := Tm.spotss_len 0 ks
    rw [Tm.spots, Tm.size_mk, List.length_append]
    split <;> simp <;> omega
theorem Tm.spotss_len : ∀ (i : Nat) (ks : List Tm), (Tm.spotss i ks).length ≤ Tm.sizes ks
  | i, [] => by simp [Tm.spotss]
  | i, t :: r => by
    have h1 := Tm.spots_len t
    have h2 := Tm.spotss_len (i + 1) r
    rw [Tm.spotss, Tm.sizes, List.length_append, List.length_map]; omega
end
mutual
theorem Tm.spots_deep : ∀ (t : Tm) (s : List Int), s ∈ t.spots → s.length < t.size
  | ⟨k, n, ty, ks⟩, s, h => by
    rw [Tm.spots] at h
    rw [Tm.size_mk]
    rcases List.mem_append.1 h with h | h
    · split at h
      · rw [List.mem_singleton.1 h]; simp; omega
      · cases h
    · have := Tm.spotss_deep 0 ks s h; omega
theorem Tm.spotss_deep : ∀ (i : Nat) (ks : List Tm) (s : List Int), s ∈ Tm.spotss i ks → s.length ≤ Tm.sizes ks
  | i, [], s, h => by simp [Tm.spotss] at h
  | i, t :: r, s, h => by
    rw [Tm.spotss] at h
    rw [Tm.sizes]
    rcases List.mem_append.1 h with h | h
    · obtain ⟨q, hq, rfl⟩ := List.mem_map.1 h
      have := Tm.spots_deep t q hq
      simp; omega
    · have := Tm.spotss_deep (i + 1) r s h; omega
end
theorem Tm.spotss_take : ∀ (ks : List Tm) (n i : Nat) (x : Tm), ks[i]? = some x → Tm.spotss n (ks.take (i + 1)) = Tm.spotss n (ks.take i) ++ x.spots.map (((n + i : Nat) : Int) :: ·)
  | [], n, i, x, h => by simp at h
  | t :: r, n, 0, x, h => by simp at h; subst h; simp [Tm.spotss]
  | t :: r, n, i + 1, x, h => by
    have := Tm.spotss_take r (n + 1) i x (by simpa using h)
    rw [List.take_succ_cons, List.take_succ_cons, Tm.spotss, Tm.spotss, this, List.append_assoc, show n + 1 + i = n + (i + 1) by omega]
/-- the spots as cells -/
def wSs (l : List (List Int)) : List (List AV) := l.map fun s => [wE s]
theorem wSs_app (a b : List (List Int)) : wSs (a ++ b) = wSs a ++ wSs b := List.map_append
theorem wSs_len (l : List (List Int)) : (wSs l).length = l.length := List.length_map _
theorem dt_wSs (l : List (List Int)) : DtR (wSs l) := fun e he a ha => by
  obtain ⟨s, _, rfl⟩ := List.mem_map.1 he
  rw [List.mem_singleton.1 ha]; exact Dt.dsl _ _
theorem wSs_cell {l : List (List Int)} : ∀ e ∈ wSs l, e.length = 1 := fun e he => by obtain ⟨s, _, rfl⟩ := List.mem_map.1 he; rfl
/-- a row whose last cell is told anew -/
theorem Gst.last {P : Program} {H : AH} {r : Nat} {t : TypeId} {es : List (List AV)} {a b : AV} (hg : H.get r = some (.row t 1 (es ++ [[a]]))) (h : Sub P H a b) : Gst P H (H.put r (.row t 1 (es ++ [[b]]))) := by
  refine .resub hg (by simp) fun i e e' he he' => ?_
  by_cases hi : i < es.length
  · rw [List.getElem?_append_left hi] at he he'
    rw [he] at he'; injection he' with he'; subst he'; exact .refl _
  · have hl := (List.getElem?_eq_some_iff.1 he).1
    simp at hl
    have : i = es.length := by omega
    subst this
    simp at he he'
    subst he he'
    exact .cons h .nil
set_option maxHeartbeats 4000000 in
theorem c_RSpots (N : Nat) : ∀ t : Tm, t.size ≤ N → N ≤ 400 → t.good → ∀ H, Tri Try.prog 14 [t.av] H (fun r H' => H' = H ∧ r = .dsl 1 (wSs t.spots)) := by
  induction N with
  | zero => intro t ht; have := t.size_pos; omega
  | succ N ih =>
    intro t ht hN hg H
    refine tri_wf fun hw => tri_wordhoardref_Spots ?_
    have hml : maxLen = 9223372036854775807 := by decide
    have hsz := t.size_eq
    have hlk := Tm.len_sizes t.kids
    have hse := t.spots_eq
    have hslen := t.spots_len
    generalize ho0 : (if t.spot = true then [[]] else ([] : List (List Int))) = o0 at hse
    unfold S_wordhoardref_Spots
    simp (disch := first | omega | simp) [Tm.av]
    have hw0 := hw
    generalize hM : (H.up 2).put H.nx (.box 27 t.cs) = M
    have hMb : M.get H.nx = some (.box 27 t.cs) := by rw [← hM]; simp (disch := first | omega | simp)
    have hMl : H.le M := by rw [← hM]; exact (by repeat (first | with_reducible assumption | with_reducible exact AH.le.refl _ | with_reducible apply AH.le.up | (with_reducible refine AH.le.put hw ?_ ?_; · first | omega | (simp only [up_nx, put_nx, kill_nx]; done) | (simp only [up_nx, put_nx, kill_nx]; omega)) | (with_reducible refine AH.le.kill hw ?_ ?_; · first | omega | (simp only [up_nx, put_nx, kill_nx]; done) | (simp only [up_nx, put_nx, kill_nx]; omega))))
    have hMn : M.nx = H.nx + 2 := by rw [← hM]; rfl
    have hwM : WF M := by rw [← hM]; exact (hw0.up 2).box (by first | omega | (simp only [up_nx]; done) | (simp only [up_nx]; omega)) (t.cl _)
    have hw := hwM
    refine cut_wf (fun v : AV => [v]) (fun v H' => M.le H' ∧ M.nx ≤ H'.nx ∧ Grows 35 1 M H' v (wSs o0)) (fun k hk => ?_) ?_
    · simp (disch := first | omega | simp) [Tm.cs_len, Tm.cs_take, hMb]
      refine ca_pure (by kernel_rfl) (c_RIsSpot t hg _) ?_
      cases hs : t.spot with
      | false =>
        rw [hs] at ho0
        simp only [Bool.false_eq_true, if_false] at ho0
        subst ho0
        simp (disch := first | omega | simp) [bv]
        exact hk _ _ _ _ (.refl (Nat.le_refl _)) ⟨.refl _, Nat.le_refl _, .nil _ _ _ _⟩
      | true =>
        rw [hs] at ho0
        simp only [if_true] at ho0
        subst ho0
        simp (disch := first | omega | simp) [bv]
        refine ⟨by omega, hk (.osl (M.nx + 2) 1 0 1) _ _ _ (.st (.last (es := []) (b := wE []) (put_get _ _) (.nil 1 0 (Nat.zero_le _))) (by first | omega | (simp only [up_nx, put_nx]; done) | (simp only [up_nx, put_nx]; omega))) ⟨(by repeat (first | with_reducible assumption | with_reducible exact AH.le.refl _ | with_reducible apply AH.le.up | (with_reducible refine AH.le.put hw ?_ ?_; · first | omega | (simp only [up_nx, put_nx, kill_nx]; done) | (simp only [up_nx, put_nx, kill_nx]; omega)) | (with_reducible refine AH.le.kill hw ?_ ?_; · first | omega | (simp only [up_nx, put_nx, kill_nx]; done) | (simp only [up_nx, put_nx, kill_nx]; omega)))), (by first | omega | (simp only [up_nx, put_nx]; done) | (simp only [up_nx, put_nx]; omega)), ?_⟩⟩
        exact .row (by first | omega | (simp only [up_nx, put_nx, kill_nx]; done) | (simp only [up_nx, put_nx, kill_nx]; omega)) (by first | omega | (simp only [up_nx, put_nx]; done) | (simp only [up_nx, put_nx]; omega)) (put_get _ _) (dt_wSs [[]]) rfl
    rintro v0 M0 hn0 hwM0 ⟨hl0, hnl0, hg0⟩
    unfold S_wordhoardref_Spots_K3
    refine loop_wf (fun s : AV × Nat => [s.1, iv s.2]) (fun s H' => M.le H' ∧ M.nx ≤ H'.nx ∧ s.2 ≤ t.kids.length ∧ Grows 35 1 M H' s.1 (wSs (o0 ++ Tm.spotss 0 (t.kids.take s.2)))) (fun s => t.kids.length - s.2) (v0, 0) (.refl (Nat.le_refl _)) ⟨hl0, hnl0, Nat.zero_le _, by dsimp only; rw [List.take_zero, Tm.spotss, List.append_nil]; exact hg0⟩ ?_
    rintro ⟨v, i⟩ H1 hn1 hw1 ⟨hle, hn, hi, hgr⟩ k hk
    dsimp only at hi hgr hk
    have hb1 := hle _ _ hMb
    unfold S_wordhoardref_Spots_L2
    by_cases hil : i < t.kids.length
    · obtain ⟨x, hx⟩ : ∃ x, t.kids[i]? = some x := ⟨_, List.getElem?_eq_getElem hil⟩
      have hxg : ∀ h, t.kids[i]'h = x := fun h => (List.getElem?_eq_some_iff.1 hx).2
      have hiv := ivn (i := i) (by omega)
      have hxs := Tm.sizes_mem (List.mem_of_getElem? hx)
      have hgx := Tm.good_kid hg (List.mem_of_getElem? hx)
      have hxl := x.spots_len
      have htk := Tm.spotss_take t.kids 0 i x hx
      rw [Nat.zero_add] at htk
      have hsl1 := Tm.spotss_len 0 (t.kids.take i)
      have hsl2 := Tm.sizes_le t.kids i
      have ho1 : o0.length ≤ 1 := by rw [← ho0]; split <;> simp
      generalize hac : o0 ++ Tm.spotss 0 (t.kids.take i) = ac at *
      have hacl : ac.length ≤ 1000 := by rw [← hac, List.length_append]; omega
      simp (disch := first | omega | simp) [iv, hil, hxg, Tm.cs_len, Tm.cs_g5, Tm.cs_take, hb1]
      refine ca_pure (by kernel_rfl) (ih x (by omega) (by omega) hgx _) ?_
      refine loop_wf (fun s : AV × Nat => [s.1, iv s.2]) (fun s H' => M.le H' ∧ M.nx ≤ H'.nx ∧ s.2 ≤ x.spots.length ∧ Grows 35 1 M H' s.1 (wSs (ac ++ (x.spots.take s.2).map ((i : Int) :: ·)))) (fun s => x.spots.length - s.2) (v, 0) (.refl (Nat.le_refl _)) ⟨hle, hn, Nat.zero_le _, by dsimp only; rw [List.take_zero, List.map_nil, List.append_nil]; exact hgr⟩ ?_
      rintro ⟨u, j⟩ H2 hn2 hw2 ⟨hle2, hnn2, hj, hgr2⟩ k2 hk2
      dsimp only at hj hgr2 hk2
      unfold S_wordhoardref_Spots_L1
      by_cases hjl : j < x.spots.length
      · obtain ⟨s, hs⟩ : ∃ s, x.spots[j]? = some s := ⟨_, List.getElem?_eq_getElem hjl⟩
        have hsd := Tm.spots_deep x s (List.mem_of_getElem? hs)
        have hjv := ivn (i := j) (by omega)
        have hsq : (wSs x.spots)[j]? = some [wE s] := by unfold wSs; rw [List.getElem?_map, hs]; rfl
        have hl1 : 1 + s.length ≤ maxLen := by omega
        have hl2 : (1 + s.length) * 8 ≤ 140737488355328 := by omega
        have hstk : ac ++ (x.spots.take (j + 1)).map ((i : Int) :: ·) = (ac ++ (x.spots.take j).map ((i : Int) :: ·)) ++ [(i : Int) :: s] := by rw [List.take_add_one, hs, Option.toList_some, List.map_append, List.append_assoc]; rfl
        have hacj : (ac ++ (x.spots.take j).map ((i : Int) :: ·)).length ≤ 2000 := by rw [List.length_append, List.length_map, List.length_take]; omega
        generalize hbc : ac ++ (x.spots.take j).map ((i : Int) :: ·) = bc at *
        have hwl := wSs_len bc
        have hl3 : bc.length + 1 ≤ maxLen := by omega
        have hl4 : (bc.length + 1) * 24 ≤ 140737488355328 := by omega
        have hsub : ∀ {H5 : AH}, H5.get (H2.nx + 7) = some (.frz 1 ([iv i] :: s.map fun x => [iv x])) → Sub Try.prog H5 (.osl (H2.nx + 7) 1 0 (1 + s.length)) (wE ((i : Int) :: s)) := fun h5 => by
          have := Sub.frz (P := Try.prog) (off := 0) (n := 1 + s.length) h5 (by simp; omega)
          rw [List.drop_zero, List.take_of_length_le (by simp; omega)] at this
          rw [wE_cons]; exact this
        have hdi : DtR ([iv i] :: s.map fun x => [iv x]) := dt_ints ((i : Int) :: s)
        have fin : ∀ X : AH, X.nx = H2.nx + 11 → X.get (H2.nx + 7) = some (.row 3 1 ([iv i] :: s.map fun x => [iv x])) → X.get (H2.nx + 9) = some (.row 35 1 (wSs bc ++ [[.osl (H2.nx + 7) 1 0 (1 + s.length)]])) → M.le X → k2 [.osl (H2.nx + 9) 1 0 (bc.length + 1), iv ((j : Int) + 1)] X := by
          intro X hXn h7 h9 hXl
          refine hk2 (.osl (H2.nx + 9) 1 0 (bc.length + 1), j + 1) ((X.put (H2.nx + 7) (.frz 1 ([iv i] :: s.map fun x => [iv x]))).put (H2.nx + 9) (.row 35 1 (wSs bc ++ [[wE ((i : Int) :: s)]]))) _ _ (.st ((Gst.freeze h7 hdi).trans (.last (by rw [AH.get_put_ne (by omega)]; exact h9) (hsub (put_get _ _)))) (by omega)) ⟨?_, by simp only [put_nx]; omega, hjl, ?_⟩ (by dsimp only; omega)
          · exact (by repeat (first | with_reducible assumption | with_reducible exact AH.le.refl _ | with_reducible apply AH.le.up | (with_reducible refine AH.le.put hw ?_ ?_; · first | omega | (simp only [up_nx, put_nx, kill_nx]; done) | (simp only [up_nx, put_nx, kill_nx]; omega)) | (with_reducible refine AH.le.kill hw ?_ ?_; · first | omega | (simp only [up_nx, put_nx, kill_nx]; done) | (simp only [up_nx, put_nx, kill_nx]; omega))))
          · dsimp only
            rw [hstk, wSs_app]
            refine .row (by omega) (by simp only [put_nx]; omega) (put_get _ _) ?_ (by rw [List.length_append, wSs_len]; rfl)
            rw [← wSs_app]
            exact dt_wSs _
        rcases hgr2 with ⟨rfl, hnil⟩ | ⟨r, xs, rfl, q1, q2, q3, q4, q5⟩
        · simp (disch := first | omega | simp) [iv, wE, wSs_len, hjl, hsq, hjv, hl1, hl2]
          have hbc0 : bc.length = 0 := by rw [← hwl, hnil]; rfl
          rw [hbc0, hnil] at fin
          refine ⟨by omega, fin _ rfl (by simp (disch := first | omega | simp) [put_get_ne, iv]) (by simp (disch := first | omega | simp)) (by repeat (first | with_reducible assumption | with_reducible exact AH.le.refl _ | with_reducible apply AH.le.up | (with_reducible refine AH.le.put hw ?_ ?_; · first | omega | (simp only [up_nx, put_nx, kill_nx]; done) | (simp only [up_nx, put_nx, kill_nx]; omega)) | (with_reducible refine AH.le.kill hw ?_ ?_; · first | omega | (simp only [up_nx, put_nx, kill_nx]; done) | (simp only [up_nx, put_nx, kill_nx]; omega))))⟩
        · rw [hwl]
          simp (disch := first | omega | simp) [iv, wE, put_get_ne, kill_get_ne, wSs_len, hjl, hsq, hjv, hl1, hl2, q3]
          rw [hwl] at q4
          have hxl' : bc.length ≤ xs.length := by have := congrArg List.length q4; rw [hwl, List.length_take] at this; omega
          exact ⟨hxl', hl3, hl4, fin _ rfl (by simp (disch := first | omega | simp) [put_get_ne, kill_get_ne, iv]) (by simp (disch := first | omega | simp) [q4]) (by repeat (first | with_reducible assumption | with_reducible exact AH.le.refl _ | with_reducible apply AH.le.up | (with_reducible refine AH.le.put hw ?_ ?_; · first | omega | (simp only [up_nx, put_nx, kill_nx]; done) | (simp only [up_nx, put_nx, kill_nx]; omega)) | (with_reducible refine AH.le.kill hw ?_ ?_; · first | omega | (simp only [up_nx, put_nx, kill_nx]; done) | (simp only [up_nx, put_nx, kill_nx]; omega))))⟩
      · have hje : j = x.spots.length := by omega
        subst hje
        rw [List.take_length] at hgr2
        simp (disch := first | omega | simp) [iv, wSs_len, hiv]
        refine hk (u, i + 1) _ _ _ (.refl (by omega)) ⟨hle2, hnn2, hil, ?_⟩ (by dsimp only; omega)
        dsimp only
        rw [htk, ← List.append_assoc, hac]; exact hgr2
    · have hie : i = t.kids.length := by omega
      subst hie
      rw [List.take_length, ← hse] at hgr
      simp (disch := first | omega | simp) [iv, Tm.cs_g5, hb1]
      exact (hgr.base (H0 := H) (by omega)).rt hw0 (hMl.trans hle) (by omega) ⟨rfl, rfl⟩
end Go.Proofs.Ytkocpdekknfmaaa
