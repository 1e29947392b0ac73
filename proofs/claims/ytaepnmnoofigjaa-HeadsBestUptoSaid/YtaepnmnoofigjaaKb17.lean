/- The law HeadsBest holds: whatever comes in, the call returns true and its arguments read as they did. Condition: what comes in is of bulk at most 1048576 (the given UptoSaid). -/
import Derived.Test.YtaepnmnoofigjaaKb16
import Derived.JoinedCond

/- The document's check; all trees. -/
namespace Go.Proofs.Ytaepnmnoofigjaa
open Go.RowKit Go.Maps
theorem any_next {α : Type} {xs : List α} {p : α → Bool} {i : Nat} {x : α} (h : xs[i]? = some x) : (xs.take (i + 1)).any p = ((xs.take i).any p || p x) := by
  rw [List.take_add_one, h, List.any_append]; simp
set_option maxHeartbeats 4000000 in
theorem c_CheckScore {H : AH} {a : AV} {s : List (List Int)} (ha : ScAt H a s) : Tri Try.prog 11 [a] H (fun v H' => H' = H ∧ v = iv (chk s)) := tri_wf fun hw => tri_wordhoardref_CheckScore (by
  unfold S_wordhoardref_CheckScore
  have hle1 := ha.len
  by_cases h1 : s.length < 1
  · rw [chk_7 (.inl h1)]
    have h1' : ((s.length : Int) < 1) := by omega
    simp [hle1, iv, h1']
    exact rt_refl ⟨rfl, rfl⟩ (Nat.le_refl _)
  have h1' : ¬ ((s.length : Int) < 1) := by omega
  by_cases h2 : s.length > 13
  · rw [chk_7 (.inr h2)]
    have h2' : ((s.length : Int) > 13) := by omega
    simp [hle1, iv, h1', h2']
    exact rt_refl ⟨rfl, rfl⟩ (Nat.le_refl _)
  have h2' : ¬ ((s.length : Int) > 13) := by omega
  have hr0 : ¬ (s.length < 1 ∨ s.length > 13) := by omega
  simp [hle1, iv, h1', h2']
  refine loop_st (fun x : Bool × Nat => [bv x.1, iv x.2]) (fun x H' => H = H' ∧ x.2 ≤ s.length ∧ (∀ r ∈ s.take x.2, decide (r.length ≠ s.length - 1) = false) ∧ x.1 = (s.take x.2).any fun r => r.any farB) (fun x => s.length - x.2) (false, 0) (.refl (Nat.le_refl _)) ⟨rfl, Nat.zero_le _, by simp, by simp⟩ ?_
  rintro ⟨far, i⟩ _ _ ⟨rfl, hi, hno, hfar⟩ k hk
  dsimp only at hi hno hfar hk
  unfold S_wordhoardref_CheckScore_L3
  by_cases h : i < s.length
  · obtain ⟨r, hr⟩ : ∃ r, s[i]? = some r := ⟨_, List.getElem?_eq_getElem h⟩
    obtain ⟨q, b, q1, q3, hb⟩ := ha.acc hr
    have hsub : IntKind.i64.wrap ((s.length : Int) - 1) = ((s.length - 1 : Nat) : Int) := by rw [IntKind.wrap_i64]; omega
    have hi1 := ivn (i := i) (by omega)
    by_cases hq : r.length = s.length - 1
    · simp [iv, bv, h, q1, q3, hb.len, hle1, hsub, hq]
      refine loop_st (fun x : Bool × Nat => [bv x.1, iv x.2]) (fun x H' => H = H' ∧ x.2 ≤ r.length ∧ x.1 = (far || (r.take x.2).any farB)) (fun x => r.length - x.2) (far, 0) (.refl (Nat.le_refl _)) ⟨rfl, Nat.zero_le _, by simp⟩ ?_
      rintro ⟨f2, j⟩ _ _ ⟨rfl, hj, hf2⟩ k2 hk2
      dsimp only at hj hf2 hk2
      unfold S_wordhoardref_CheckScore_L2
      by_cases hjl : j < r.length
      · obtain ⟨x, hx⟩ : ∃ x, r[j]? = some x := ⟨_, List.getElem?_eq_getElem hjl⟩
        obtain ⟨z, z1, z3⟩ := hb.acc hx
        have hj1 := ivn (i := j) (by omega)
        have hn := any_next (p := farB) hx
        have hjl' : j < s.length - 1 := by omega
        simp [iv, bv, q1, q3, hb.len, hq, hjl']
        unfold S_wordhoardref_CheckScore_C1
        have fin : ∀ bb : Bool, bb = (f2 || farB x) → k2 [bv bb, iv ((j + 1 : Nat) : Int)] H := fun bb hbb => by
          refine hk2 (bb, j + 1) _ _ _ (.refl (Nat.le_refl _)) ⟨rfl, hjl, ?_⟩ (by dsimp only; omega)
          dsimp only
          rw [hbb, hf2, hn, Bool.or_assoc]
        cases f2 with
        | true =>
          simp [iv, bv, hj1]
          exact fin true (by simp)
        | false =>
          by_cases c1 : x < -1000000
          · simp [iv, bv, hj1, q1, q3, z1, z3, c1]
            exact fin true (by simp [farB, c1])
          · by_cases c2 : 1000000 < x
            · simp [iv, bv, hj1, q1, q3, z1, z3, c1, c2]
              exact fin true (by simp [farB, c2])
            · simp [iv, bv, hj1, q1, q3, z1, z3, c1, c2]
              exact fin false (by simp [farB, c1, c2])
      · have hje : j = r.length := by omega
        subst hje
        rw [List.take_length] at hf2
        have hjl' : ¬ r.length < s.length - 1 := by omega
        simp [iv, bv, q1, q3, hb.len, hi1]
        refine hk (f2, i + 1) _ _ _ (.refl (Nat.le_refl _)) ⟨rfl, h, any_take hno hr (by simp [hq]), ?_⟩ (by dsimp only; omega)
        dsimp only
        rw [hf2, any_next hr, hfar]
    · have hq' : ¬ ((r.length : Int)) = ((s.length - 1 : Nat) : Int) := by omega
      simp [iv, bv, h, q1, q3, hb.len, hle1, hsub, hq']
      exact rt_refl ⟨rfl, by rw [chk_1 hr0 (List.mem_of_getElem? hr) hq]⟩ (Nat.le_refl _)
  · have hie : i = s.length := by omega
    subst hie
    rw [List.take_length] at hno hfar
    have hall : ∀ r ∈ s, r.length = s.length - 1 := fun r hr => by simpa using hno r hr
    cases hf : s.any (fun r => r.any farB) with
    | true =>
      rw [hf] at hfar
      subst hfar
      obtain ⟨r, hr, hfr⟩ := List.any_eq_true.1 hf
      simp [iv, bv, hle1]
      exact rt_refl ⟨rfl, by rw [chk_3 hr0 hall hr hfr]⟩ (Nat.le_refl _)
    | false =>
      rw [hf] at hfar
      subst hfar
      simp [iv, bv, hle1]
      exact rt_refl ⟨rfl, by rw [chk_0 hr0 hall fun r hr => by have := List.any_eq_false.1 hf r hr; simpa using this]⟩ (Nat.le_refl _))
/-- what is told of each tree changes nothing -/
def Tells (H : AH) (g : FuncId) (cap : List AV) (m : Nat) : Prop := callable Try.prog g = true ∧ ∀ H' a l, H.le H' → UpAt H' a l → l.length = m → treeB l = true → Tri Try.prog g ([] ++ [a] ++ cap) H' (fun _ H'' => H'' = H')
set_option maxHeartbeats 4000000 in
theorem c_All1_end {B : AH} {g : FuncId} {cap : List AV} {pn pu pt pg uid w : Nat} {t1 t2 t3 : TypeId} (hg : Tells B g cap w) (hm : w ≤ 1000) (l : List Int) (H : AH) (hB : B.le H) (hl : l.length = w) (h1 : H.get pn = some (.box t1 [iv w])) (h2 : H.get pu = some (.box t2 [.osl uid 1 0 w])) (h3 : H.get pt = some (.box t3 [.fn (.func g) [] cap])) (h5 : H.get uid = some (.row 3 1 (iE l))) :
    Tri Try.prog 31 [iv w, .ptr pn 0, .ptr pu 0, .ptr pt 0, .ptr pg 0] H (fun _ H' => ∃ l', l'.length = w ∧ H.nx ≤ H'.nx ∧ H'.get uid = some (.row 3 1 (iE l')) ∧ ∀ id, id < H.nx → id ≠ uid → H'.get id = H.get id) := by
  refine tri_wf fun hw => tri_wordhoardref_HangAll_fn1 ?_
  unfold S_wordhoardref_HangAll_fn1
  have hup : UpAt H (.osl uid 1 0 w) l := by
    rw [UpAt, elF_osl, h5, elRow_row _ _ _ _ _ (by rw [iE_len, hl]; omega), List.drop_zero, List.take_of_length_le (by rw [iE_len, hl]; omega)]
  simp only [iv] at h1
  simp (disch := first | omega | simp) [iv, h1, h2]
  refine ca_pure (by kernel_rfl) (c_HangTree hup (by omega)) ?_
  cases ht : treeB l with
  | false =>
    simp (disch := first | omega | simp) [bv]
    exact rt_refl ⟨l, hl, Nat.le_refl _, h5, fun _ _ _ => rfl⟩ (Nat.le_refl _)
  | true =>
    simp (disch := first | omega | simp) [bv, h2, h3]
    refine ca_of hg.1 (hg.2 H _ l hB hup hl ht) ?_
    rintro v H2 e
    subst e
    exact rt_refl ⟨l, hl, Nat.le_refl _, h5, fun _ _ _ => rfl⟩ (Nat.le_refl _)
set_option maxHeartbeats 4000000 in
theorem c_All1 {B : AH} {g : FuncId} {cap : List AV} {m pn pu pt pg uid : Nat} {t1 t2 t3 t4 : TypeId} (hwB : WF B) (hg : Tells B g cap m) (hm : m ≤ 1000) (huB : B.nx ≤ uid) (hun : pn ≠ uid) (huu : pu ≠ uid) (hut : pt ≠ uid) (hug : pg ≠ uid) (N : Nat) :
    ∀ (w : Nat) (l : List Int) (H : AH), m - w ≤ N → w ≤ m → B.le H → B.nx ≤ H.nx → l.length = m → H.get pn = some (.box t1 [iv m]) → H.get pu = some (.box t2 [.osl uid 1 0 m]) → H.get pt = some (.box t3 [.fn (.func g) [] cap]) → H.get pg = some (.box t4 [.fn (.func 31) [] [.ptr pn 0, .ptr pu 0, .ptr pt 0, .ptr pg 0]]) → H.get uid = some (.row 3 1 (iE l)) →
    Tri Try.prog 31 [iv w, .ptr pn 0, .ptr pu 0, .ptr pt 0, .ptr pg 0] H (fun _ H' => ∃ l', l'.length = m ∧ H.nx ≤ H'.nx ∧ H'.get uid = some (.row 3 1 (iE l')) ∧ ∀ id, id < H.nx → id ≠ uid → H'.get id = H.get id) := by
  induction N with
  | zero =>
    intro w l H hN hwm hB hnx hl h1 h2 h3 h4 h5
    have hwe : w = m := by omega
    subst hwe
    exact c_All1_end hg hm l H hB hl h1 h2 h3 h5
  | succ N ih =>
    intro w l H hN hwm hB hnx hl h1 h2 h3 h4 h5
    by_cases hwe : w = m
    · subst hwe
      exact c_All1_end hg hm l H hB hl h1 h2 h3 h5
    refine tri_wf fun hw => tri_wordhoardref_HangAll_fn1 ?_
    have hpn := (hw _ _ h1).1
    have hpu := (hw _ _ h2).1
    have hpt := (hw _ _ h3).1
    have hpg := (hw _ _ h4).1
    have huid := (hw _ _ h5).1
    have hwl : w < m := by omega
    have hwe' : (w = m) = False := eq_false hwe
    have hwei : ((w : Int) = (m : Int)) = False := eq_false (by omega)
    have hw1 := ivn (i := w) (by omega)
    unfold S_wordhoardref_HangAll_fn1
    have h1' := h1
    simp only [iv] at h1'
    simp (disch := first | omega | simp) [iv, h1', hwe', hwei]
    refine loop_wf (H0 := H) (fun x : List Int × Nat => [iv x.2]) (fun x H' => H.nx ≤ H'.nx ∧ x.1.length = m ∧ H'.get uid = some (.row 3 1 (iE x.1)) ∧ (∀ id, id < H.nx → id ≠ uid → H'.get id = H.get id) ∧ x.2 ≤ m + 1) (fun x => m + 1 - x.2) (l, 0) (.refl (Nat.le_refl _)) ⟨Nat.le_refl _, hl, h5, fun _ _ _ => rfl, by dsimp only; omega⟩ ?_
    rintro ⟨l1, h⟩ H1 hn1 hw1' ⟨hnx1, hl1, hr1, hfr1, hh⟩ k hk
    dsimp only at hl1 hr1 hh hk
    unfold S_wordhoardref_HangAll_fn1_L1
    have g1 := (hfr1 pn hpn hun).trans h1'
    have g2 := (hfr1 pu hpu huu).trans h2
    have g3 := (hfr1 pt hpt hut).trans h3
    have g4 := (hfr1 pg hpg hug).trans h4
    by_cases hhm : h ≤ m
    · obtain ⟨y, hy⟩ : ∃ y, l1[w]? = some y := ⟨_, List.getElem?_eq_getElem (by omega)⟩
      have hyo := iE_at hy
      have hyg : ∀ h, (iE l1)[w]'h = [iv y] := fun h => (List.getElem?_eq_some_iff.1 hyo).2
      have hh1 := ivn (i := h) (by omega)
      simp only [iv] at hyo hyg
      have hset : (iE l1).set w [AV.p (.int .i64 (h : Int))] = iE (l1.set w (h : Int)) := by rw [iE, iE, List.map_set]; rfl
      simp (disch := first | omega | simp) [iv, g1, hhm, g2, iE_len, hl1, hwl, hr1, hyo, hyg, put_get_ne, g4, huid, hw1]
      rw [hset]
      generalize hX : AH.put (H1.up 5) _ _ = X
      have hXn : X.nx = H1.nx + 5 := by rw [← hX]; rfl
      have hXr : X.get uid = some (.row 3 1 (iE (l1.set w (h : Int)))) := by rw [← hX, put_get]
      have hXo : ∀ id, id < H.nx → id ≠ uid → X.get id = H.get id := fun id hid hne => by rw [← hX, AH.get_put_ne hne]; exact hfr1 id hid hne
      have hXB : B.le X := fun i o ho => by
        have hi := (hwB i o ho).1
        rw [hXo i (by omega) (by omega)]; exact hB i o ho
      refine ca_of (by kernel_rfl) (ih (w + 1) (l1.set w (h : Int)) X (by omega) (by omega) hXB (by omega) (by rw [List.length_set]; exact hl1) ((hXo pn hpn hun).trans h1) ((hXo pu hpu huu).trans h2) ((hXo pt hpt hut).trans h3) ((hXo pg hpg hug).trans h4) hXr) ?_
      rintro v2 H2 ⟨l2, hl2, hnx2, hr2, hfr2⟩
      simp
      rw [hh1]
      exact hk (l2, h + 1) _ _ _ (.refl (by omega)) ⟨by omega, hl2, hr2, fun id hid hne => (hfr2 id (by omega) hne).trans (hXo id hid hne), by dsimp only; omega⟩ (by dsimp only; omega)
    · have hhm' : ¬ h ≤ m := hhm
      simp (disch := first | omega | simp) [iv, g1, hhm']
      exact rt_refl ⟨l1, hl1, hnx1, hr1, hfr1⟩ (by omega)
theorem c_HangAll {H : AH} {g : FuncId} {cap : List AV} {m : Nat} (hg : Tells H g cap m) (hm : m ≤ 1000) : Tri Try.prog 19 [iv m, .fn (.func g) [] cap] H (fun _ H' => H' = H) := tri_wf fun hw => tri_wordhoardref_HangAll (by
  have hml : maxLen = 9223372036854775807 := by decide
  unfold S_wordhoardref_HangAll
  simp (disch := first | omega | simp) [iv, put_get_ne]
  refine ⟨by omega, by omega, ?_⟩
  have hz0 : List.replicate m [AV.p (.int .i64 0)] = iE (List.replicate m 0) := by simp [iE, iv]
  rw [hz0]
  generalize hM : AH.put _ (H.nx + 2 + 4) (.box _ [.fn _ _ _]) = M
  have hMl : H.le M := by rw [← hM]; exact (by repeat (first | with_reducible assumption | with_reducible exact AH.le.refl _ | with_reducible apply AH.le.up | (with_reducible refine AH.le.put hw ?_ ?_; · first | omega | (simp only [up_nx, put_nx, kill_nx]; done) | (simp only [up_nx, put_nx, kill_nx]; omega)) | (with_reducible refine AH.le.kill hw ?_ ?_; · first | omega | (simp only [up_nx, put_nx, kill_nx]; done) | (simp only [up_nx, put_nx, kill_nx]; omega))))
  have hMn : M.nx = H.nx + 9 := by rw [← hM]; rfl
  refine ca_of (by kernel_rfl) (c_All1 (m := m) (uid := H.nx + 2 + 1) (pn := H.nx) (pu := H.nx + 2 + 2) (pt := H.nx + 1) (pg := H.nx + 2 + 4) (t1 := 3) (t2 := 24) (t3 := 34) (t4 := 51) hw hg hm (by omega) (by omega) (by omega) (by omega) (by omega) m 0 (List.replicate m 0) M (by omega) (Nat.zero_le _) hMl (by omega) (by simp) ?_ ?_ ?_ ?_ ?_) ?_
  · rw [← hM]; simp (disch := first | omega | simp) [put_get_ne]; rfl
  · rw [← hM]; simp (disch := first | omega | simp) [put_get_ne]
  · rw [← hM]; simp (disch := first | omega | simp) [put_get_ne]
  · rw [← hM]; simp (disch := first | omega | simp) [put_get_ne]
  · rw [← hM]; simp (disch := first | omega | simp) [put_get_ne]
  rintro v H2 ⟨l', _, hnx2, _, hfr⟩
  refine rt_one hw (fun i o hi => ?_) (Cl.tup .nil) rfl
  have := (hw i o hi).1
  rw [hfr i (by omega) (by omega)]
  exact hMl i o hi)
end Go.Proofs.Ytaepnmnoofigjaa

/- None is better: what is told of each tree. -/
namespace Go.Proofs.Ytaepnmnoofigjaa
open Go.RowKit Go.Maps
theorem none_tells {H : AH} {n p1 p2 p3 p4 p5 : Nat} {t1 t2 t3 t4 t5 : TypeId} {s : List (List Int)} {N1 M1 K1 : Int} (hs : ScOk n s) (h1 : H.get p1 = some (.box t1 [scA s])) (h2 : H.get p2 = some (.box t2 [bv true])) (h3 : H.get p3 = some (.box t3 [iv N1])) (h4 : H.get p4 = some (.box t4 [iv M1])) (h5 : H.get p5 = some (.box t5 [iv K1]))
    (hb : ∀ u, TreeF n u → Wt n (sco s) u ≤ N1) (hf : ∀ u, FlatT n u → Wt n (sco s) u ≤ M1) (ho : ∀ u q, TreeF n u → 0 < q → q < n → OneR n u q → Wt n (sco s) u ≤ K1) : Tells H 18 [.ptr p1 0, .ptr p2 0, .ptr p3 0, .ptr p4 0, .ptr p5 0] (n - 1) := by
  refine ⟨(by kernel_rfl), fun H' a l hle hup hlen ht => tri_wf fun hw => tri_wordhoardlaw_HeadsBest_fn1 ?_⟩
  have hn1 := hs.2.1
  have hn13 := hs.2.2.1
  obtain ⟨hT, he⟩ := tree_list ht
  have hN : l.length + 1 = n := by omega
  rw [hN] at hT he
  have hFL : FL l → FlatT n (uOf l) := fun h => by have := h.2; rw [hN] at this; exact this
  have hupl : UpAt H' a (lst n (uOf l)) := by rw [← he]; exact hup
  have g1 := hle _ _ h1
  have g2 := hle _ _ h2
  have g3 := hle _ _ h3
  have g4 := hle _ _ h4
  have g5 := hle _ _ h5
  have l1 := (hw _ _ g1).1
  have l2 := (hw _ _ g2).1
  have l3 := (hw _ _ g3).1
  have l4 := (hw _ _ g4).1
  have l5 := (hw _ _ g5).1
  have hbu := hb _ hT
  simp only [bv, iv] at g2 g3 g4 g5
  unfold S_wordhoardlaw_HeadsBest_fn1
  simp (disch := first | omega | simp) [g1]
  refine ca_pure (by kernel_rfl) (c_HangWorth (ScAt.dsl s) hs hupl hT.1) ?_
  have fin : Rt Try.prog H'.nx (.tup []) (fun _ H'' => H'' = H') ((H'.up 27).put p2 (.box t2 [.p (.bool true)])) := by
    refine rt_one hw (fun i o hi => ?_) (Cl.tup .nil) rfl
    by_cases e : i = p2
    · subst e; rw [put_get, ← g2]; exact hi
    · rw [AH.get_put_ne e]; exact hi
  have key : ∀ kk : AV → AH → Prop, (∀ q : Bool, (q = true → FlatT n (uOf l)) → kk (bv q) (H'.up 27)) → Ca Try.prog (.fn (.func 16) [] []) [a] kk (H'.up 27) := fun kk hkk => by
    refine ca_of (by kernel_rfl) (c_HangFlat (hup.le (.up (.refl _))) (by omega)) ?_
    rintro v2 H2 ⟨e2, q, rfl, hq⟩
    subst e2
    exact hkk q fun h => hFL (hq.1 h)
  have key2 : ∀ kk : AV → AH → Prop, kk (iv (rts (uOf l) (n - 1) : Nat)) (H'.up 27) → Ca Try.prog (.fn (.func 17) [] []) [a] kk (H'.up 27) := fun kk hkk =>
    ca_pure (by kernel_rfl) (c_Roots hn13 (hupl.le (.up (.refl _)))) hkk
  have part2 : ¬ Wt n (sco s) (uOf l) ≤ K1 → rts (uOf l) (n - 1) ≠ 1 := fun hn hr => by
    obtain ⟨q, q0, qn, hq⟩ := rts_OneR.1 hr
    exact hn (ho _ q hT q0 qn hq)
  by_cases c1 : Wt n (sco s) (uOf l) ≤ M1
  · by_cases c2 : Wt n (sco s) (uOf l) ≤ K1
    · simp (disch := first | omega | simp) [iv, bv, g2, g3, g4, g5, hbu, c1, c2]
      exact fin
    · have hr := part2 c2
      have hri : ¬ ((rts (uOf l) (n - 1) : Nat) : Int) = 1 := by omega
      simp (disch := first | omega | simp) [iv, bv, g2, g3, g4, g5, hbu, c1, c2]
      refine key2 _ ?_
      simp (disch := first | omega | simp) [iv, bv, g2, hr, hri]
      exact fin
  · simp (disch := first | omega | simp) [iv, bv, g2, g3, g4, g5, hbu, c1]
    refine key _ fun q hq => ?_
    cases q with
    | true => exact absurd (hf _ (hq rfl)) c1
    | false =>
      by_cases c2 : Wt n (sco s) (uOf l) ≤ K1
      · simp (disch := first | omega | simp) [iv, bv, g2, g5, c2]
        exact fin
      · have hr := part2 c2
        have hri : ¬ ((rts (uOf l) (n - 1) : Nat) : Int) = 1 := by omega
        simp (disch := first | omega | simp) [iv, bv, g2, g5, c2]
        refine key2 _ ?_
        simp (disch := first | omega | simp) [iv, bv, g2, hr, hri]
        exact fin
end Go.Proofs.Ytaepnmnoofigjaa

/- What HeadsBest says. -/
namespace Go.Proofs.Ytaepnmnoofigjaa
open Go.RowKit Go.Maps
theorem one_uni {s : List (List Int)} {u : Nat → Nat} {r : AV} (hc : chk s = 0) (hT : TreeF s.length u) (h : OneRes s r) : ∃ uo, r = .tup [.dsl 1 (iE (lst s.length uo)), iv (Wt s.length (sco s) uo), iv 0] ∧ TreeF s.length uo ∧ (1 < s.length → ∃ q, 0 < q ∧ q < s.length ∧ OneR s.length uo q) ∧ ∀ u' q, TreeF s.length u' → 0 < q → q < s.length → OneR s.length u' q → Wt s.length (sco s) u' ≤ Wt s.length (sco s) uo := by
  rcases h with ⟨h, _⟩ | ⟨_, h1, rfl⟩ | ⟨_, h1, uo, rfl, hTo, ho, hm⟩
  · exact absurd hc h
  · refine ⟨u, ?_, hT, fun h => by omega, fun u' q _ h0 h2 => by omega⟩
    rw [h1]; rfl
  · exact ⟨uo, rfl, hTo, fun _ => ho, hm⟩
theorem truth {p : Prop} : ∃ q : Bool, (q = true ↔ p) := by
  by_cases h : p
  · exact ⟨true, (fun _ => h), fun _ => rfl⟩
  · exact ⟨false, (fun c => by cases c), fun c => absurd c h⟩
theorem treeB_lst {n : Nat} {u : Nat → Nat} (hn : 1 ≤ n) (h : TreeF n u) : treeB (lst n u) = true := treeB_of (by omega) h
set_option maxHeartbeats 4000000 in
theorem some_loop {some_ : List (List Int)} (hl1 : some_.length ≤ 1000000000) (hl2 : ∀ r ∈ some_, r.length ≤ 1000000000) {Q : AV → AH → Prop} {H M : AH} {v2 v23 v27 v7 v33 v10 v39 v13 : AV} (hC : S_wordhoardlaw_HeadsBest_C5 (scA some_) Q H v2 v23 v27 v7 v33 v10 v39 v13 M) : LoopA Try.prog 1 (S_wordhoardlaw_HeadsBest_L6 (scA some_) Q H v2 v23 v27 v7 v33 v10 v39 v13) [.p (.int .i64 0)] M := by
  have hlenS := (ScAt.dsl (H := H) some_).len
  refine loop_st (H0 := M) (fun i : Nat => [iv i]) (fun i H' => M = H' ∧ i ≤ some_.length) (fun i => some_.length - i) 0 (.refl (Nat.le_refl _)) ⟨rfl, Nat.zero_le _⟩ ?_
  rintro i _ _ ⟨rfl, hi⟩ k hk
  unfold S_wordhoardlaw_HeadsBest_L6
  by_cases hil : i < some_.length
  · obtain ⟨r, hr⟩ : ∃ r, some_[i]? = some r := ⟨_, List.getElem?_eq_getElem hil⟩
    have hrl := hl2 r (List.mem_of_getElem? hr)
    have hso : (some_.map fun r => [AV.dsl 1 (iE r)])[i]? = some [.dsl 1 (iE r)] := by rw [List.getElem?_map, hr]; rfl
    have hsg : ∀ h, (some_.map fun r => [AV.dsl 1 (iE r)])[i]'h = [.dsl 1 (iE r)] := fun h => (List.getElem?_eq_some_iff.1 hso).2
    have hrg : ∀ h, some_[i]'h = r := fun h => (List.getElem?_eq_some_iff.1 hr).2
    have hi1 := ivn (i := i) (by omega)
    obtain ⟨q, hq⟩ := truth (p := FL r)
    have hfl : ∀ H2, Tri Try.prog 15 [.dsl 1 (iE r)] H2 (fun v H' => H' = H2 ∧ v = bv q) := fun H2 => (c_Flat (.dsl r) hrl).mono fun v H' ⟨e, b, hv, hb⟩ => ⟨e, by rw [hv, bool_iff hb hq]⟩
    have hfl2 : ∀ H2, Tri Try.prog 16 [.dsl 1 (iE r)] H2 (fun v H' => H' = H2 ∧ v = bv q) := fun H2 => (c_HangFlat (.dsl r) hrl).mono fun v H' ⟨e, b, hv, hb⟩ => ⟨e, by rw [hv, bool_iff hb hq]⟩
    simp (disch := first | omega | simp) [iv, hlenS, hil]
    unfold S_wordhoardlaw_HeadsBest_C1
    simp (disch := first | omega | simp) [iv, scA, hil, hso, hsg, hrg]
    refine cav_pure (by kernel_rfl) (fun H2 _ => c_Tree (.dsl r) hrl) ?_
    simp (disch := first | omega | simp) [iv, hil, hso, hsg, hrg]
    refine cav_pure (by kernel_rfl) (fun H2 _ => c_HangTree (.dsl r) hrl) ?_
    simp (disch := first | omega | simp) [iv, bv, hil, hso, hsg, hrg]
    refine cav_pure (by kernel_rfl) (fun H2 _ => hfl H2) ?_
    simp (disch := first | omega | simp) [iv, bv, hil, hso, hsg, hrg]
    refine cav_pure (by kernel_rfl) (fun H2 _ => hfl2 H2) ?_
    simp (disch := first | omega | simp) [iv, bv, hi1]
    exact hk (i + 1) _ _ _ (.refl (Nat.le_refl _)) ⟨rfl, hil⟩ (by omega)
  · simp (disch := first | omega | simp) [iv, hlenS, hil]
    exact hC
set_option maxHeartbeats 8000000 in
theorem c_HeadsBest (s some_ : List (List Int)) (hl1 : some_.length ≤ 1000000000) (hl2 : ∀ r ∈ some_, r.length ≤ 1000000000) (H : AH) : Tri Try.prog 4 [scA s, scA some_] H (fun v H' => H' = H ∧ v = bv true) := tri_wf fun hw => tri_wordhoardlaw_HeadsBest (by
  unfold S_wordhoardlaw_HeadsBest
  have hsc : ∀ {X : AH}, ScAt X (scA s) s := ScAt.dsl s
  obtain ⟨hp1, hp2⟩ := (ScAt.dsl (H := H) s).part
  have hlenN := (ScAt.dsl (H := H) s).len
  have hlenS := (ScAt.dsl (H := H) some_).len
  simp (disch := first | omega | simp) [put_get_ne, hp1, hp2]
  refine ca_pure (by kernel_rfl) (c_begun _) ?_
  simp (disch := first | omega | simp) [bv]
  unfold S_wordhoardlaw_HeadsBest_C7
  simp (disch := first | omega | simp) [put_get_ne]
  refine ca_pure (by kernel_rfl) (c_CheckScore hsc) ?_
  simp (disch := first | omega | simp) [iv, put_get_ne]
  refine ca_of (by kernel_rfl) (c_Best hsc) ?_
  rintro r1 H1 ⟨e1, hB⟩
  subst e1
  by_cases hc : chk s = 0
  · rcases hB with ⟨h, _⟩ | ⟨_, u, rfl, hT, hmax⟩
    · exact absurd hc h
    simp (disch := first | omega | simp) [iv, put_get_ne]
    refine ca_of (by kernel_rfl) (c_BestFlat hsc) ?_
    rintro r2 H2 ⟨e2, hF⟩
    subst e2
    rcases hF with ⟨h, _⟩ | ⟨_, uf, rfl, hTf, hmaxf⟩
    · exact absurd hc h
    simp (disch := first | omega | simp) [iv, put_get_ne]
    refine ca_of (by kernel_rfl) (c_One hsc) ?_
    rintro r3 H3 ⟨e3, hO⟩
    subst e3
    obtain ⟨uo, rfl, hTo, hOne, hmaxo⟩ := one_uni hc hT hO
    simp (disch := first | omega | simp) [iv, put_get_ne]
    refine ca_pure (by kernel_rfl) (c_Check hsc) ?_
    simp (disch := first | omega | simp) [iv, hc]
    have hok := ScOk.of hc
    have h13 := hok.2.2.1
    have h1 := hok.2.1
    have hrng := hok.rng
    generalize hN : s.length = n at *
    have hsub : IntKind.i64.wrap ((n : Int) - 1) = ((n - 1 : Nat) : Int) := by rw [IntKind.wrap_i64]; omega
    refine some_loop hl1 hl2 ?_
    generalize hM : AH.put _ _ _ = M
    have hMl : H.le M := by rw [← hM]; exact (by repeat (first | with_reducible assumption | with_reducible exact AH.le.refl _ | with_reducible apply AH.le.up | (with_reducible refine AH.le.put hw ?_ ?_; · first | omega | (simp only [up_nx, put_nx, kill_nx]; done) | (simp only [up_nx, put_nx, kill_nx]; omega)) | (with_reducible refine AH.le.kill hw ?_ ?_; · first | omega | (simp only [up_nx, put_nx, kill_nx]; done) | (simp only [up_nx, put_nx, kill_nx]; omega))))
    have hMn : M.nx = H.nx + 32 := by rw [← hM]; rfl
    have g1 : M.get H.nx = some (.box 22 [scA s]) := by rw [← hM]; simp (disch := first | omega | simp) [put_get_ne]
    have g3 : M.get (H.nx + 2 + 6) = some (.box 3 [iv (Wt n (sco s) u)]) := by rw [← hM]; simp (disch := first | omega | simp) [put_get_ne, iv]
    have g4 : M.get (H.nx + 2 + 10 + 6) = some (.box 3 [iv (Wt n (sco s) uf)]) := by rw [← hM]; simp (disch := first | omega | simp) [put_get_ne, iv]
    have g5 : M.get (H.nx + 2 + 10 + 10 + 6) = some (.box 3 [iv (Wt n (sco s) uo)]) := by rw [← hM]; simp (disch := first | omega | simp) [put_get_ne, iv]
    simp only [iv] at g3 g4 g5
    have hC3 : S_wordhoardlaw_HeadsBest_C3 (scA some_) (fun v H' => H' = H ∧ v = AV.p (.bool true)) H (.ptr H.nx 0) (.dsl 1 (iE (lst n u))) (.ptr (H.nx + 2 + 6) 0) (.dsl 1 (iE (lst n uf))) (.ptr (H.nx + 2 + 10 + 6) 0) (.dsl 1 (iE (lst n uo))) (.ptr (H.nx + 2 + 10 + 10 + 6) 0) (.p (.int .i64 ((n - 1 : Nat) : Int))) M := by
      unfold S_wordhoardlaw_HeadsBest_C3
      simp (disch := first | omega | simp) [iv, g1]
      refine cav_pure (by kernel_rfl) (fun H2 _ => c_HangWorth hsc hok (.dsl _) hT.1) ?_
      simp (disch := first | omega | simp) [iv, g1, g3]
      refine cav_pure (by kernel_rfl) (fun H2 _ => c_HangWorth hsc hok (.dsl _) hTf.1.1) ?_
      simp (disch := first | omega | simp) [iv, g1, g4]
      refine cav_pure (by kernel_rfl) (fun H2 _ => c_HangWorth hsc hok (.dsl _) hTo.1) ?_
      simp (disch := first | omega | simp) [iv, g1, g5, put_get_ne]
      generalize hX : AH.put (AH.put (M.up 2) _ _) _ _ = X
      have hXl : H.le X := by rw [← hX]; exact (by repeat (first | with_reducible assumption | with_reducible exact AH.le.refl _ | with_reducible apply AH.le.up | (with_reducible refine AH.le.put hw ?_ ?_; · first | omega | (simp only [up_nx, put_nx, kill_nx]; done) | (simp only [up_nx, put_nx, kill_nx]; omega)) | (with_reducible refine AH.le.kill hw ?_ ?_; · first | omega | (simp only [up_nx, put_nx, kill_nx]; done) | (simp only [up_nx, put_nx, kill_nx]; omega))))
      have hXo : ∀ j, j < M.nx → X.get j = M.get j := fun j hj => by rw [← hX]; simp (disch := first | omega | simp) [put_get_ne]
      have hXk : X.get M.nx = some (.box 4 [bv true]) := by rw [← hX, put_get]; rfl
      have htell : Tells X 18 [.ptr H.nx 0, .ptr M.nx 0, .ptr (H.nx + 2 + 6) 0, .ptr (H.nx + 2 + 10 + 6) 0, .ptr (H.nx + 2 + 10 + 10 + 6) 0] (n - 1) :=
        none_tells hok ((hXo _ (by omega)).trans g1) hXk ((hXo _ (by omega)).trans g3) ((hXo _ (by omega)).trans g4) ((hXo _ (by omega)).trans g5) hmax hmaxf hmaxo
      simp only [bv] at hXk
      refine ⟨fun _ => ?_, fun h5 => ?_⟩
      · refine ca_of (by kernel_rfl) (c_HangAll htell (by omega)) ?_
        rintro v H4 e4
        subst e4
        simp (disch := first | omega | simp) [hXk]
        exact rt_one hw hXl (by repeat (first | exact Cl.p _ | exact Cl.dsl _ _ | exact Cl.any | refine Cl.tup ?_ | refine Cl.agg ?_ | exact Clo.nil | refine Clo.cons ?_ ?_)) ⟨rfl, rfl⟩
      · refine loop_st (H0 := X) (fun i : Nat => [iv i]) (fun i H' => X = H' ∧ i ≤ some_.length) (fun i => some_.length - i) 0 (.refl (Nat.le_refl _)) ⟨rfl, Nat.zero_le _⟩ ?_
        rintro i _ _ ⟨rfl, hi⟩ k hk
        unfold S_wordhoardlaw_HeadsBest_L2
        by_cases hil : i < some_.length
        · obtain ⟨r, hr⟩ : ∃ r, some_[i]? = some r := ⟨_, List.getElem?_eq_getElem hil⟩
          have hrl := hl2 r (List.mem_of_getElem? hr)
          have hso : (some_.map fun r => [AV.dsl 1 (iE r)])[i]? = some [.dsl 1 (iE r)] := by rw [List.getElem?_map, hr]; rfl
          have hsg : ∀ h, (some_.map fun r => [AV.dsl 1 (iE r)])[i]'h = [.dsl 1 (iE r)] := fun h => (List.getElem?_eq_some_iff.1 hso).2
          have hrg : ∀ h, some_[i]'h = r := fun h => (List.getElem?_eq_some_iff.1 hr).2
          have hi1 := ivn (i := i) (by omega)
          have next : k [iv ((i + 1 : Nat) : Int)] X := hk (i + 1) _ _ _ (.refl (Nat.le_refl _)) ⟨rfl, hil⟩ (by omega)
          simp (disch := first | omega | simp) [iv, hlenS, hil]
          by_cases hlen : r.length = n - 1
          · have hleni : ((r.length : Int) = ((n - 1 : Nat) : Int)) = True := eq_true (by omega)
            simp (disch := first | omega | simp) [iv, scA, hil, hso, hsg, hrg, iE_len, hlen, hleni]
            refine ca_pure (by kernel_rfl) (c_HangTree (.dsl r) hrl) ?_
            cases ht : treeB r with
            | false =>
              simp (disch := first | omega | simp) [bv, hi1]
              exact next
            | true =>
              simp (disch := first | omega | simp) [bv, hil, hso, hsg, hrg]
              refine ca_of htell.1 (htell.2 X _ r (.refl _) (.dsl r) hlen ht) ?_
              rintro v H4 e4
              subst e4
              simp (disch := first | omega | simp) [hi1]
              exact next
          · have hlen' : (r.length = n - 1) = False := eq_false hlen
            have hleni : ((r.length : Int) = ((n - 1 : Nat) : Int)) = False := eq_false (by omega)
            simp (disch := first | omega | simp) [iv, scA, hil, hso, hsg, hrg, iE_len, hlen', hleni, hi1]
            exact next
        · simp (disch := first | omega | simp) [iv, hlenS, hil, hXk]
          exact rt_one hw hXl (by repeat (first | exact Cl.p _ | exact Cl.dsl _ _ | exact Cl.any | refine Cl.tup ?_ | refine Cl.agg ?_ | exact Clo.nil | refine Clo.cons ?_ ?_)) ⟨rfl, rfl⟩
    unfold S_wordhoardlaw_HeadsBest_C5
    simp (disch := first | omega | simp) [iv]
    unfold S_wordhoardlaw_HeadsBest_C4
    simp (disch := first | omega | simp) [iv, g1, hlenN, hsub, iE_len, lst_len]
    refine ca_pure (by kernel_rfl) (c_HangTree (.dsl _) (by rw [lst_len]; omega)) ?_
    rw [treeB_lst h1 hT]
    simp (disch := first | omega | simp) [iv, bv]
    have hff : Tri Try.prog 16 [.dsl 1 (iE (lst n uf))] M (fun v H' => H' = M ∧ v = bv true) := (c_HangFlat (.dsl _) (by rw [lst_len]; omega)).mono fun v H' ⟨e, b, hv, hb⟩ => ⟨e, by rw [hv, hb.2 (FL.lst h1 hTf)]⟩
    refine ca_pure (by kernel_rfl) hff ?_
    simp (disch := first | omega | simp) [iv, bv]
    refine ca_pure (by kernel_rfl) (c_HangTree (.dsl _) (by rw [lst_len]; omega)) ?_
    rw [treeB_lst h1 hTo]
    by_cases hn1 : n = 1
    · have hz : n - 1 = 0 := by omega
      have hzi : ¬ (0 : Int) < ((n - 1 : Nat) : Int) := by omega
      simp (disch := first | omega | simp) [iv, bv, hzi]
      rw [hz] at hC3
      exact hC3
    · have hz : (0 : Int) < ((n - 1 : Nat) : Int) := by omega
      have hz2 : 0 < n - 1 := by omega
      have hrt : rts uo (n - 1) = 1 := rts_OneR.2 (hOne (by omega))
      simp (disch := first | omega | simp) [iv, bv, hz, hz2]
      refine ca_pure (by kernel_rfl) (c_Roots h13 (.dsl _)) ?_
      rw [hrt]
      simp (disch := first | omega | simp) [iv, bv]
      exact hC3
  · rcases hB with ⟨_, rfl⟩ | ⟨h, _⟩
    · simp (disch := first | omega | simp) [iv, put_get_ne]
      refine ca_of (by kernel_rfl) (c_BestFlat hsc) ?_
      rintro r2 H2 ⟨e2, hF⟩
      subst e2
      rcases hF with ⟨_, rfl⟩ | ⟨h, _⟩
      · simp (disch := first | omega | simp) [iv, put_get_ne]
        refine ca_of (by kernel_rfl) (c_One hsc) ?_
        rintro r3 H3 ⟨e3, hO⟩
        subst e3
        rcases hO with ⟨_, rfl⟩ | ⟨h, _⟩ | ⟨h, _⟩
        · simp (disch := first | omega | simp) [iv, put_get_ne]
          refine ca_pure (by kernel_rfl) (c_Check hsc) ?_
          simp (disch := first | omega | simp) [iv, hc]
          refine some_loop hl1 hl2 ?_
          generalize hM : AH.put _ _ _ = M
          have hMl : H.le M := by rw [← hM]; exact (by repeat (first | with_reducible assumption | with_reducible exact AH.le.refl _ | with_reducible apply AH.le.up | (with_reducible refine AH.le.put hw ?_ ?_; · first | omega | (simp only [up_nx, put_nx, kill_nx]; done) | (simp only [up_nx, put_nx, kill_nx]; omega)) | (with_reducible refine AH.le.kill hw ?_ ?_; · first | omega | (simp only [up_nx, put_nx, kill_nx]; done) | (simp only [up_nx, put_nx, kill_nx]; omega))))
          have g3 : M.get (H.nx + 2 + 6) = some (.box 3 [.p (.int .i64 0)]) := by rw [← hM]; simp (disch := first | omega | simp) [put_get_ne]
          have g4 : M.get (H.nx + 2 + 10 + 6) = some (.box 3 [.p (.int .i64 0)]) := by rw [← hM]; simp (disch := first | omega | simp) [put_get_ne]
          have g5 : M.get (H.nx + 2 + 10 + 10 + 6) = some (.box 3 [.p (.int .i64 0)]) := by rw [← hM]; simp (disch := first | omega | simp) [put_get_ne]
          unfold S_wordhoardlaw_HeadsBest_C5
          simp (disch := first | omega | simp) [iv, hc, g3, g4, g5]
          exact rt_one hw hMl (by repeat (first | exact Cl.p _ | exact Cl.dsl _ _ | exact Cl.any | refine Cl.tup ?_ | refine Cl.agg ?_ | exact Clo.nil | refine Clo.cons ?_ ?_)) ⟨rfl, rfl⟩
        · exact absurd h hc
        · exact absurd h hc
      · exact absurd h hc
    · exact absurd h hc)
theorem w_HeadsBest (s some_ : List (List Int)) (hl1 : some_.length ≤ 1000000000) (hl2 : ∀ r ∈ some_, r.length ≤ 1000000000) (H : AH) : Tri Try.prog 4 [.dsl 1 (s.map fun r => [.dsl 1 (r.map fun x => [.p (.int .i64 x)])]), .dsl 1 (some_.map fun r => [.dsl 1 (r.map fun x => [.p (.int .i64 x)])])] H (fun v _ => v = .p (.bool true)) := (c_HeadsBest s some_ hl1 hl2 H).mono fun v H' h => h.2
end Go.Proofs.Ytaepnmnoofigjaa

/- How long rows are, off their bulk. -/
namespace Go.Proofs.Ytaepnmnoofigjaa
open Go.RowKit Go.Maps Go.ChangeShapes Go.WideShapes
theorem row_bulk : ∀ (l : List (List Int)), l.length ≤ (l.map (rList rInt).bulk).sum ∧ ∀ x ∈ l, x.length ≤ (l.map (rList rInt).bulk).sum
  | [] => ⟨by simp, by simp⟩
  | a :: r => by
    obtain ⟨h1, h2⟩ := row_bulk r
    have hi : ∀ xs : List Int, (xs.map rInt.bulk).sum = xs.length := fun xs => by induction xs with
      | nil => rfl
      | cons b bs ih => rw [List.map_cons, List.sum_cons, ih, List.length_cons]; show 1 + _ = _; omega
    have ha : (rList rInt).bulk a = a.length + 1 := by
      show (a.map rInt.bulk).sum + 1 = _
      rw [hi]
    rw [List.map_cons, List.sum_cons, List.length_cons, ha]
    refine ⟨by omega, fun x hx => ?_⟩
    rcases List.mem_cons.1 hx with rfl | hx
    · omega
    · have := h2 x hx; omega
end Go.Proofs.Ytaepnmnoofigjaa

namespace Go.Proofs.Ytaepnmnoofigjaa.headsBest
open Go.ChangeShapes Go.WideShapes Go.ChangeAt Go.RowKit
open Go.ChangeMaps (open_string shut_string)

theorem contract (H : Type) (enc : TypeId × Value → H) (W : World) (base : Nat) (args : Array Value) (ds gs : List (DataW H)) (before : List MemPlace)
    (hval : ∀ (j : Nat) t v, Try.f4.params[j]? = some t → args[j]? = some v → Value.okWide Try.prog W .any base t v)
    (hW : DataW.Whole enc Try.prog Try.f4.params.toList Rows.headsBestSpec.vars false W args.toList ds gs before) (hk : Rows.uptoSmall H (ds ++ gs) = true) :
    Calls Try.prog 4 args W fun e W' => ∃ v, e = .returned v ∧ Rows.headsBestSpec.post enc Try.prog Try.f4 false true false false W args v W' := by
  have hW' := hW
  obtain ⟨p, q, hA0, hV, rfl, hfz, hnd⟩ := hW
  have hA : DataW.TrodAll enc Try.prog W 0 (fun _ => true) true Try.f4.params.toList args.toList ds p := hA0
  rw [Try.params4] at hA hval
  obtain ⟨v0, v1, d0, d1, p0, p1, rfl, rfl, rfl, h0, h1⟩ := trodAll_two hA
  obtain ⟨rfl, rfl⟩ := trodVars_none hV
  obtain ⟨A0, c0, x0, rfl, hs0, hb0⟩ := arg_slice opens_rows Try.underlying22 (hval 0 22 v0 rfl rfl) h0
  obtain ⟨A1, c1, x1, rfl, hs1, hb1⟩ := arg_slice opens_rows Try.underlying22 (hval 1 22 v1 rfl rfl) h1
  have hbulk : Rows.uptoBulkAll ([d0, d1] ++ []) ≤ 1048576 := of_decide_eq_true hk
  simp only [List.append_nil, Rows.uptoBulkAll, Rows.uptoBulk] at hbulk
  obtain ⟨k0, r0⟩ := (avs_row).sl (by decide) (σ' := fun _ => none) hs0
  obtain ⟨k1, r1⟩ := (avs_row).sl (by decide) (σ' := fun _ => none) hs1
  obtain ⟨lb1, lb2⟩ := row_bulk x1
  refine (law_calls (us := [.slice A0 x0.length c0, .slice A1 x1.length c1]) (w_HeadsBest (x0.map (List.map id)) (x1.map (List.map id)) (by rw [List.length_map]; omega) (fun y hy => by obtain ⟨z, hz, rfl⟩ := List.mem_map.1 hy; have := lb2 z hz; rw [List.length_map]; omega) _) (.cons r0 (.cons r1 .nil))).mono fun e W' ⟨he, hg⟩ => ?_
  subst he
  exact ⟨_, rfl, post_true rfl Try.underlying4 rfl laidOut (by kernel_rfl) hW' rfl hg⟩

set_option maxRecDepth 100000 in
theorem lifted (os : Os) (started : os.Started) (H : Type) (enc : TypeId × Value → H) (F : Stop.Interp) :
    ReturnsInHanded {} Try.checked os 4 .any ((Rows.OpenSpec.upto Rows.headsBestSpec).pre6 enc Try.prog Try.f4 Rows.headsBestUptoRow.domain false) (((Rows.OpenSpec.upto Rows.headsBestSpec).at F).post enc Try.prog Try.f4 false true false false) := by
  refine returnsInHanded_of_cond (C := Try.checked) (s := Rows.OpenSpec.upto Rows.headsBestSpec) (k := Rows.uptoSmall) rfl own started (by kernel_rfl) Try.func4
    (OpenSpec.witness (enc := enc) (C := Try.checked) (s := Rows.OpenSpec.upto Rows.headsBestSpec) (k := Rows.uptoSmall) rfl false ⟨#[], #[.slice none 0 0, .slice none 0 0], []⟩ 8 (by kernel_rfl) (by kernel_rfl) (by kernel_rfl)
      (x := ([.nil, .nil], [], [])) (by kernel_rfl) rfl (by kernel_rfl)) ?_
  intro W base args ds gs before hval hW _ hk _
  exact contract H enc W base args ds gs before hval hW hk

theorem proved : Rows.HeadsBestUptoSaid :=
  OpenClaim.holds_of_cond 4 Try.f4 rfl rfl rfl rfl rfl rfl rfl ⟨rfl, rfl, rfl, rfl, rfl⟩ rfl rfl rfl rfl rfl (by kernel_rfl) Try.func4 (by kernel_rfl)
    (of_decide_eq_true (by kernel_rfl)) (by unfold Func.isWrapper; first | (rw [if_pos (by decide +kernel)]; kernel_rfl) | (rw [if_neg (by decide +kernel)]; exact ⟨rfl, rfl⟩))
    (fun os started H enc _ F => lifted os started H enc F)
end Go.Proofs.Ytaepnmnoofigjaa.headsBest
