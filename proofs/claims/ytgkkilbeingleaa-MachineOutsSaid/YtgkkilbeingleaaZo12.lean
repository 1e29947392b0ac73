/- Texts that the proof rests on, part 12: what each holds stands at its head. -/
import Derived.Test.YtgkkilbeingleaaZo11

/- Turn, Side. -/
namespace Go.Proofs.Ytgkkilbeingleaa
open Go.RowKit Go.Maps
section
variable {P : Program}
end
end Go.Proofs.Ytgkkilbeingleaa

/- What the machines that are made read and write. Plain. -/
namespace Go.Proofs.Ytgkkilbeingleaa
theorem Least.dom {S T : Int → Prop} {v : Int} (h : Least T v) (h1 : ∀ c, T c → S c) (h2 : ∀ c, S c → ∃ c', c' ≤ c ∧ T c') : Least S v :=
  ⟨fun c hc => by obtain ⟨c', h3, h4⟩ := h2 c hc; have := h.le c' h4; omega, h.top, fun hv => h1 _ (h.at_ hv)⟩
/-- any number of walks one behind the other -/
inductive Star (m : Mac) : List Int → List Int → Int → Prop
  | nil : Star m [] [] 0
  | snoc {I O I' O' : List Int} {c d : Int} : Star m I O c → Acc m true I' O' d → Star m (I ++ I') (O ++ O') (c + d)
theorem Star.nonneg {m : Mac} (hm : m.Ok) {X Y : List Int} {c : Int} (h : Star m X Y c) : 0 ≤ c := by
  induction h with
  | nil => omega
  | snoc _ k ih => have := k.nonneg hm; omega
/-- the last walk that reads or writes anything -/
theorem Star.last {m : Mac} (hm : m.Ok) {X Y : List Int} {c : Int} (h : Star m X Y c) : (X = [] ∧ Y = [] ∧ 0 ≤ c) ∨ ∃ X1 X2 Y1 Y2 d e, X = X1 ++ X2 ∧ Y = Y1 ++ Y2 ∧ (X2 ≠ [] ∨ Y2 ≠ []) ∧ Star m X1 Y1 d ∧ Acc m true X2 Y2 e ∧ d + e ≤ c := by
  induction h with
  | nil => exact .inl ⟨rfl, rfl, by omega⟩
  | @snoc I O I' O' c d hs ha ih =>
    have hd := ha.nonneg hm
    by_cases e : I' = [] ∧ O' = []
    · obtain ⟨rfl, rfl⟩ := e
      rcases ih with ⟨rfl, rfl, h0⟩ | ⟨X1, X2, Y1, Y2, d', e', h1, h2, h3, h4, h5, h6⟩
      · exact .inl ⟨rfl, rfl, by omega⟩
      · exact .inr ⟨X1, X2, Y1, Y2, d', e', by rw [List.append_nil]; exact h1, by rw [List.append_nil]; exact h2, h3, h4, h5, by omega⟩
    · refine .inr ⟨I, I', O, O', c, d, rfl, rfl, ?_, hs, ha, by omega⟩
      by_cases e1 : I' = []
      · exact .inr fun e2 => e ⟨e1, e2⟩
      · exact .inl e1
/-- walks in a machine that holds another one's arcs, shifted -/
theorem Wk.shift {m x : Mac} {told : Bool} {s : Int} (h : ∀ a ∈ m.arcs, a.shift s ∈ x.arcs) {p q c : Int} {I O : List Int} (hw : Wk m told p I O q c) : Wk x told (s + p) I O (s + q) c := by
  induction hw with
  | nil => exact .nil
  | snoc _ ha ih => exact ih.snoc (h _ ha)
end Go.Proofs.Ytgkkilbeingleaa

/- The reference's Cost: the least cost. -/
namespace Go.Proofs.Ytgkkilbeingleaa
open Go.RowKit Go.Maps
def nE (l : List Int) : List (List AV) := l.map fun x => [iv x]
@[simp] theorem nE_len (l : List Int) : (nE l).length = l.length := by simp [nE]
theorem nE_get {l : List Int} {i : Nat} {x : Int} (h : l[i]? = some x) : (nE l)[i]? = some [iv x] := by simp [nE, h]
theorem nE_set (l : List Int) (i : Nat) (x : Int) : (nE l).set i [iv x] = nE (l.set i x) := by simp [nE, List.map_set]
theorem ix_int {n k i j : Nat} {s N : Int} (h0 : 0 ≤ s) (h1 : s < N) (hN : N ≤ 3000) (hn : n ≤ 61) (hk : k ≤ 61) (hi : i < n) (hj : j < k) :
    IntKind.i64.wrap (IntKind.i64.wrap (IntKind.i64.wrap (IntKind.i64.wrap (s * (n : Int)) + (i : Int)) * (k : Int)) + (j : Int)) = ((ix n k s.toNat i j : Nat) : Int) := by
  have e : ((ix n k s.toNat i j : Nat) : Int) = (s * n + i) * k + j := by
    unfold ix
    rw [Int.natCast_add, Int.natCast_mul, Int.natCast_add, Int.natCast_mul, show ((s.toNat : Nat) : Int) = s by omega]
  have b1 : s * n ≤ 3000 * 61 := by
    calc s * n ≤ 3000 * n := Int.mul_le_mul_of_nonneg_right (by omega) (by omega)
      _ ≤ 3000 * 61 := by omega
  have b0 : 0 ≤ s * n := Int.mul_nonneg h0 (by omega)
  have b2 : (s * n + i) * k ≤ 184000 * 61 := by
    calc (s * n + i) * k ≤ 184000 * k := Int.mul_le_mul_of_nonneg_right (by omega) (by omega)
      _ ≤ 184000 * 61 := by omega
  have b3 : 0 ≤ (s * n + i) * k := Int.mul_nonneg (by omega) (by omega)
  rw [e]
  have w1 : IntKind.i64.wrap (s * (n : Int)) = s * n := by rw [IntKind.wrap_i64]; omega
  rw [w1]
  have w2 : IntKind.i64.wrap (s * (n : Int) + i) = s * n + i := by rw [IntKind.wrap_i64]; omega
  rw [w2]
  have w3 : IntKind.i64.wrap ((s * (n : Int) + i) * k) = (s * n + i) * k := by rw [IntKind.wrap_i64]; omega
  rw [w3, IntKind.wrap_i64]; omega
theorem ix_end {n k : Nat} {s N : Int} {I : List Int} (h0 : 0 ≤ s) (h1 : s < N) (hN : N ≤ 3000) (hn : n ≤ 61) (hk : k ≤ 61) (hk0 : 0 < k) (he : n = I.length + 1) :
    IntKind.i64.wrap (IntKind.i64.wrap (IntKind.i64.wrap (IntKind.i64.wrap (IntKind.i64.wrap (s * (n : Int)) + (I.length : Int)) * (k : Int)) + (k : Int)) - 1) = ((ix n k s.toNat I.length (k - 1) : Nat) : Int) := by
  have h := ix_int (n := n) (k := k) (i := I.length) (j := 0) h0 h1 hN hn hk (by omega) hk0
  have e : ((ix n k s.toNat I.length (k - 1) : Nat) : Int) = (ix n k s.toNat I.length 0 : Nat) + k - 1 := by unfold ix; omega
  have b : ix n k s.toNat I.length 0 < 3000 * n * k := ix_lt (by omega) (by omega) hk0
  have b2 : 3000 * n * k ≤ 3000 * 61 * 61 := Nat.mul_le_mul (Nat.mul_le_mul_left _ hn) hk
  rw [e]
  generalize IntKind.i64.wrap (IntKind.i64.wrap (s * (n : Int)) + (I.length : Int)) * (k : Int) = z at *
  have hz : IntKind.i64.wrap (IntKind.i64.wrap z + ((0 : Nat) : Int)) = IntKind.i64.wrap z := by rw [IntKind.wrap_i64, IntKind.wrap_i64]; omega
  rw [hz] at h
  rw [h]
  generalize ix n k s.toNat I.length 0 = q at *
  have b3 : q < 11163000 := by omega
  clear h hz e b b2
  have w1 : IntKind.i64.wrap ((q : Int) + (k : Int)) = q + k := by rw [IntKind.wrap_i64]; omega
  rw [w1, IntKind.wrap_i64]; omega
section
variable {m : Mac} {told : Bool} {I O Lo L : List Int} {n k x i j : Nat} {ag : Bool}
set_option maxHeartbeats 1000000 in
theorem cost_body {H1 : AH} {R A : Nat} {ag0 : Bool} {a : Arc} (hm : m.Ok) (hn : n = I.length + 1) (hk : k = if told = true then O.length + 1 else 1) (hI : I.length ≤ 60) (hO : O.length ≤ 60) (ha : m.arcs[x]? = some a) (hi : i < n) (hj : j < k) (_hRA : R ≠ A)
    (hR : H1.get R = some (.row 3 1 (nE L))) (hA : H1.get A = some (.box 53 a.cs)) (_hRl : R < H1.nx) (hr : Rnd m told I O n k Lo ag L x i j) {k41 k44 : List AV → AH → Prop}
    (hk44 : ∀ ag' L' H2, H1.nx ≤ H2.nx → H2.get R = some (.row 3 1 (nE L')) → (∀ id, id ≠ R → H2.get id = H1.get id) → Rnd m told I O n k Lo ag' L' x i (j + 1) → k44 [bv ag', iv ((j + 1 : Nat) : Int)] H2) :
    S_wordhoardref_Cost_L4 (.dsl 1 (nE I)) (.dsl 1 (nE O)) (bv told) (iv (n : Int)) [iv (k : Int)] (.osl R 1 0 L.length) (.ptr A 0) k41 [bv ag0, iv (i : Int)] [bv ag, iv (j : Int)] k44 H1 := by
  have hk61 : k ≤ 61 := by rw [hk]; split <;> omega
  have hb := hm.2.2.2.2.1 a (List.mem_of_getElem? ha)
  have hst := hm.2.1
  obtain ⟨p, hp⟩ := hr.tab.at_ (s := a.fr.toNat) (by omega) hi hj
  have hpl := (List.getElem?_eq_some_iff.1 hp).1
  have hpg : ∀ h, L[ix n k a.fr.toNat i j]'h = p := fun h => (List.getElem?_eq_some_iff.1 hp).2
  have hix := ix_int (n := n) (k := k) (i := i) (j := j) hb.1 hb.2.1 hst (by omega) hk61 hi hj
  have hjk : (j : Int) < (k : Int) := by omega
  have hjv := ivn (i := j) (by omega)
  unfold Arc.cs iv at hA
  unfold S_wordhoardref_Cost_L4
  have hpe := nE_get hp
  unfold iv at hpe
  have hjv' : ∀ b : Bool, ∀ L' H2, H1.nx ≤ H2.nx → H2.get R = some (.row 3 1 (nE L')) → (∀ id, id ≠ R → H2.get id = H1.get id) → Rnd m told I O n k Lo b L' x i (j + 1) → k44 [.p (.bool b), .p (.int .i64 ((j + 1 : Nat) : Int))] H2 := hk44
  by_cases hpd : p = dear
  · simp (disch := first | omega | simp) [iv, bv, hjk, hA, hix, hR, hpl, hpe, hpd, dear, hjv]
    exact hjv' _ _ _ (Nat.le_refl _) hR (fun _ _ => rfl) (hr.skip ha (stab_dear (by rw [hp, hpd])))
  have hpd' : ¬ p = 1152921504606846976 := hpd
  simp (disch := first | omega | simp) [iv, bv, hjk, hA, hix, hR, hpl, hpe, hpd']
  unfold S_wordhoardref_Cost_C3
  have hil : I.length = n - 1 := by omega
  -- how far the reading comes
  refine cut_st (fun r : Nat => [iv (r : Int)]) (fun r H2 => H1 = H2 ∧ r < n ∧ adv a.inn I i = some r) (fun kk hkk => ?_) ?_
  · by_cases h0 : 0 < a.inn
    · by_cases hie : i = I.length
      · have : ((i : Nat) : Int) = (I.length : Int) := by omega
        simp (disch := first | omega | simp) [hA, h0, this, hjv]
        exact hjv' _ _ _ (Nat.le_refl _) hR (fun _ _ => rfl) (hr.skip ha (stab_in (by unfold adv; rw [if_pos h0, if_neg (by rw [hie]; simp)])))
      · have hie' : ¬ ((i : Nat) : Int) = (I.length : Int) := by omega
        obtain ⟨y, hy⟩ : ∃ y, I[i]? = some y := ⟨_, List.getElem?_eq_getElem (by omega)⟩
        have hye := nE_get hy
        unfold iv at hye
        have hiv := ivn (i := i) (by omega)
        by_cases hya : y = a.inn
        · simp (disch := first | omega | simp) [hA, h0, hie', hye, hya, hiv]
          refine ⟨by omega, ?_⟩
          exact hkk (i + 1) _ _ _ (.refl (Nat.le_refl _)) ⟨rfl, by omega, by unfold adv; rw [if_pos h0, if_pos (by rw [hy, hya])]⟩
        · simp (disch := first | omega | simp) [hA, h0, hie', hye, hya, hjv]
          refine ⟨by omega, ?_⟩
          exact hjv' _ _ _ (Nat.le_refl _) hR (fun _ _ => rfl) (hr.skip ha (stab_in (by unfold adv; rw [if_pos h0, if_neg (by rw [hy]; simpa using hya)])))
    · simp (disch := first | omega | simp) [hA, h0]
      exact hkk i _ _ _ (.refl (Nat.le_refl _)) ⟨rfl, hi, by unfold adv; rw [if_neg h0]⟩
  rintro i' H2 _ ⟨rfl, hi', hadv⟩
  unfold S_wordhoardref_Cost_K2
  -- how far the writing comes
  refine cut_st (fun r : Nat => [iv (r : Int)]) (fun r H2 => H1 = H2 ∧ r < k ∧ advo told a.out O j = some r) (fun kk hkk => ?_) ?_
  · by_cases ht : told = true
    · subst ht
      rw [if_pos rfl] at hk
      by_cases h0 : 0 < a.out
      · by_cases hie : j = O.length
        · subst hie
          simp (disch := first | omega | simp) [hA, h0, hjv]
          exact hjv' _ _ _ (Nat.le_refl _) hR (fun _ _ => rfl) (hr.skip ha (stab_out (by unfold advo adv; rw [if_pos rfl, if_pos h0, if_neg (by simp)])))
        · have hie' : ¬ ((j : Nat) : Int) = (O.length : Int) := by omega
          obtain ⟨y, hy⟩ : ∃ y, O[j]? = some y := ⟨_, List.getElem?_eq_getElem (by omega)⟩
          have hye := nE_get hy
          unfold iv at hye
          by_cases hya : y = a.out
          · simp (disch := first | omega | simp) [hA, h0, hie', hye, hya, hjv]
            refine ⟨by omega, ?_⟩
            exact hkk (j + 1) _ _ _ (.refl (Nat.le_refl _)) ⟨rfl, by omega, by unfold advo adv; rw [if_pos rfl, if_pos h0, if_pos (by rw [hy, hya])]⟩
          · simp (disch := first | omega | simp) [hA, h0, hie', hye, hya, hjv]
            refine ⟨by omega, ?_⟩
            exact hjv' _ _ _ (Nat.le_refl _) hR (fun _ _ => rfl) (hr.skip ha (stab_out (by unfold advo adv; rw [if_pos rfl, if_pos h0, if_neg (by rw [hy]; simpa using hya)])))
      · simp (disch := first | omega | simp) [hA, h0]
        exact hkk j _ _ _ (.refl (Nat.le_refl _)) ⟨rfl, hj, by unfold advo adv; rw [if_pos rfl, if_neg h0]⟩
    · have ht' : told = false := by simpa using ht
      subst ht'
      by_cases h0 : 0 < a.out
      · simp (disch := first | omega | simp) [hA, h0]
        exact hkk j _ _ _ (.refl (Nat.le_refl _)) ⟨rfl, hj, by unfold advo; rw [if_neg (by decide)]⟩
      · simp (disch := first | omega | simp) [hA, h0]
        exact hkk j _ _ _ (.refl (Nat.le_refl _)) ⟨rfl, hj, by unfold advo; rw [if_neg (by decide)]⟩
  rintro j' H2 _ ⟨rfl, hj', hadvo⟩
  unfold S_wordhoardref_Cost_K1
  obtain ⟨q, hq⟩ := hr.tab.at_ (s := a.to.toNat) (by omega) hi' hj'
  have hql := (List.getElem?_eq_some_iff.1 hq).1
  have hqe := nE_get hq
  unfold iv at hqe
  have hix' := ix_int (n := n) (k := k) (i := i') (j := j') hb.2.2.1 hb.2.2.2.1 hst (by omega) hk61 hi' hj'
  have hp0 := hr.tab.nonneg (by omega : a.fr.toNat < m.states.toNat) hi hj hp
  have hw : IntKind.i64.wrap (p + a.w) = p + a.w := by rw [IntKind.wrap_i64]; have : dear = 1152921504606846976 := rfl; omega
  simp (disch := first | omega | simp) [iv, hA, hix', hR, hql, hqe, hw, hjv]
  refine ⟨fun hlt => ?_, fun hge => ?_⟩
  · have hset := nE_set L (ix n k a.to.toNat i' j') (p + a.w)
    unfold iv at hset
    rw [hset]
    exact hjv' true (L.set (ix n k a.to.toNat i' j') (p + a.w)) _ (by simp only [put_nx, up_nx]; omega) (put_get _ _) (fun id hne => by rw [AH.get_put_ne hne]; rfl) (hr.low hm.fit ha hi hj hi' hj' hp hpd hadv hadvo hq hlt)
  · exact hjv' ag L _ (Nat.le_refl _) hR (fun _ _ => rfl) (hr.skip ha (stab_le hp hadv hadvo hq (by omega)))
end
theorem fill_set (N i : Nat) (h : i < N) : (List.replicate i dear ++ List.replicate (N - i) (0 : Int)).set i dear = List.replicate (i + 1) dear ++ List.replicate (N - (i + 1)) 0 := by
  refine List.ext_getElem (by simp; omega) fun j h1 h2 => ?_
  rw [List.getElem_set]
  simp only [List.getElem_append, List.length_replicate, List.getElem_replicate]
  repeat' split
  all_goals first | rfl | omega
set_option maxHeartbeats 1000000 in
theorem c_Cost {m : Mac} (hm : m.Ok) (told : Bool) {I O : List Int} (hI : I.length ≤ 60) (hO : O.length ≤ 60) : PF Try.prog 18 [m.av, .dsl 1 (nE I), .dsl 1 (nE O), bv told] (iv (costOf m told I O)) := fun H => tri_wf fun hw => tri_wordhoardref_Cost (by
  obtain ⟨n, hn⟩ : ∃ n, n = I.length + 1 := ⟨_, rfl⟩
  obtain ⟨k, hk⟩ : ∃ k, k = if told = true then O.length + 1 else 1 := ⟨_, rfl⟩
  have hk61 : k ≤ 61 ∧ 0 < k := by rw [hk]; split <;> omega
  have hlI := ivn (i := I.length) (by omega)
  have hlO := ivn (i := O.length) (by omega)
  rw [← hn] at hlI
  have hm1 := hm.1
  have hm2 := hm.2.1
  have hm3 := hm.2.2.1
  have hm4 := hm.2.2.2.1
  unfold S_wordhoardref_Cost Mac.av
  simp (disch := first | omega | simp) [hlI, hlO]
  generalize hM : AH.put _ _ _ = M
  have hMl : H.le M := by rw [← hM]; exact (by repeat (first | with_reducible assumption | with_reducible exact AH.le.refl _ | with_reducible apply AH.le.up | (with_reducible refine AH.le.put hw ?_ ?_; · first | omega | (simp only [up_nx, put_nx, kill_nx]; done) | (simp only [up_nx, put_nx, kill_nx]; omega)) | (with_reducible refine AH.le.kill hw ?_ ?_; · first | omega | (simp only [up_nx, put_nx, kill_nx]; done) | (simp only [up_nx, put_nx, kill_nx]; omega))))
  have hMn : M.nx = H.nx + 2 := by rw [← hM]; rfl
  have hMg : M.get H.nx = some (.box 25 m.cs) := by rw [← hM]; simp (disch := first | omega | simp)
  have hwM : WF M := by rw [← hM]; exact (hw.up 2).box (by simp only [up_nx]; omega) (by unfold Mac.cs; exact (by repeat (first | exact Cl.p _ | exact Cl.dsl _ _ | exact Cl.any | refine Cl.tup ?_ | refine Cl.agg ?_ | exact Clo.nil | refine Clo.cons ?_ ?_)))
  clear hM
  unfold Mac.cs iv at hMg
  refine cut_st (fun r : Nat => [iv (r : Int)]) (fun r H2 => M = H2 ∧ r = k) (fun kk hkk => ?_) ?_
  · cases told with
    | true =>
      simp (disch := first | omega | simp) [bv]
      exact hkk k _ _ _ (by rw [hk, if_pos rfl]; exact .refl (Nat.le_refl _)) ⟨rfl, rfl⟩
    | false =>
      simp (disch := first | omega | simp) [bv]
      exact hkk k _ _ _ (by rw [hk, if_neg (by decide)]; exact .refl (Nat.le_refl _)) ⟨rfl, rfl⟩
  rintro r _ _ ⟨rfl, rfl⟩
  unfold S_wordhoardref_Cost_K11
  obtain ⟨N, hN⟩ : ∃ N, N = m.states.toNat * n * r := ⟨_, rfl⟩
  have hNle : N ≤ 183000 * 61 := by rw [hN]; exact Nat.mul_le_mul (Nat.mul_le_mul (show m.states.toNat ≤ 3000 by omega) (show n ≤ 61 by omega)) hk61.1
  have hNp : 0 < N := by rw [hN]; exact Nat.mul_pos (Nat.mul_pos (by omega) (by omega)) hk61.2
  have hNw : IntKind.i64.wrap (IntKind.i64.wrap (m.states * (n : Int)) * (r : Int)) = (N : Int) := by
    have e : (N : Int) = m.states * n * r := by rw [hN, Int.natCast_mul, Int.natCast_mul, show ((m.states.toNat : Nat) : Int) = m.states by omega]
    have h1 : m.states * n ≤ 3000 * 61 := by
      calc m.states * n ≤ 3000 * n := Int.mul_le_mul_of_nonneg_right (by omega) (by omega)
        _ ≤ 3000 * 61 := by omega
    have h2 : 0 ≤ m.states * n := Int.mul_nonneg (by omega) (by omega)
    have w1 : IntKind.i64.wrap (m.states * (n : Int)) = m.states * n := by rw [IntKind.wrap_i64]; omega
    rw [w1, ← e, IntKind.wrap_i64]; omega
  simp (disch := first | omega | simp) [iv, hMg, hNw]
  have hml : maxLen = 9223372036854775807 := by decide
  refine ⟨by omega, by omega, ?_⟩
  generalize hM1e : AH.put _ _ _ = M1
  have hM1l : M.le M1 := by rw [← hM1e]; exact AH.le.put hwM (by omega) (AH.le.up (AH.le.refl _))
  have hM1n : M1.nx = M.nx + 8 := by rw [← hM1e]; rfl
  obtain ⟨R, hRe⟩ : ∃ R, R = M.nx + 6 := ⟨_, rfl⟩
  have hM1R : M1.get R = some (.row 3 1 (nE (List.replicate 0 dear ++ List.replicate (N - 0) 0))) := by
    rw [← hM1e, hRe, put_get]
    simp [nE, iv]
  clear hM1e
  rw [← hRe]
  refine loop_wf (fun i : Nat => [iv i]) (fun i H' => M.le H' ∧ M1.nx ≤ H'.nx ∧ i ≤ N ∧ H'.get R = some (.row 3 1 (nE (List.replicate i dear ++ List.replicate (N - i) 0)))) (fun i => N - i) 0 (.refl (Nat.le_refl _)) ⟨hM1l, Nat.le_refl _, Nat.zero_le _, hM1R⟩ ?_
  rintro i H1 hn1 hw1 ⟨hle, hnx, hi, hR⟩ kk hkk
  unfold S_wordhoardref_Cost_L10
  by_cases hiN : i < N
  · have hiN' : (i : Int) < (N : Int) := by omega
    have hiv := ivn (i := i) (by omega)
    have hge : (nE (List.replicate i dear ++ List.replicate (N - i) 0))[i]? = some [.p (.int .i64 0)] := nE_get (l := List.replicate i dear ++ List.replicate (N - i) 0) (x := 0) (by rw [List.getElem?_append_right (by simp), List.length_replicate, Nat.sub_self, List.getElem?_replicate, if_pos (by omega)])
    have hse := nE_set (List.replicate i dear ++ List.replicate (N - i) 0) i dear
    rw [fill_set N i hiN] at hse
    unfold iv dear at hse
    simp (disch := first | omega | simp) [iv, hR, hiN', hiv, hge]
    unfold dear at hge ⊢
    rw [hse]
    exact hkk (i + 1) _ _ _ (.refl (by simp only [put_nx, up_nx]; omega)) ⟨AH.le.put hwM (by omega) (AH.le.up hle), by simp only [put_nx, up_nx]; omega, hiN, put_get _ _⟩ (by omega)
  have hiN' : ¬ (i : Int) < (N : Int) := by omega
  have hiN2 : N = i := by omega
  subst hiN2
  have hge : (nE (List.replicate N dear))[0]? = some [.p (.int .i64 dear)] := nE_get (l := List.replicate N dear) (x := dear) (by rw [List.getElem?_replicate, if_pos hNp])
  have hse := nE_set (List.replicate N dear) 0 0
  unfold iv at hse
  simp (disch := first | omega | simp) [iv, hR, hiN', hge, hse]
  refine ⟨by omega, ?_⟩
  have htab := tab0 m hm.fit told I O (n := n) (k := r) (by omega) hk61.2 hN
  generalize hL0 : (List.replicate N dear).set 0 0 = L0 at htab
  have hL0l : L0.length = N := by rw [htab.len, hN]
  generalize hM2e : AH.put _ _ _ = M2
  have hM2l : M.le M2 := by rw [← hM2e]; exact AH.le.put hwM (by omega) (AH.le.up hle)
  have hM2n : M2.nx = H1.nx + 3 := by rw [← hM2e]; rfl
  have hM2R : M2.get R = some (.row 3 1 (nE L0)) := by rw [← hM2e]; exact put_get _ _
  clear hM2e
  -- rounds
  refine loop_wf (fun x : Bool × List Int => [bv x.1]) (fun x H' => M.le H' ∧ M2.nx ≤ H'.nx ∧ H'.get R = some (.row 3 1 (nE x.2)) ∧ Tab m told I O n r x.2 ∧ (x.1 = false → ∀ a ∈ m.arcs, ∀ i j, i < n → j < r → Stab told I O n r x.2 a i j)) (fun x => if x.1 = true then sumL x.2 + 1 else 0) (true, L0) (.refl (Nat.le_refl _)) ⟨hM2l, Nat.le_refl _, hM2R, htab, fun e => by cases e⟩ ?_
  rintro ⟨ag, Lo⟩ H2 hn2 hw2 ⟨hle2, hnx2, hR2, htab2, hst2⟩ kr hkr
  dsimp only at hR2 htab2 hst2 hkr ⊢
  have hLo : Lo.length = N := by rw [htab2.len, hN]
  unfold S_wordhoardref_Cost_L9
  cases ag with
  | true =>
    simp (disch := first | omega | simp) [bv]
    refine loop_wf (fun x : Bool × Nat × List Int => [bv x.1, iv (x.2.1 : Int)]) (fun x H' => M.le H' ∧ H2.nx ≤ H'.nx ∧ H'.get R = some (.row 3 1 (nE x.2.2)) ∧ x.2.1 ≤ m.arcs.length ∧ Rnd m told I O n r Lo x.1 x.2.2 x.2.1 0 0) (fun x => m.arcs.length - x.2.1) (false, 0, Lo) (.refl (Nat.le_refl _)) ⟨hle2, Nat.le_refl _, hR2, Nat.zero_le _, .start htab2⟩ ?_
    rintro ⟨ag, x, L⟩ H3 hn3 hw3 ⟨hle3, hnx3, hR3, hx3, hr3⟩ ka hka
    dsimp only at hR3 hx3 hr3 hka ⊢
    unfold S_wordhoardref_Cost_L6
    have hM3 := hle3 _ _ hMg
    by_cases hxl : x < m.arcs.length
    · obtain ⟨a, ha⟩ : ∃ a, m.arcs[x]? = some a := ⟨_, List.getElem?_eq_getElem hxl⟩
      have hag : ∀ h, m.arcs[x]'h = a := fun h => (List.getElem?_eq_some_iff.1 ha).2
      simp (disch := first | omega | simp) [iv, hM3, hxl, hag, Arc.cs]
      generalize hM4e : AH.put _ _ _ = M4
      have hM4l : M.le M4 := by rw [← hM4e]; exact AH.le.put hwM (by omega) (AH.le.put hwM (by omega) (AH.le.up hle3))
      have hM4n : M4.nx = H3.nx + 7 := by rw [← hM4e]; rfl
      obtain ⟨A, hAe⟩ : ∃ A, A = H3.nx + 5 := ⟨_, rfl⟩
      have hRA : R ≠ A := by omega
      have hM4A : M4.get A = some (.box 53 a.cs) := by rw [← hM4e, hAe, put_get]; rfl
      have hM4R : M4.get R = some (.row 3 1 (nE L)) := by rw [← hM4e, ← hAe, AH.get_put_ne hRA, AH.get_put_ne hRA]; exact hR3
      clear hM4e
      rw [← hAe]
      refine loop_wf (fun y : Bool × Nat × List Int => [bv y.1, iv (y.2.1 : Int)]) (fun y H' => M.le H' ∧ M4.nx ≤ H'.nx ∧ H'.get R = some (.row 3 1 (nE y.2.2)) ∧ H'.get A = some (.box 53 a.cs) ∧ y.2.1 ≤ n ∧ Rnd m told I O n r Lo y.1 y.2.2 x y.2.1 0) (fun y => n - y.2.1) (ag, 0, L) (.refl (Nat.le_refl _)) ⟨hM4l, Nat.le_refl _, hM4R, hM4A, Nat.zero_le _, hr3⟩ ?_
      rintro ⟨ag, i, L⟩ H5 hn5 hw5 ⟨hle5, hnx5, hR5, hA5, hi5, hr5⟩ ki hki
      dsimp only at hR5 hi5 hr5 hki ⊢
      unfold S_wordhoardref_Cost_L5
      by_cases hin : i < n
      · have hin' : (i : Int) < (n : Int) := by omega
        simp (disch := first | omega | simp) [iv, hin']
        refine loop_wf (fun y : Bool × Nat × List Int => [bv y.1, iv (y.2.1 : Int)]) (fun y H' => M.le H' ∧ H5.nx ≤ H'.nx ∧ H'.get R = some (.row 3 1 (nE y.2.2)) ∧ H'.get A = some (.box 53 a.cs) ∧ y.2.1 ≤ r ∧ Rnd m told I O n r Lo y.1 y.2.2 x i y.2.1) (fun y => r - y.2.1) (ag, 0, L) (.refl (Nat.le_refl _)) ⟨hle5, Nat.le_refl _, hR5, hA5, Nat.zero_le _, hr5⟩ ?_
        rintro ⟨ag2, j, L2⟩ H6 hn6 hw6 ⟨hle6, hnx6, hR6, hA6, hj6, hr6⟩ kj hkj
        dsimp only at hR6 hj6 hr6 hkj ⊢
        have hL2 : L2.length = N := by rw [hr6.tab.len, hN]
        by_cases hjr : j < r
        · have := cost_body (R := R) (A := A) (ag0 := ag) (ag := ag2) (k41 := ki) (k44 := kj) hm hn hk hI hO ha hin hjr hRA hR6 hA6 (by omega) hr6 (fun ag' L' H7 h1 h2 h3 h4 => hkj (ag', j + 1, L') _ _ _ (.refl (by omega)) ⟨fun id o ho => (by rw [h3 id (fun e => by subst e; rw [wf_none hwM (by omega)] at ho; cases ho)]; exact hle6 _ _ ho), by omega, h2, by rw [h3 A (Ne.symm hRA)]; exact hA6, hjr, h4⟩ (by dsimp only; omega))
          rw [hL2] at this
          exact this
        · have hjr' : ¬ (j : Int) < (r : Int) := by omega
          have hiv := ivn (i := i) (by omega)
          unfold S_wordhoardref_Cost_L4
          simp (disch := first | omega | simp) [iv, hjr', hiv]
          have hje : j = r := by omega
          subst hje
          exact hki (ag2, i + 1, L2) _ _ _ (.refl (by omega)) ⟨hle6, by omega, hR6, hA6, hin, hr6.row⟩ (by dsimp only; omega)
      · have hin' : ¬ (i : Int) < (n : Int) := by omega
        have hxv := ivn (i := x) (by omega)
        simp (disch := first | omega | simp) [iv, hin', hxv]
        have hie : i = n := by omega
        subst hie
        exact hka (ag, x + 1, L) _ _ _ (.refl (by omega)) ⟨hle5, by omega, hR5, hxl, hr5.arc⟩ (by dsimp only; omega)
    · simp (disch := first | omega | simp) [iv, hM3, hxl]
      have hxe : x = m.arcs.length := by omega
      subst hxe
      refine hkr (ag, L) _ _ _ (.refl (by omega)) ⟨hle3, by omega, hR3, hr3.tab, fun e => ?_⟩ ?_
      · dsimp only at e; subst e; exact hr3.done
      · dsimp only
        cases ag with
        | true => simp; exact hr3.less rfl
        | false => simp
  | false =>
    simp (disch := first | omega | simp) [bv]
    have hst := hst2 rfl
    refine loop_wf (fun x : Int × Nat => [iv x.1, iv (x.2 : Int)]) (fun x H' => M.le H' ∧ H2.nx ≤ H'.nx ∧ H'.get R = some (.row 3 1 (nE Lo)) ∧ x.2 ≤ m.fins.length ∧ LeastF m told I (wr told O) x.2 x.1) (fun x => m.fins.length - x.2) (dear, 0) (.refl (Nat.le_refl _)) ⟨hle2, Nat.le_refl _, hR2, Nat.zero_le _, .zero⟩ ?_
    rintro ⟨v, x⟩ H3 hn3 hw3 ⟨hle3, hnx3, hR3, hx3, hl3⟩ kf hkf
    dsimp only at hx3 hl3 hkf ⊢
    unfold S_wordhoardref_Cost_L8
    have hM3 := hle3 _ _ hMg
    by_cases hxl : x < m.fins.length
    · obtain ⟨f, hf⟩ : ∃ f, m.fins[x]? = some f := ⟨_, List.getElem?_eq_getElem hxl⟩
      have hfg : ∀ h, m.fins[x]'h = f := fun h => (List.getElem?_eq_some_iff.1 hf).2
      have hb := hm.2.2.2.2.2.1 f (List.mem_of_getElem? hf)
      obtain ⟨u, hu⟩ := htab2.at_ (s := f.st.toNat) (i := I.length) (j := r - 1) (by omega) (by omega) (by omega)
      have hul := (List.getElem?_eq_some_iff.1 hu).1
      have hue := nE_get hu
      unfold iv at hue
      have hix := ix_end hb.1 hb.2.1 hm2 (by omega) hk61.1 hk61.2 hn
      have hu0 := htab2.nonneg (by omega : f.st.toNat < m.states.toNat) (by omega : I.length < n) (by omega : r - 1 < r) hu
      have hdr : dear = 1152921504606846976 := rfl
      have hw : IntKind.i64.wrap (u + f.w) = u + f.w := by rw [IntKind.wrap_i64]; omega
      have hxv := ivn (i := x) (by omega)
      have hnext := hl3.next htab2 hm.fit hn hk hst hf hu
      have hRx : R ≠ H3.nx + 5 := by omega
      simp (disch := first | omega | simp) [iv, hM3, hxl]
      unfold S_wordhoardref_Cost_C7
      rw [← hN] at *
      have hcells : ∀ c : Int, LeastF m told I (wr told O) (x + 1) c → kf [.p (.int .i64 c), .p (.int .i64 ((x + 1 : Nat) : Int))] (((H3.up 7).put (H3.nx + 5) (AO.box 56 [.p (.int .i64 0), .p (.int .i64 0)])).put (H3.nx + 5) (AO.box 56 [.p (.int .i64 f.st), .p (.int .i64 f.w)])) := fun c hc => hkf (c, x + 1) _ _ _ (.refl (by simp only [put_nx, up_nx]; omega)) ⟨AH.le.put hwM (by omega) (AH.le.put hwM (by omega) (AH.le.up hle3)), by simp only [put_nx, up_nx]; omega, by rw [AH.get_put_ne hRx, AH.get_put_ne hRx]; exact hR3, hxl, hc⟩ (by dsimp only; omega)
      by_cases hud : u < 1152921504606846976
      · by_cases huv : u + f.w < v
        · rw [if_pos ⟨hud, huv⟩] at hnext
          simp (disch := first | omega | simp) [iv, hM3, hfg, Fin_.cs, hix, AH.get_put_ne hRx, hR3, hue, hw, hxv, put_get, hud, huv]
          refine ⟨hxl, by omega, ?_⟩
          exact hcells _ hnext
        · rw [if_neg (fun h => huv h.2)] at hnext
          simp (disch := first | omega | simp) [iv, hM3, hfg, Fin_.cs, hix, AH.get_put_ne hRx, hR3, hue, hw, hxv, put_get, hud, huv]
          refine ⟨hxl, by omega, ?_⟩
          exact hcells _ hnext
      · rw [if_neg (fun h => hud h.1)] at hnext
        simp (disch := first | omega | simp) [iv, hM3, hfg, Fin_.cs, hix, AH.get_put_ne hRx, hR3, hue, hxv, put_get, hud]
        refine ⟨hxl, by omega, ?_⟩
        exact hcells _ hnext
    · have hxe : x = m.fins.length := by omega
      subst hxe
      simp (disch := first | omega | simp) [iv, hM3]
      have hcost := leastOf_eq hl3.all
      exact rt_one hw (hMl.trans hle3) (by repeat (first | exact Cl.p _ | exact Cl.dsl _ _ | exact Cl.any | refine Cl.tup ?_ | refine Cl.agg ?_ | exact Clo.nil | refine Clo.cons ?_ ?_)) ⟨rfl, by rw [costOf, hcost]⟩)
end Go.Proofs.Ytgkkilbeingleaa

/- What is wrong with a machine, with texts; few, light, same. (printed by gen_mc6.py of in/XMc6.in) -/
namespace Go.Proofs.Ytgkkilbeingleaa
open Go.RowKit Go.Maps
/-- which states are ends of a list -/
def hadL (l : List Fin_) (n : Nat) : List (List AV) := (List.range n).map fun (s : Nat) => [bv (l.any fun f => decide (f.st = (s : Int)))]
@[simp] theorem hadL_len (l : List Fin_) (n : Nat) : (hadL l n).length = n := by simp [hadL]
theorem hadL_get {l : List Fin_} {n i : Nat} (h : i < n) : (hadL l n)[i]? = some [bv (l.any fun f => decide (f.st = (i : Int)))] := by simp [hadL, h]
theorem hadL_nil (n : Nat) : hadL [] n = List.replicate n [bv false] := by
  refine List.ext_getElem (by simp [hadL]) fun i h1 h2 => ?_
  simp [hadL]
theorem hadL_set {l : List Fin_} {n : Nat} {f : Fin_} (h0 : 0 ≤ f.st) : (hadL l n).set f.st.toNat [bv true] = hadL (l ++ [f]) n := by
  refine List.ext_getElem (by simp [hadL]) fun i h1 h2 => ?_
  rw [List.getElem_set]
  simp only [hadL, List.getElem_map, List.getElem_range]
  by_cases e : f.st.toNat = i
  · have : f.st = (i : Int) := by omega
    simp [this]
  · have : ¬ f.st = (i : Int) := by omega
    simp [e, this]
set_option maxHeartbeats 2000000 in
theorem c_CheckR (m : Mac) : PF Try.prog 9 [m.av] (iv m.chk) := fun H => tri_wf fun hw => tri_wordhoardref_CheckMachine (by
  have hml : maxLen = 9223372036854775807 := by decide
  unfold S_wordhoardref_CheckMachine Mac.av
  unfold Mac.cs
  by_cases h1 : m.states < 1
  · simp (disch := first | omega | simp) [iv, h1]
    exact rt_one hw (by repeat (first | with_reducible assumption | with_reducible exact AH.le.refl _ | with_reducible apply AH.le.up | (with_reducible refine AH.le.put hw ?_ ?_; · first | omega | (simp only [up_nx, put_nx, kill_nx]; done) | (simp only [up_nx, put_nx, kill_nx]; omega)) | (with_reducible refine AH.le.kill hw ?_ ?_; · first | omega | (simp only [up_nx, put_nx, kill_nx]; done) | (simp only [up_nx, put_nx, kill_nx]; omega)))) (by repeat (first | exact Cl.p _ | exact Cl.dsl _ _ | exact Cl.any | refine Cl.tup ?_ | refine Cl.agg ?_ | exact Clo.nil | refine Clo.cons ?_ ?_)) ⟨rfl, by rw [chk7 (.inl h1)]⟩
  by_cases h2 : 3000 < m.states
  · simp (disch := first | omega | simp) [iv, h1, h2]
    exact rt_one hw (by repeat (first | with_reducible assumption | with_reducible exact AH.le.refl _ | with_reducible apply AH.le.up | (with_reducible refine AH.le.put hw ?_ ?_; · first | omega | (simp only [up_nx, put_nx, kill_nx]; done) | (simp only [up_nx, put_nx, kill_nx]; omega)) | (with_reducible refine AH.le.kill hw ?_ ?_; · first | omega | (simp only [up_nx, put_nx, kill_nx]; done) | (simp only [up_nx, put_nx, kill_nx]; omega)))) (by repeat (first | exact Cl.p _ | exact Cl.dsl _ _ | exact Cl.any | refine Cl.tup ?_ | refine Cl.agg ?_ | exact Clo.nil | refine Clo.cons ?_ ?_)) ⟨rfl, by rw [chk7 (.inr (.inl h2))]⟩
  by_cases h3 : 20000 < (m.arcs.length : Int)
  · simp (disch := first | omega | simp) [iv, h1, h2, h3]
    exact rt_one hw (by repeat (first | with_reducible assumption | with_reducible exact AH.le.refl _ | with_reducible apply AH.le.up | (with_reducible refine AH.le.put hw ?_ ?_; · first | omega | (simp only [up_nx, put_nx, kill_nx]; done) | (simp only [up_nx, put_nx, kill_nx]; omega)) | (with_reducible refine AH.le.kill hw ?_ ?_; · first | omega | (simp only [up_nx, put_nx, kill_nx]; done) | (simp only [up_nx, put_nx, kill_nx]; omega)))) (by repeat (first | exact Cl.p _ | exact Cl.dsl _ _ | exact Cl.any | refine Cl.tup ?_ | refine Cl.agg ?_ | exact Clo.nil | refine Clo.cons ?_ ?_)) ⟨rfl, by rw [chk7 (.inr (.inr (.inl h3)))]⟩
  by_cases h4 : m.states < (m.fins.length : Int)
  · simp (disch := first | omega | simp) [iv, h1, h2, h3, h4]
    exact rt_one hw (by repeat (first | with_reducible assumption | with_reducible exact AH.le.refl _ | with_reducible apply AH.le.up | (with_reducible refine AH.le.put hw ?_ ?_; · first | omega | (simp only [up_nx, put_nx, kill_nx]; done) | (simp only [up_nx, put_nx, kill_nx]; omega)) | (with_reducible refine AH.le.kill hw ?_ ?_; · first | omega | (simp only [up_nx, put_nx, kill_nx]; done) | (simp only [up_nx, put_nx, kill_nx]; omega)))) (by repeat (first | exact Cl.p _ | exact Cl.dsl _ _ | exact Cl.any | refine Cl.tup ?_ | refine Cl.agg ?_ | exact Clo.nil | refine Clo.cons ?_ ?_)) ⟨rfl, by rw [chk7 (.inr (.inr (.inr h4)))]⟩
  have hn : ¬ (m.states < 1 ∨ 3000 < m.states ∨ 20000 < (m.arcs.length : Int) ∨ m.states < (m.fins.length : Int)) := by omega
  simp (disch := first | omega | simp) [iv, h1, h2, h3, h4]
  generalize hM : AH.put _ _ _ = M
  have hMl : H.le M := by rw [← hM]; exact (by repeat (first | with_reducible assumption | with_reducible exact AH.le.refl _ | with_reducible apply AH.le.up | (with_reducible refine AH.le.put hw ?_ ?_; · first | omega | (simp only [up_nx, put_nx, kill_nx]; done) | (simp only [up_nx, put_nx, kill_nx]; omega)) | (with_reducible refine AH.le.kill hw ?_ ?_; · first | omega | (simp only [up_nx, put_nx, kill_nx]; done) | (simp only [up_nx, put_nx, kill_nx]; omega))))
  have hMn : M.nx = H.nx + 2 := by rw [← hM]; rfl
  have hMg : M.get H.nx = some (.box 25 [.p (.int .i64 m.states), .dsl 5 (m.arcs.map Arc.cs), .dsl 2 (m.fins.map Fin_.cs)]) := by rw [← hM]; simp (disch := first | omega | simp)
  have hwM : WF M := by rw [← hM]; exact (hw.up 2).box (by simp only [up_nx]; omega) (by repeat (first | exact Cl.p _ | exact Cl.dsl _ _ | exact Cl.any | refine Cl.tup ?_ | refine Cl.agg ?_ | exact Clo.nil | refine Clo.cons ?_ ?_))
  clear hM
  refine loop_wf (fun i : Nat => [iv i]) (fun i H' => M.le H' ∧ M.nx ≤ H'.nx ∧ i ≤ m.arcs.length ∧ m.arcs.all (arcOk m) = (m.arcs.drop i).all (arcOk m)) (fun i => m.arcs.length - i) 0 (.refl (Nat.le_refl _)) ⟨.refl _, Nat.le_refl _, Nat.zero_le _, by rw [List.drop_zero]⟩ ?_
  rintro i H1 hn1 hw1 ⟨hle, hnx, hi, hc⟩ k hk
  unfold S_wordhoardref_CheckMachine_L5
  have hg1 := hle _ _ hMg
  have hle2 := hMl.trans hle
  by_cases hil : i < m.arcs.length
  · obtain ⟨x, hx⟩ : ∃ x, m.arcs[i]? = some x := ⟨_, List.getElem?_eq_getElem hil⟩
    have hxg : ∀ h, m.arcs[i]'h = x := fun h => (List.getElem?_eq_some_iff.1 hx).2
    have hiv := ivn (i := i) (by omega)
    rw [all_at hx] at hc
    simp (disch := first | omega | simp) [iv, hil, hg1]
    unfold S_wordhoardref_CheckMachine_C1
    have hbad : arcOk m x = false → ∀ M', M.le M' → Rt Try.prog H.nx (.p (.int .i64 3)) (fun r H' => H' = H ∧ r = iv m.chk) M' := fun hb M' hl => rt_one hw (hMl.trans hl) (by repeat (first | exact Cl.p _ | exact Cl.dsl _ _ | exact Cl.any | refine Cl.tup ?_ | refine Cl.agg ?_ | exact Clo.nil | refine Clo.cons ?_ ?_)) ⟨rfl, by rw [chk3 hn (.inl (by rw [hc, hb]; rfl))]; rfl⟩
    have hM4l : ∀ z1 z2, M.le (((H1.up 7).put (H1.nx + 5) z1).put (H1.nx + 5) z2) := fun z1 z2 => AH.le.put hwM (by omega) (AH.le.put hwM (by omega) (AH.le.up hle))
    by_cases q0 : x.fr < 0
    · simp (disch := first | omega | simp) [iv, hil, hxg, hg1, Arc.cs, q0]
      exact hbad (by cases hz : arcOk m x with | false => rfl | true => simp only [arcOk, okS, okY, okC, Bool.and_eq_true, decide_eq_true_eq] at hz; omega) _ (hM4l _ _)
    by_cases q1 : m.states ≤ x.fr
    · simp (disch := first | omega | simp) [iv, hil, hxg, hg1, Arc.cs, put_get_ne, q0, q1]
      exact hbad (by cases hz : arcOk m x with | false => rfl | true => simp only [arcOk, okS, okY, okC, Bool.and_eq_true, decide_eq_true_eq] at hz; omega) _ (hM4l _ _)
    by_cases q2 : x.to < 0
    · simp (disch := first | omega | simp) [iv, hil, hxg, hg1, Arc.cs, put_get_ne, q0, q1, q2]
      exact hbad (by cases hz : arcOk m x with | false => rfl | true => simp only [arcOk, okS, okY, okC, Bool.and_eq_true, decide_eq_true_eq] at hz; omega) _ (hM4l _ _)
    by_cases q3 : m.states ≤ x.to
    · simp (disch := first | omega | simp) [iv, hil, hxg, hg1, Arc.cs, put_get_ne, q0, q1, q2, q3]
      exact hbad (by cases hz : arcOk m x with | false => rfl | true => simp only [arcOk, okS, okY, okC, Bool.and_eq_true, decide_eq_true_eq] at hz; omega) _ (hM4l _ _)
    by_cases q4 : x.inn < 0
    · simp (disch := first | omega | simp) [iv, hil, hxg, hg1, Arc.cs, put_get_ne, q0, q1, q2, q3, q4]
      exact hbad (by cases hz : arcOk m x with | false => rfl | true => simp only [arcOk, okS, okY, okC, Bool.and_eq_true, decide_eq_true_eq] at hz; omega) _ (hM4l _ _)
    by_cases q5 : 60 < x.inn
    · simp (disch := first | omega | simp) [iv, hil, hxg, hg1, Arc.cs, put_get_ne, q0, q1, q2, q3, q4, q5]
      exact hbad (by cases hz : arcOk m x with | false => rfl | true => simp only [arcOk, okS, okY, okC, Bool.and_eq_true, decide_eq_true_eq] at hz; omega) _ (hM4l _ _)
    by_cases q6 : x.out < 0
    · simp (disch := first | omega | simp) [iv, hil, hxg, hg1, Arc.cs, put_get_ne, q0, q1, q2, q3, q4, q5, q6]
      exact hbad (by cases hz : arcOk m x with | false => rfl | true => simp only [arcOk, okS, okY, okC, Bool.and_eq_true, decide_eq_true_eq] at hz; omega) _ (hM4l _ _)
    by_cases q7 : 60 < x.out
    · simp (disch := first | omega | simp) [iv, hil, hxg, hg1, Arc.cs, put_get_ne, q0, q1, q2, q3, q4, q5, q6, q7]
      exact hbad (by cases hz : arcOk m x with | false => rfl | true => simp only [arcOk, okS, okY, okC, Bool.and_eq_true, decide_eq_true_eq] at hz; omega) _ (hM4l _ _)
    by_cases q8 : x.w < 0
    · simp (disch := first | omega | simp) [iv, hil, hxg, hg1, Arc.cs, put_get_ne, q0, q1, q2, q3, q4, q5, q6, q7, q8]
      exact hbad (by cases hz : arcOk m x with | false => rfl | true => simp only [arcOk, okS, okY, okC, Bool.and_eq_true, decide_eq_true_eq] at hz; omega) _ (hM4l _ _)
    by_cases q9 : 1000000 < x.w
    · simp (disch := first | omega | simp) [iv, hil, hxg, hg1, Arc.cs, put_get_ne, q0, q1, q2, q3, q4, q5, q6, q7, q8, q9]
      exact hbad (by cases hz : arcOk m x with | false => rfl | true => simp only [arcOk, okS, okY, okC, Bool.and_eq_true, decide_eq_true_eq] at hz; omega) _ (hM4l _ _)
    simp (disch := first | omega | simp) [iv, hil, hxg, hg1, Arc.cs, put_get_ne, q0, q1, q2, q3, q4, q5, q6, q7, q8, q9, hiv]
    have qa : arcOk m x = true := by simp only [arcOk, okS, okY, okC, Bool.and_eq_true, decide_eq_true_eq]; omega
    rw [qa, Bool.true_and] at hc
    exact hk (i + 1) _ _ _ (.refl (by first | omega | (simp only [up_nx, put_nx]; done) | (simp only [up_nx, put_nx]; omega))) ⟨hM4l _ _, (by first | omega | (simp only [up_nx, put_nx]; done) | (simp only [up_nx, put_nx]; omega)), hil, hc⟩ (by omega)
  have hall : m.arcs.all (arcOk m) = true := by rw [hc, List.drop_eq_nil_iff.2 (by omega)]; rfl
  simp (disch := first | omega | simp) [iv, hil, hg1]
  refine loop_wf (fun i : Nat => [iv i]) (fun i H' => M.le H' ∧ H1.nx ≤ H'.nx ∧ i ≤ m.fins.length ∧ m.fins.all (finOk m) = (m.fins.drop i).all (finOk m)) (fun i => m.fins.length - i) 0 (.refl (Nat.le_refl _)) ⟨hle, Nat.le_refl _, Nat.zero_le _, by rw [List.drop_zero]⟩ ?_
  rintro j H2 hn2 hw2 ⟨fle, fnx, hj, fc⟩ k2 hk2
  unfold S_wordhoardref_CheckMachine_L4
  have fg1 := fle _ _ hMg
  have fle2 := hMl.trans fle
  by_cases hjl : j < m.fins.length
  · obtain ⟨x, hx⟩ : ∃ x, m.fins[j]? = some x := ⟨_, List.getElem?_eq_getElem hjl⟩
    have hxg : ∀ h, m.fins[j]'h = x := fun h => (List.getElem?_eq_some_iff.1 hx).2
    have hiv := ivn (i := j) (by omega)
    rw [all_at hx] at fc
    simp (disch := first | omega | simp) [iv, hjl, fg1]
    unfold S_wordhoardref_CheckMachine_C2
    have hbad : finOk m x = false → ∀ M', M.le M' → Rt Try.prog H.nx (.p (.int .i64 3)) (fun r H' => H' = H ∧ r = iv m.chk) M' := fun hb M' hl => rt_one hw (hMl.trans hl) (by repeat (first | exact Cl.p _ | exact Cl.dsl _ _ | exact Cl.any | refine Cl.tup ?_ | refine Cl.agg ?_ | exact Clo.nil | refine Clo.cons ?_ ?_)) ⟨rfl, by rw [chk3 hn (.inr (by rw [fc, hb]; rfl))]; rfl⟩
    have hM4l : ∀ z1 z2, M.le (((H2.up 7).put (H2.nx + 5) z1).put (H2.nx + 5) z2) := fun z1 z2 => AH.le.put hwM (by omega) (AH.le.put hwM (by omega) (AH.le.up fle))
    by_cases q0 : x.st < 0
    · simp (disch := first | omega | simp) [iv, hjl, hxg, fg1, Fin_.cs, q0]
      exact hbad (by cases hz : finOk m x with | false => rfl | true => simp only [finOk, okS, okC, Bool.and_eq_true, decide_eq_true_eq] at hz; omega) _ (hM4l _ _)
    by_cases q1 : m.states ≤ x.st
    · simp (disch := first | omega | simp) [iv, hjl, hxg, fg1, Fin_.cs, put_get_ne, q0, q1]
      exact hbad (by cases hz : finOk m x with | false => rfl | true => simp only [finOk, okS, okC, Bool.and_eq_true, decide_eq_true_eq] at hz; omega) _ (hM4l _ _)
    by_cases q2 : x.w < 0
    · simp (disch := first | omega | simp) [iv, hjl, hxg, fg1, Fin_.cs, put_get_ne, q0, q1, q2]
      exact hbad (by cases hz : finOk m x with | false => rfl | true => simp only [finOk, okS, okC, Bool.and_eq_true, decide_eq_true_eq] at hz; omega) _ (hM4l _ _)
    by_cases q3 : 1000000 < x.w
    · simp (disch := first | omega | simp) [iv, hjl, hxg, fg1, Fin_.cs, put_get_ne, q0, q1, q2, q3]
      exact hbad (by cases hz : finOk m x with | false => rfl | true => simp only [finOk, okS, okC, Bool.and_eq_true, decide_eq_true_eq] at hz; omega) _ (hM4l _ _)
    simp (disch := first | omega | simp) [iv, hjl, hxg, fg1, Fin_.cs, put_get_ne, q0, q1, q2, q3, hiv]
    have qa : finOk m x = true := by simp only [finOk, okS, okC, Bool.and_eq_true, decide_eq_true_eq]; omega
    rw [qa, Bool.true_and] at fc
    exact hk2 (j + 1) _ _ _ (.refl (by first | omega | (simp only [up_nx, put_nx]; done) | (simp only [up_nx, put_nx]; omega))) ⟨hM4l _ _, (by first | omega | (simp only [up_nx, put_nx]; done) | (simp only [up_nx, put_nx]; omega)), hjl, fc⟩ (by omega)
  have hfall : m.fins.all (finOk m) = true := by rw [fc, List.drop_eq_nil_iff.2 (by omega)]; rfl
  obtain ⟨N, hN⟩ : ∃ N : Nat, m.states = (N : Int) := ⟨m.states.toNat, by omega⟩
  rw [hN] at fg1
  simp (disch := first | omega | simp) [iv, hjl, fg1]
  refine ⟨by omega, by omega, ?_⟩
  obtain ⟨R, hR⟩ : ∃ R, R = H2.nx + 2 := ⟨_, rfl⟩
  rw [← hR]
  generalize hM5e : AH.put _ _ _ = M5
  have hM5l : M.le M5 := by rw [← hM5e]; exact AH.le.put hwM (by omega) (AH.le.up fle)
  have hM5n : M5.nx = H2.nx + 4 := by rw [← hM5e]; rfl
  have hM5R : M5.get R = some (.row 4 1 (hadL (m.fins.take 0) N)) := by rw [← hM5e, put_get, List.take_zero, hadL_nil]; rfl
  clear hM5e
  refine loop_wf (fun i : Nat => [iv i]) (fun i H' => M.le H' ∧ M5.nx ≤ H'.nx ∧ i ≤ m.fins.length ∧ H'.get R = some (.row 4 1 (hadL (m.fins.take i) N)) ∧ ((m.fins.take i).map Fin_.st).Nodup) (fun i => m.fins.length - i) 0 (.refl (Nat.le_refl _)) ⟨hM5l, Nat.le_refl _, Nat.zero_le _, hM5R, by simp⟩ ?_
  rintro i H3 hn3 hw3 ⟨gle, gnx, gi, gR, gnd⟩ k3 hk3
  unfold S_wordhoardref_CheckMachine_L3
  have gg1 := gle _ _ hMg
  by_cases hil3 : i < m.fins.length
  · obtain ⟨f, hf⟩ : ∃ f, m.fins[i]? = some f := ⟨_, List.getElem?_eq_getElem hil3⟩
    have hfg : ∀ h, m.fins[i]'h = f := fun h => (List.getElem?_eq_some_iff.1 hf).2
    have hiv := ivn (i := i) (by omega)
    have hfo := List.all_eq_true.1 hfall f (List.mem_of_getElem? hf)
    simp only [finOk, okS, okC, Bool.and_eq_true, decide_eq_true_eq] at hfo
    obtain ⟨s, hs⟩ : ∃ s : Nat, f.st = (s : Int) := ⟨f.st.toNat, by omega⟩
    have hsN : s < N := by omega
    have hge := hadL_get (l := m.fins.take i) hsN
    have hse := hadL_set (l := m.fins.take i) (n := N) (f := f) (by omega)
    rw [show f.st.toNat = s by omega] at hse
    have htk : m.fins.take (i + 1) = m.fins.take i ++ [f] := by rw [List.take_add_one, hf]; rfl
    by_cases hh : ((m.fins.take i).any fun g => decide (g.st = (s : Int))) = true
    · rw [hh] at hge
      unfold bv at hge
      simp (disch := first | omega | simp) [iv, hil3, hfg, gg1, Fin_.cs, hs, gR, hge, hsN]
      refine rt_one hw (hMl.trans gle) (by repeat (first | exact Cl.p _ | exact Cl.dsl _ _ | exact Cl.any | refine Cl.tup ?_ | refine Cl.agg ?_ | exact Clo.nil | refine Clo.cons ?_ ?_)) ⟨rfl, ?_⟩
      rw [chk6 hn hall hfall]
      intro hnd
      obtain ⟨g, hg, hgs⟩ := List.any_eq_true.1 hh
      have h2 : ((m.fins.take (i + 1)).map Fin_.st).Nodup := by rw [List.map_take]; exact hnd.sublist (List.take_sublist _ _)
      rw [htk, List.map_append, List.nodup_append] at h2
      exact h2.2.2 g.st (List.mem_map_of_mem hg) f.st (by simp) (by rw [hs]; simpa using hgs)
    · have hh' : ((m.fins.take i).any fun g => decide (g.st = (s : Int))) = false := by simpa using hh
      rw [hh'] at hge
      unfold bv at hge hse
      simp (disch := first | omega | simp) [iv, hil3, hfg, gg1, Fin_.cs, hs, gR, hge, hsN, hiv]
      rw [hse]
      refine hk3 (i + 1) _ _ _ (.refl (by first | omega | (simp only [up_nx, put_nx]; done) | (simp only [up_nx, put_nx]; omega))) ⟨AH.le.put hwM (by omega) (AH.le.up gle), (by first | omega | (simp only [up_nx, put_nx]; done) | (simp only [up_nx, put_nx]; omega)), hil3, by rw [htk]; exact put_get _ _, ?_⟩ (by omega)
      rw [htk, List.map_append, List.nodup_append]
      refine ⟨gnd, by simp, fun a ha b hb e => ?_⟩
      simp at hb
      obtain ⟨g, hg, rfl⟩ := List.mem_map.1 ha
      have := List.any_eq_false.1 hh' g hg
      rw [e, hb, hs] at this
      simp at this
  · have hie : m.fins.take i = m.fins := List.take_of_length_le (by omega)
    rw [hie] at gnd
    simp (disch := first | omega | simp) [iv, hil3, gg1]
    exact rt_one hw (hMl.trans gle) (by repeat (first | exact Cl.p _ | exact Cl.dsl _ _ | exact Cl.any | refine Cl.tup ?_ | refine Cl.agg ?_ | exact Clo.nil | refine Clo.cons ?_ ?_)) ⟨rfl, by rw [chk0 hn hall hfall gnd]⟩)
end Go.Proofs.Ytgkkilbeingleaa

/- What is wrong with texts; few, light, same, one; parted. -/
namespace Go.Proofs.Ytgkkilbeingleaa
open Go.RowKit Go.Maps
def Sym (l : List Int) : Prop := l.length ≤ 60 ∧ ∀ x ∈ l, 1 ≤ x ∧ x ≤ 60
def symB (l : List Int) : Bool := l.all fun x => decide (1 ≤ x) && decide (x ≤ 60)
def symE (l : List Int) : Int := if 60 < l.length then 2 else if symB l = true then 0 else 3
theorem symE_ok {l : List Int} : symE l = 0 ↔ Sym l := by
  unfold symE Sym symB
  constructor
  · intro h
    split at h
    · cases h
    · split at h
      · rename_i h1 h2
        refine ⟨by omega, fun x hx => ?_⟩
        have := List.all_eq_true.1 h2 x hx
        simpa using this
      · cases h
  · rintro ⟨h1, h2⟩
    rw [if_neg (by omega), if_pos (List.all_eq_true.2 fun x hx => by simpa using h2 x hx)]
theorem c_Symbols (l : List Int) : PF Try.prog 28 [.dsl 1 (nE l)] (iv (symE l)) := fun H => tri_wf fun hw => tri_len 0 rfl fun hl _ => tri_wordhoardref_SymbolsFault (by
  have hml : maxLen = 9223372036854775807 := by decide
  rw [nE_len] at hl
  unfold S_wordhoardref_SymbolsFault
  by_cases h1 : 60 < l.length
  · have h1' : (60 : Int) < (l.length : Int) := by omega
    simp (disch := first | omega | simp) [h1']
    exact rt_refl ⟨rfl, by unfold symE; rw [if_pos h1]; rfl⟩ (Nat.le_refl _)
  have h1' : ¬ (60 : Int) < (l.length : Int) := by omega
  simp (disch := first | omega | simp) [h1']
  refine loop_st (fun i : Nat => [iv i]) (fun i H' => H = H' ∧ i ≤ l.length ∧ symB l = symB (l.drop i)) (fun i => l.length - i) 0 (.refl (Nat.le_refl _)) ⟨rfl, Nat.zero_le _, by rw [List.drop_zero]⟩ ?_
  rintro i _ _ ⟨rfl, hi, hc⟩ k hk
  unfold S_wordhoardref_SymbolsFault_L1
  by_cases hil : i < l.length
  · obtain ⟨x, hx⟩ : ∃ x, l[i]? = some x := ⟨_, List.getElem?_eq_getElem hil⟩
    have hil' : (i : Int) < (l.length : Int) := by omega
    have hxe := nE_get hx
    have hxg : ∀ h, (nE l)[i]'h = [iv x] := fun h => (List.getElem?_eq_some_iff.1 hxe).2
    have hiv := ivn (i := i) (by omega)
    unfold symB at hc
    rw [all_at hx] at hc
    unfold iv at hxe hxg
    by_cases q1 : x < 1
    · simp (disch := first | omega | simp) [iv, hil', hxe, q1]
      refine rt_refl ⟨rfl, ?_⟩ (Nat.le_refl _)
      have : ¬ 1 ≤ x := by omega
      unfold symE symB; rw [if_neg h1, hc]; simp [this]
    by_cases q2 : 60 < x
    · simp (disch := first | omega | simp) [iv, hil', hxe, q1, q2]
      refine rt_refl ⟨rfl, ?_⟩ (Nat.le_refl _)
      have : ¬ x ≤ 60 := by omega
      unfold symE symB; rw [if_neg h1, hc]; simp [this]
    simp (disch := first | omega | simp) [iv, hil', hxe, q1, q2, hiv]
    have e : (decide (1 ≤ x) && decide (x ≤ 60)) = true := by simp; omega
    rw [e, Bool.true_and] at hc
    exact hk (i + 1) _ _ _ (.refl (Nat.le_refl _)) ⟨rfl, hil, hc⟩ (by omega)
  · have hil' : ¬ (i : Int) < (l.length : Int) := by omega
    simp (disch := first | omega | simp) [iv, hil']
    refine rt_refl ⟨rfl, ?_⟩ (Nat.le_refl _)
    unfold symE; rw [if_neg h1, hc, List.drop_eq_nil_iff.2 (by omega)]; rfl)
def Mac.fewB (m : Mac) : Bool := decide (m.states ≤ 40) && (decide (m.arcs.length ≤ 120) && decide (m.fins.length ≤ 40))
theorem few_iff {m : Mac} : m.fewB = true ↔ m.Few := by simp [Mac.fewB, Mac.Few]
theorem c_few (m : Mac) : PF Try.prog 10 [m.av] (bv m.fewB) := fun H => tri_wf fun hw => tri_wordhoardlaw_few (by
  unfold S_wordhoardlaw_few Mac.av
  unfold Mac.cs
  by_cases h1 : m.states ≤ 40
  · by_cases h2 : m.arcs.length ≤ 120
    · have h2' : (m.arcs.length : Int) ≤ 120 := by omega
      by_cases h3 : m.fins.length ≤ 40
      · have h3' : (m.fins.length : Int) ≤ 40 := by omega
        simp (disch := first | omega | simp) [iv, h1, h2', h3']
        exact rt_one hw (by repeat (first | with_reducible assumption | with_reducible exact AH.le.refl _ | with_reducible apply AH.le.up | (with_reducible refine AH.le.put hw ?_ ?_; · first | omega | (simp only [up_nx, put_nx, kill_nx]; done) | (simp only [up_nx, put_nx, kill_nx]; omega)) | (with_reducible refine AH.le.kill hw ?_ ?_; · first | omega | (simp only [up_nx, put_nx, kill_nx]; done) | (simp only [up_nx, put_nx, kill_nx]; omega)))) (by repeat (first | exact Cl.p _ | exact Cl.dsl _ _ | exact Cl.any | refine Cl.tup ?_ | refine Cl.agg ?_ | exact Clo.nil | refine Clo.cons ?_ ?_)) ⟨rfl, by simp [Mac.fewB, bv, h1, h2, h3]⟩
      · have h3' : ¬ (m.fins.length : Int) ≤ 40 := by omega
        simp (disch := first | omega | simp) [iv, h1, h2', h3']
        exact rt_one hw (by repeat (first | with_reducible assumption | with_reducible exact AH.le.refl _ | with_reducible apply AH.le.up | (with_reducible refine AH.le.put hw ?_ ?_; · first | omega | (simp only [up_nx, put_nx, kill_nx]; done) | (simp only [up_nx, put_nx, kill_nx]; omega)) | (with_reducible refine AH.le.kill hw ?_ ?_; · first | omega | (simp only [up_nx, put_nx, kill_nx]; done) | (simp only [up_nx, put_nx, kill_nx]; omega)))) (by repeat (first | exact Cl.p _ | exact Cl.dsl _ _ | exact Cl.any | refine Cl.tup ?_ | refine Cl.agg ?_ | exact Clo.nil | refine Clo.cons ?_ ?_)) ⟨rfl, by simp [Mac.fewB, bv, h1, h2, h3]⟩
    · have h2' : ¬ (m.arcs.length : Int) ≤ 120 := by omega
      simp (disch := first | omega | simp) [iv, h1, h2']
      exact rt_one hw (by repeat (first | with_reducible assumption | with_reducible exact AH.le.refl _ | with_reducible apply AH.le.up | (with_reducible refine AH.le.put hw ?_ ?_; · first | omega | (simp only [up_nx, put_nx, kill_nx]; done) | (simp only [up_nx, put_nx, kill_nx]; omega)) | (with_reducible refine AH.le.kill hw ?_ ?_; · first | omega | (simp only [up_nx, put_nx, kill_nx]; done) | (simp only [up_nx, put_nx, kill_nx]; omega)))) (by repeat (first | exact Cl.p _ | exact Cl.dsl _ _ | exact Cl.any | refine Cl.tup ?_ | refine Cl.agg ?_ | exact Clo.nil | refine Clo.cons ?_ ?_)) ⟨rfl, by simp [Mac.fewB, bv, h1, h2]⟩
  · simp (disch := first | omega | simp) [iv, h1]
    exact rt_one hw (by repeat (first | with_reducible assumption | with_reducible exact AH.le.refl _ | with_reducible apply AH.le.up | (with_reducible refine AH.le.put hw ?_ ?_; · first | omega | (simp only [up_nx, put_nx, kill_nx]; done) | (simp only [up_nx, put_nx, kill_nx]; omega)) | (with_reducible refine AH.le.kill hw ?_ ?_; · first | omega | (simp only [up_nx, put_nx, kill_nx]; done) | (simp only [up_nx, put_nx, kill_nx]; omega)))) (by repeat (first | exact Cl.p _ | exact Cl.dsl _ _ | exact Cl.any | refine Cl.tup ?_ | refine Cl.agg ?_ | exact Clo.nil | refine Clo.cons ?_ ?_)) ⟨rfl, by simp [Mac.fewB, bv, h1]⟩)
def oneM : Mac := ⟨2, [⟨0, 1, 1, 2, 3⟩], [⟨1, 0⟩]⟩
theorem rt_mac1 {H0 H1 : AH} {x : Mac} {va vf : AV} (hw : WF H0) (h0 : H0.le H1) (hn : H0.nx ≤ H1.nx) (ga : Grows 53 5 H0 H1 va (x.arcs.map Arc.cs)) (gf : Grows 56 2 H0 H1 vf (x.fins.map Fin_.cs)) :
    Rt Try.prog H0.nx (.agg [.p (.int .i64 x.states), va, vf]) (fun r H' => H' = H0 ∧ r = x.av) H1 := by
  obtain ⟨H2, k1, k2, k3, k4, k5⟩ := ga.fz (P := Try.prog) hw h0 hn
  have gf2 : Grows 56 2 H0 H2 vf (x.fins.map Fin_.cs) := gf.same (by omega) fun j hj ⟨n, hn⟩ => by
    obtain ⟨_, _, xs, hr⟩ := grows_at gf hn
    refine k4 j fun n' e => ?_
    obtain ⟨_, _, ys, hy⟩ := grows_at ga e
    rw [hr] at hy; injection hy with hy; injection hy with hy; exact absurd hy (by decide)
  obtain ⟨H3, q1, q2, q3, q4, q5⟩ := gf2.fz (P := Try.prog) hw k2 (by omega)
  refine Gh.step (((GW.st k1 hn).trans (GW.sub (.cons (Sub.agg (.cons (.refl _) (.cons k5 (.cons (.refl _) .nil)))) .nil) (by omega))).trans ((GW.st q1 (by omega)).trans (GW.sub (.cons (Sub.agg (.cons (.refl _) (.cons (.refl _) (.cons q5 .nil)))) .nil) (by omega)))) (Gh.back hw q2 (.one ?_) ⟨_, rfl, rfl, rfl⟩)
  exact (by repeat (first | exact Cl.p _ | exact Cl.dsl _ _ | exact Cl.any | refine Cl.tup ?_ | refine Cl.agg ?_ | exact Clo.nil | refine Clo.cons ?_ ?_))
theorem c_one : PF Try.prog 31 [] oneM.av := fun H => tri_wf fun hw => tri_wordhoardlaw_one (by
  unfold S_wordhoardlaw_one
  simp (disch := first | omega | simp) [put_get_ne]
  exact rt_mac1 (x := oneM) hw (by repeat (first | with_reducible assumption | with_reducible exact AH.le.refl _ | with_reducible apply AH.le.up | (with_reducible refine AH.le.put hw ?_ ?_; · first | omega | (simp only [up_nx, put_nx, kill_nx]; done) | (simp only [up_nx, put_nx, kill_nx]; omega)) | (with_reducible refine AH.le.kill hw ?_ ?_; · first | omega | (simp only [up_nx, put_nx, kill_nx]; done) | (simp only [up_nx, put_nx, kill_nx]; omega)))) (by first | omega | (simp only [up_nx, put_nx]; done) | (simp only [up_nx, put_nx]; omega)) (.row (by first | omega | (simp only [up_nx, put_nx, kill_nx]; done) | (simp only [up_nx, put_nx, kill_nx]; omega)) (by first | omega | (simp only [up_nx, put_nx]; done) | (simp only [up_nx, put_nx]; omega)) (by simp (disch := first | omega | simp) [put_get_ne]; rfl) (dt_arcs oneM.arcs) rfl) (.row (by first | omega | (simp only [up_nx, put_nx, kill_nx]; done) | (simp only [up_nx, put_nx, kill_nx]; omega)) (by first | omega | (simp only [up_nx, put_nx]; done) | (simp only [up_nx, put_nx]; omega)) (by simp (disch := first | omega | simp) [put_get_ne]; rfl) (dt_fins oneM.fins) rfl))
theorem Least.nonneg {S : Int → Prop} {v : Int} (h : Least S v) (hS : ∀ c, S c → 0 ≤ c) : 0 ≤ v := by
  by_cases hd : v < dear
  · exact hS v (h.at_ hd)
  · have : dear = 1152921504606846976 := rfl
    omega
end Go.Proofs.Ytgkkilbeingleaa
