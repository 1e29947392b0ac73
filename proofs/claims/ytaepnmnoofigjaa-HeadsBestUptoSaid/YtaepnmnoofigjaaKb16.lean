/- Texts that the proof rests on, part 16: what each holds stands at its head. -/
import Derived.Test.YtaepnmnoofigjaaKb15

/- The best flat tree. -/
namespace Go.Proofs.Ytaepnmnoofigjaa
open Go.RowKit Go.Maps
/-- where the tables lie -/
def oidE (K n t : Nat) : Nat := K + t * (8 * n + 5) + 2
def idsE (K n t i : Nat) : Nat := K + t * (8 * n + 5) + 10 + 8 * i
theorem mul_step {t t' c : Nat} (h : t < t') : t * c + c ≤ t' * c := by
  have := Nat.mul_le_mul_right c (Nat.succ_le_of_lt h)
  rwa [Nat.succ_mul] at this
theorem eisId {B : AH} {X uid K n : Nat} (hX : B.nx ≤ X) (hu : B.nx ≤ uid) (hXK : X < K) (huK : uid < K) (hne : uid ≠ X) : EisId B X (oidE K n) (idsE K n) uid n := by
  refine ⟨hX, fun t _ => by unfold oidE; omega, fun t i _ _ => by unfold idsE; omega, hu, fun t i t' i' _ hi _ hi' e => ?_, fun t i _ _ => by unfold idsE; omega, fun t i t' _ hi _ e => ?_, fun t i _ _ => by unfold idsE; omega, hne, fun t _ => by unfold oidE; omega⟩
  · unfold idsE at e
    rcases Nat.lt_trichotomy t t' with q | q | q
    · have := mul_step (c := 8 * n + 5) q; omega
    · subst q; exact ⟨rfl, by omega⟩
    · have := mul_step (c := 8 * n + 5) q; omega
  · unfold idsE oidE at e
    rcases Nat.lt_trichotomy t t' with q | q | q
    · have := mul_step (c := 8 * n + 5) q; omega
    · subst q; omega
    · have := mul_step (c := 8 * n + 5) q; omega
/-- an outer row that is made so far -/
def pR (f : Nat → Nat) (n i : Nat) : List (List AV) := (List.range n).map fun k => [if k < i then .osl (f k) 2 0 n else .p (.slice none 0 0)]
theorem pR_len (f : Nat → Nat) (n i : Nat) : (pR f n i).length = n := by simp [pR]
theorem pR_zero (f : Nat → Nat) (n : Nat) : pR f n 0 = List.replicate n [.p (.slice none 0 0)] := by
  refine List.ext_getElem (by simp [pR]) fun i h1 h2 => by simp [pR]
theorem pR_all (f : Nat → Nat) (n : Nat) : pR f n n = oR f n := by
  refine List.ext_getElem (by simp [pR, oR]) fun i h1 h2 => ?_
  rw [pR_len] at h1
  simp [pR, oR, h1]
theorem pR_el {f : Nat → Nat} {n i : Nat} (h : i < (pR f n i).length) : (pR f n i)[i] = [.p (.slice none 0 0)] := by simp [pR]
theorem pR_get {f : Nat → Nat} {n i : Nat} (h : i < n) : (pR f n i)[i]? = some [.p (.slice none 0 0)] := by simp [pR, h]
theorem pR_set {f : Nat → Nat} {n i : Nat} (h : i < n) : (pR f n i).set i [.osl (f i) 2 0 n] = pR f n (i + 1) := by
  refine List.ext_getElem (by simp [pR]) fun k h1 h2 => ?_
  rw [List.getElem_set]
  simp only [pR, List.getElem_map, List.getElem_range]
  by_cases e : i = k
  · subst e; simp
  · rw [if_neg e]
    by_cases q : k < i
    · rw [if_pos q, if_pos (by omega)]
    · rw [if_neg q, if_neg (by omega)]
theorem tR_zero (n : Nat) : List.replicate n [AV.p (.int .i64 0), AV.p (.int .i64 0)] = tR (fun _ => (0, 0)) n := by
  refine List.ext_getElem (by simp [tR]) fun i h1 h2 => by simp [tR]
/-- what BestFlat says -/
def FlatRes (s : List (List Int)) (r : AV) : Prop := (chk s ≠ 0 ∧ r = .tup [.dsl 1 [], iv 0, iv (chk s)]) ∨ (chk s = 0 ∧ ∃ u, r = .tup [.dsl 1 (iE (lst s.length u)), iv (Wt s.length (sco s) u), iv 0] ∧ FlatT s.length u ∧ ∀ u', FlatT s.length u' → Wt s.length (sco s) u' ≤ Wt s.length (sco s) u)
/-- while the tables are made: so many are whole -/
structure Mk (B H : AH) (X : Nat) (a : AV) (K uid n t : Nat) : Prop where
  le : B.le H
  box : H.get X = some (.box 42 [a, if 0 < t then .osl (oidE K n 0) 1 0 n else .p (.slice none 0 0), if 1 < t then .osl (oidE K n 1) 1 0 n else .p (.slice none 0 0), if 2 < t then .osl (oidE K n 2) 1 0 n else .p (.slice none 0 0), if 3 < t then .osl (oidE K n 3) 1 0 n else .p (.slice none 0 0), .osl uid 1 0 (n - 1)])
  ups : H.get uid = some (.row 3 1 (iE (lst n (fun _ => 0))))
  ptr : H.get (K - 3) = some (.row 43 1 [[.ptr X 1], [.ptr X 2], [.ptr X 3], [.ptr X 4]])
structure MkT (H : AH) (K n t : Nat) : Prop where
  out : ∀ t', t' < t → H.get (oidE K n t') = some (.row 45 1 (oR (idsE K n t') n))
  inn : ∀ t' i, t' < t → i < n → H.get (idsE K n t' i) = some (.row 56 2 (tR (fun _ => (0, 0)) n))
theorem MkT.mono {H H' : AH} {K n t : Nat} (h : MkT H K n t) (hk : ∀ id, id < K + t * (8 * n + 5) → H'.get id = H.get id) : MkT H' K n t := by
  refine ⟨fun t' ht => ?_, fun t' i ht hi => ?_⟩
  · have := mul_step (c := 8 * n + 5) ht
    rw [hk _ (by unfold oidE; omega)]; exact h.out t' ht
  · have := mul_step (c := 8 * n + 5) ht
    rw [hk _ (by unfold idsE; omega)]; exact h.inn t' i ht hi
theorem Mk.mono {B H H' : AH} {X K uid n t : Nat} {a : AV} (h : Mk B H X a K uid n t) (hw : WF B) (hB : B.nx ≤ K) (hX : X < K) (hu : uid < K) (h3 : 3 ≤ K) (hk : ∀ id, id < K → H'.get id = H.get id) : Mk B H' X a K uid n t :=
  ⟨fun i o ho => by rw [hk i (Nat.lt_of_lt_of_le (hw i o ho).1 hB)]; exact h.le i o ho, by rw [hk X hX]; exact h.box, by rw [hk uid hu]; exact h.ups, by rw [hk (K - 3) (by omega)]; exact h.ptr⟩
theorem el_nag {H : AH} {sz : Nat} {a : AV} {es : List (List AV)} (h : elF H sz a = some es) : ∀ ds, a ≠ .agg ds := fun ds e => by
  subst e; simp [elF] at h
set_option maxHeartbeats 8000000 in
theorem c_BestFlat {H : AH} {a : AV} {s : List (List Int)} (ha : ScAt H a s) : Tri Try.prog 7 [a] H (fun r H' => H' = H ∧ FlatRes s r) := tri_wf fun hw => tri_heads_BestFlat (by
  have hml : maxLen = 9223372036854775807 := by decide
  unfold S_heads_BestFlat
  obtain ⟨hp1, hp2⟩ := ha.part
  refine ca_pure (by kernel_rfl) (c_Check ha) ?_
  by_cases hc : chk s = 0
  · have hok := ScOk.of hc
    have h13 := hok.2.2.1
    have h1 := hok.2.1
    have hrng := hok.rng
    have hlenN := ha.len
    generalize hN : s.length = n at *
    have hsub : IntKind.i64.wrap ((n : Int) - 1) = ((n - 1 : Nat) : Int) := by rw [IntKind.wrap_i64]; omega
    simp (disch := first | omega | simp) [iv, hc, hlenN, hsub, put_get_ne, hp1, hp2]
    have hag : ∀ ds, a ≠ .agg ds := by obtain ⟨bs, h, _⟩ := ha; exact el_nag h
    refine ⟨by omega, by omega, ?_⟩
    split
    · rename_i ds; exact absurd rfl (hag ds)
    simp (disch := first | omega | simp)
    have hz0 : List.replicate (n - 1) [AV.p (.int .i64 0)] = iE (lst n (fun _ => 0)) := by
      refine List.ext_getElem (by simp [iE, lst]) fun i h1 h2 => by simp [iE, lst, iv]
    rw [hz0]
    obtain ⟨K, hK⟩ : ∃ K, K = H.nx + 22 := ⟨_, rfl⟩
    generalize hM : AH.put (AH.up _ _) (H.nx + 7 + 12) _ = M
    have hMk : Mk H M (H.nx + 5) a K (H.nx + 3) n 0 := by
      rw [← hM]
      exact ⟨(by repeat (first | with_reducible assumption | with_reducible exact AH.le.refl _ | with_reducible apply AH.le.up | (with_reducible refine AH.le.put hw ?_ ?_; · first | omega | (simp only [up_nx, put_nx, kill_nx]; done) | (simp only [up_nx, put_nx, kill_nx]; omega)) | (with_reducible refine AH.le.kill hw ?_ ?_; · first | omega | (simp only [up_nx, put_nx, kill_nx]; done) | (simp only [up_nx, put_nx, kill_nx]; omega)))), by simp (disch := first | omega | simp) [put_get_ne], by simp (disch := first | omega | simp) [put_get_ne], by rw [hK]; simp (disch := first | omega | simp) [put_get_ne]⟩
    have hMn : M.nx = K := by rw [← hM, hK]; rfl
    have hid := eisId (B := H) (X := H.nx + 5) (uid := H.nx + 3) (K := K) (n := n) (by omega) (by omega) (by omega) (by omega) (by omega)
    generalize hX : H.nx + 5 = X at *
    generalize hU : H.nx + 3 = uid at *
    have hK3 : H.nx + 7 + 12 = K - 3 := by omega
    have hBK : H.nx ≤ K := by omega
    have hXK : X < K := by omega
    have hUK : uid < K := by omega
    have hK0 : 3 ≤ K := by omega
    have hXU : X ≠ uid := by omega
    have hXB : H.nx ≤ X := by omega
    have hXp : X ≠ K - 3 := by omega
    rw [hK3]
    refine loop_wf (H0 := M) (fun t : Nat => [iv t]) (fun t H' => Mk H H' X a K uid n t ∧ MkT H' K n t ∧ H'.nx = K + t * (8 * n + 5) ∧ t ≤ 4) (fun t => 4 - t) 0 (.refl (Nat.le_refl _)) ⟨hMk, ⟨fun t' h => absurd h (Nat.not_lt_zero _), fun t' i h => absurd h (Nat.not_lt_zero _)⟩, by omega, Nat.zero_le _⟩ ?_
    rintro t H1 hn1 hw1 ⟨hm, hmt, hnx, ht⟩ k hk
    by_cases ht4 : t < 4
    · have step : ∀ M1 : AH, Mk H M1 X a K uid n (t + 1) → MkT M1 K n t → M1.nx = K + t * (8 * n + 5) + 5 → M1.get (oidE K n t) = some (.row 45 1 (pR (idsE K n t) n 0)) →
          LoopA Try.prog 1 (S_heads_BestFlat_L1 (iv n) k [iv t] (.ptr X (t + 1)) (iv n)) [iv 0] M1 := by
        intro M1 hm1 hmt1 hnx1 hr1
        have hn0 : H1.nx ≤ M1.nx := by omega
        refine loop_wf (H0 := M1) (fun i : Nat => [iv i]) (fun i H' => Mk H H' X a K uid n (t + 1) ∧ MkT H' K n t ∧ H'.nx = K + t * (8 * n + 5) + 5 + 8 * i ∧ i ≤ n ∧ H'.get (oidE K n t) = some (.row 45 1 (pR (idsE K n t) n i)) ∧ ∀ i', i' < i → H'.get (idsE K n t i') = some (.row 56 2 (tR (fun _ => (0, 0)) n))) (fun i => n - i) 0 (.refl (Nat.le_refl _)) ⟨hm1, hmt1, by omega, Nat.zero_le _, hr1, fun i' h => absurd h (Nat.not_lt_zero _)⟩ ?_
        rintro i H2 hn2 hw2 ⟨hm2, hmt2, hnx2, hin, hr2, hz2⟩ k2 hk2
        unfold S_heads_BestFlat_L1
        by_cases hil : i < n
        · have hi1 := ivn (i := i) (by omega)
          have hb2 := hm2.box
          have hidx : H2.nx + 5 = idsE K n t i := by unfold idsE; omega
          have hor : oidE K n t ≠ idsE K n t i := by unfold oidE idsE; omega
          have hOX : oidE K n t ≠ X := by unfold oidE; omega
          have fin : ∀ H3 : AH, H3 = ((H2.up 8).put (idsE K n t i) (.row 56 2 (tR (fun _ => (0, 0)) n))).put (oidE K n t) (.row 45 1 (pR (idsE K n t) n (i + 1))) → k2 [iv ((i : Int) + 1)] H3 := by
            intro H3 h3
            have hfr : ∀ id, id < K + t * (8 * n + 5) → H3.get id = H2.get id := fun id hid => by
              rw [h3, AH.get_put_ne (by unfold oidE; omega), AH.get_put_ne (by unfold idsE; omega)]; rfl
            have hfk : ∀ id, id < K → H3.get id = H2.get id := fun id hid => hfr id (by omega)
            have h3n : H3.nx = H2.nx + 8 := by rw [h3]; rfl
            have := hk2 (i + 1) H3 _ _ (.refl (by omega)) ⟨hm2.mono hw hBK hXK hUK hK0 hfk, hmt2.mono hfr, by omega, hil, by rw [h3, put_get], fun i' hi' => ?_⟩ (by omega)
            · exact this
            · rw [h3, AH.get_put_ne (by unfold oidE idsE; omega)]
              by_cases e : i' = i
              · subst e; rw [put_get]
              · rw [AH.get_put_ne (by unfold idsE; omega)]
                exact hz2 i' (by omega)
          have ht4' : t = 0 ∨ t = 1 ∨ t = 2 ∨ t = 3 := by omega
          rcases ht4' with rfl | rfl | rfl | rfl
          all_goals
            simp (disch := first | omega | simp) [iv, hil, hb2, put_get_ne, hr2, pR_len, pR_get, pR_el, hidx, hor, tR_zero]
            refine ⟨by omega, by omega, ?_⟩
            rw [pR_set hil, hi1]
            exact fin _ rfl
        · have hie : i = n := by omega
          subst hie
          simp (disch := first | omega | simp) [iv]
          rw [ivn (by omega)]
          refine hk (t + 1) H2 _ _ (.refl (by omega)) ⟨hm2, ⟨fun t' ht' => ?_, fun t' i' ht' hi' => ?_⟩, by rw [Nat.succ_mul]; omega, by omega⟩ (by omega)
          · by_cases e : t' = t
            · subst e; rw [hr2, pR_all]
            · exact hmt2.out t' (by omega)
          · by_cases e : t' = t
            · subst e; exact hz2 i' hi'
            · exact hmt2.inn t' i' (by omega) hi'
      unfold S_heads_BestFlat_L4
      have hb1 := hm.box
      have hpt := hm.ptr
      have hup := hm.ups
      have hle1 := hm.le
      have hO : H1.nx + 2 = oidE K n t := by unfold oidE; omega
      have hpz : List.replicate n [AV.p (.slice none 0 0)] = pR (idsE K n t) n 0 := (pR_zero _ _).symm
      have hOX : oidE K n t ≠ X := by unfold oidE; omega
      have hOU : oidE K n t ≠ uid := by unfold oidE; omega
      have hOP : oidE K n t ≠ K - 3 := by unfold oidE; omega
      have hOB : H.nx ≤ oidE K n t := by unfold oidE; omega
      have hmt3 : ∀ v w : AO, MkT (((H1.up 5).put (oidE K n t) v).put X w) K n t := fun v w => by
        refine ⟨fun t' ht' => ?_, fun t' i ht' hi => ?_⟩
        · have := mul_step (c := 8 * n + 5) ht'
          rw [AH.get_put_ne (by unfold oidE; omega), AH.get_put_ne (by unfold oidE; omega)]; exact hmt.out t' ht'
        · have := mul_step (c := 8 * n + 5) ht'
          rw [AH.get_put_ne (by unfold idsE; omega), AH.get_put_ne (by unfold oidE idsE; omega)]; exact hmt.inn t' i ht' hi
      have ht4' : t = 0 ∨ t = 1 ∨ t = 2 ∨ t = 3 := by omega
      rcases ht4' with rfl | rfl | rfl | rfl
      all_goals
        simp (disch := first | omega | simp) [iv, hb1, hpt, put_get_ne]
        refine ⟨by omega, by omega, ?_⟩
        rw [hO, hpz]
        refine step _ ⟨(by repeat (first | with_reducible assumption | with_reducible exact AH.le.refl _ | with_reducible apply AH.le.up | (with_reducible refine AH.le.put hw ?_ ?_; · first | omega | (simp only [up_nx, put_nx, kill_nx]; done) | (simp only [up_nx, put_nx, kill_nx]; omega)) | (with_reducible refine AH.le.kill hw ?_ ?_; · first | omega | (simp only [up_nx, put_nx, kill_nx]; done) | (simp only [up_nx, put_nx, kill_nx]; omega)))), ?_, ?_, ?_⟩ (hmt3 _ _) ?_ ?_
        · rw [put_get]; rfl
        · simp (disch := first | omega | simp) [put_get_ne, hup]
        · simp (disch := first | omega | simp) [put_get_ne, hpt]
        · simp only [put_nx, up_nx]; omega
        · simp (disch := first | omega | simp) [put_get_ne]
    have hte : t = 4 := by omega
    subst hte
    have hb1 := hm.box
    unfold S_heads_BestFlat_L4
    have hle1 := hm.le
    have hB1 : H.nx ≤ H1.nx := by omega
    have hE1 : EisAt H H1 X a (oidE K n) (idsE K n) uid n (fun _ _ _ => (0, 0)) (fun _ => 0) := ⟨hle1, hB1, hb1, hmt.out, hmt.inn, hm.ups⟩
    simp (disch := first | omega | simp) [iv]
    refine loop_wf (H0 := H1) (fun x : Nat × Tb => [iv x.1]) (fun x H' => EisAt H H' X a (oidE K n) (idsE K n) uid n x.2 (fun _ => 0) ∧ H1.nx ≤ H'.nx ∧ 1 ≤ x.1 ∧ x.1 ≤ n ∧ Sz (sco s) x.2 n x.1 0) (fun x => n - x.1) (1, fun _ _ _ => (0, 0)) (.refl (Nat.le_refl _)) ⟨hE1, Nat.le_refl _, Nat.le_refl _, h1, Sz.start _ _⟩ ?_
    rintro ⟨sz, T⟩ H2 hn2 hw2 ⟨hE2, hnx2, hz1, hzn, hS2⟩ k2 hk2
    dsimp only at hE2 hz1 hzn hS2 hk2
    unfold S_heads_BestFlat_L3
    by_cases hzl : sz < n
    · have hs1 := ivn (i := sz) (by omega)
      simp (disch := first | omega | simp) [iv, hzl]
      refine loop_wf (H0 := H2) (fun x : Nat × Tb => [iv x.1]) (fun x H' => EisAt H H' X a (oidE K n) (idsE K n) uid n x.2 (fun _ => 0) ∧ H2.nx ≤ H'.nx ∧ x.1 + sz ≤ n ∧ Sz (sco s) x.2 n sz x.1) (fun x => n - x.1) (0, T) (.refl (Nat.le_refl _)) ⟨hE2, Nat.le_refl _, by dsimp only; omega, hS2⟩ ?_
      rintro ⟨i, T3⟩ H3 hn3 hw3 ⟨hE3, hnx3, hin3, hS3⟩ k3 hk3
      dsimp only at hE3 hin3 hS3 hk3
      unfold S_heads_BestFlat_L2
      have hadd : IntKind.i64.wrap ((i : Int) + (sz : Int)) = ((i + sz : Nat) : Int) := by rw [IntKind.wrap_i64]; omega
      obtain ⟨j, hj⟩ : ∃ j, j = i + sz := ⟨_, rfl⟩
      rw [← hj] at hadd
      by_cases hjl : j < n
      · have hi1 := ivn (i := i) (by omega)
        simp (disch := first | omega | simp) [iv, hadd, hjl]
        have hpre := hS3.pre (by omega) (by omega) h13
        rw [← hj] at hpre
        refine ca_of (by kernel_rfl) (c_fill hw hid hok ha hpre hE3) ?_
        rintro r4 H4 ⟨hnx4, V, hDn, hBd, hE4⟩
        simp
        rw [hi1]
        refine hk3 (i + 1, upT T3 i j V) H4 _ _ (.refl (by omega)) ⟨hE4, by omega, by dsimp only; omega, ?_⟩ (by dsimp only; omega)
        rw [hj] at hDn hBd ⊢
        exact hS3.next (by omega) (by omega) hDn hBd
      · simp (disch := first | omega | simp) [iv, hadd, hjl]
        rw [hs1]
        exact hk2 (sz + 1, T3) H3 _ _ (.refl (by omega)) ⟨hE3, by omega, by dsimp only; omega, hzl, hS3.more (by omega)⟩ (by dsimp only; omega)
    · have hze : sz = n := by omega
      subst hze
      simp (disch := first | omega | simp) [iv, hsub]
      have hdg := hS2.dg
      have hDa : ∀ i j, i < j → j < sz → Dn (sco s) T i j := fun i j hij hj => (hS2.dn i j hij hj (.inl (by omega))).1
      have htk := (c_take (s := sco s) hw hid h13 hdg hDa (2 * sz + 2) 0 (sz - 1) false (fun _ => 0) H2 (by simp; omega) (Nat.zero_le _) (by omega) (fun h => by cases h) hE2).1
      refine ca_of (by kernel_rfl) htk ?_
      rintro r5 H5 ⟨u, hE5, hnx5, hP⟩
      have hb5 := hE5.box
      have hup5 : UpAt H5 (.osl uid 1 0 (sz - 1)) (lst sz u) := by
        rw [UpAt, elF_osl, hE5.ups, elRow_row _ _ _ _ _ (by rw [iE_len, lst_len]; omega), List.drop_zero, List.take_of_length_le (by rw [iE_len, lst_len]; omega)]
      have hflat : FlatT sz u := hP.pc.flat
      simp (disch := first | omega | simp) [iv, hb5]
      refine cav_pure (by kernel_rfl) (fun H6 hle6 => c_worth (ha.le (hE5.le.trans hle6)) hok (hup5.le hle6) hflat.1.1) ?_
      have hgr : Grows 3 1 H H5 (.osl uid 1 0 (sz - 1)) (iE (lst sz u)) := .row (by omega) (by omega) hE5.ups (dt_iE _) (by rw [iE_len, lst_len])
      subst hN
      refine hgr.rt_in hw hE5.le (by omega) hw (.refl _) (Nat.le_refl _) (fun H2 h => .tup (.cons h (.refl _))) (by repeat (first | exact Cl.p _ | exact Cl.dsl _ _ | exact Cl.any | refine Cl.tup ?_ | refine Cl.agg ?_ | exact Clo.nil | refine Clo.cons ?_ ?_)) ⟨rfl, .inr ⟨hc, u, rfl, hflat, fun u' hu' => ?_⟩⟩
      rw [post0_worth hP]
      exact flat_best h1 hdg hDa hu'
  · simp (disch := first | omega | simp) [iv, hc]
    exact rt_sub (v' := .tup [.dsl 1 [], iv 0, iv (chk s)]) hw (.refl _) (Nat.le_refl _) (.tup (.cons (.nil _ _ (Nat.zero_le _)) (.cons (.refl _) (.cons (.refl _) .nil)))) (by repeat (first | exact Cl.p _ | exact Cl.dsl _ _ | exact Cl.any | refine Cl.tup ?_ | refine Cl.agg ?_ | exact Clo.nil | refine Clo.cons ?_ ?_)) ⟨rfl, .inl ⟨hc, rfl⟩⟩)
end Go.Proofs.Ytaepnmnoofigjaa

/- What must be in any case. -/
namespace Go.Proofs.Ytaepnmnoofigjaa
open Go.RowKit Go.Maps
theorem c_Same {H : AH} {a b : AV} {l : List Int} (ha : UpAt H a l) (hb : UpAt H b l) (hl : l.length ≤ 1000000000) : Tri Try.prog 20 [a, b] H (fun v H' => H' = H ∧ v = bv true) := tri_wf fun hw => tri_wordhoardref_Same (by
  unfold S_wordhoardref_Same
  simp [ha.len, hb.len, iv]
  refine loop_st (fun i : Nat => [iv i]) (fun i H' => H = H' ∧ i ≤ l.length) (fun i => l.length - i) 0 (.refl (Nat.le_refl _)) ⟨rfl, Nat.zero_le _⟩ ?_
  rintro i _ hn ⟨rfl, hi⟩ k hk
  unfold S_wordhoardref_Same_L1
  by_cases hil : i < l.length
  · obtain ⟨x, hx⟩ : ∃ x, l[i]? = some x := ⟨_, List.getElem?_eq_getElem hil⟩
    obtain ⟨q, q1, q3⟩ := ha.acc hx
    obtain ⟨z, z1, z3⟩ := hb.acc hx
    have hiv := ivn (i := i) (by omega)
    simp (disch := first | omega | simp) [ha.len, iv, hil, q1, q3, z1, z3, hiv]
    exact hk (i + 1) _ _ _ (.refl (Nat.le_refl _)) ⟨rfl, hil⟩ (by omega)
  · have : i = l.length := by omega
    subst this
    simp (disch := first | omega | simp) [ha.len, iv]
    exact rt_refl ⟨rfl, rfl⟩ (Nat.le_refl _))
theorem c_choose (c n : Int) (hc : I64 c) (hn : 0 < n) (hn2 : n ≤ 1000000) (H : AH) : Tri Try.prog 9 [iv c, iv n] H (fun v H' => H' = H ∧ ∃ w : Nat, v = iv (w : Int) ∧ (w : Int) < n) := tri_wf fun hw => tri_wordhoardlaw_choose (by
  unfold S_wordhoardlaw_choose
  have hn0 : ¬ n = 0 := by omega
  obtain ⟨h1, h2⟩ := hc
  by_cases h : c < 0
  · have e1 : IntKind.i64.wrap (c + 1) = c + 1 := by rw [IntKind.wrap_i64]; omega
    have e2 : IntKind.i64.wrap (-(c + 1)) = -(c + 1) := by rw [IntKind.wrap_i64]; omega
    have a1 := Int.tmod_nonneg (a := -(c + 1)) n (by omega)
    have a2 := Int.tmod_lt_of_pos (-(c + 1)) hn
    have e3 : IntKind.i64.wrap ((-(c + 1)).tmod n) = (-(c + 1)).tmod n := by rw [IntKind.wrap_i64]; omega
    simp (disch := first | omega | simp) [iv, h, e1, e2, hn0, e3]
    rw [Int.neg_tmod] at a1 a2
    obtain ⟨m, hm⟩ : ∃ m : Nat, -((c + 1).tmod n) = (m : Int) := ⟨(-((c + 1).tmod n)).toNat, by omega⟩
    rw [hm] at a2 ⊢
    exact rt_refl ⟨rfl, m, rfl, a2⟩ (Nat.le_refl _)
  · have a1 := Int.tmod_nonneg (a := c) n (by omega)
    have a2 := Int.tmod_lt_of_pos c hn
    have e3 : IntKind.i64.wrap (c.tmod n) = c.tmod n := by rw [IntKind.wrap_i64]; omega
    simp (disch := first | omega | simp) [iv, h, hn0, e3]
    obtain ⟨m, hm⟩ : ∃ m : Nat, c.tmod n = (m : Int) := ⟨(c.tmod n).toNat, by omega⟩
    rw [hm] at a2 ⊢
    exact rt_refl ⟨rfl, m, rfl, a2⟩ (Nat.le_refl _))
theorem begun_best {u : Nat → Nat} (hT : TreeF 3 u) (hb : ∀ u', TreeF 3 u' → Wt 3 (sco [[1, 5], [0, 9], [3, 0]]) u' ≤ Wt 3 (sco [[1, 5], [0, 9], [3, 0]]) u) : lst 3 u = [0, 1] ∧ Wt 3 (sco [[1, 5], [0, 9], [3, 0]]) u = 10 := by
  have hw : ∀ v : Nat → Nat, Wt 3 (sco [[1, 5], [0, 9], [3, 0]]) v = sco [[1, 5], [0, 9], [3, 0]] (v 1) 1 + (sco [[1, 5], [0, 9], [3, 0]] (v 2) 2 + 0) := fun _ => rfl
  have h0 := hb (fun v => v - 1) ⟨fun v v0 vn => by dsimp only; omega, fun v => v, fun v v0 vn => by dsimp only; omega⟩
  rw [hw, hw] at h0
  have e0 : sco [[1, 5], [0, 9], [3, 0]] ((fun v => v - 1) 1) 1 + (sco [[1, 5], [0, 9], [3, 0]] ((fun v => v - 1) 2) 2 + 0) = 10 := rfl
  rw [e0] at h0
  obtain ⟨h1, r, hr⟩ := hT
  have a1 := h1 1 (by omega) (by omega)
  have a2 := h1 2 (by omega) (by omega)
  have b1 := hr 1 (by omega) (by omega)
  have b2 := hr 2 (by omega) (by omega)
  have c1 : u 1 = 0 ∨ u 1 = 2 := by
    rcases (by omega : u 1 = 0 ∨ u 1 = 1 ∨ u 1 = 2) with h | h | h
    · exact .inl h
    · rw [h] at b1; omega
    · exact .inr h
  have c2 : u 2 = 0 ∨ u 2 = 1 := by
    rcases (by omega : u 2 = 0 ∨ u 2 = 1 ∨ u 2 = 2) with h | h | h
    · exact .inl h
    · exact .inr h
    · rw [h] at b2; omega
  rw [hw]
  have hl : lst 3 u = [(u 1 : Int), (u 2 : Int)] := rfl
  rw [hl]
  rcases c1 with c1 | c1 <;> rcases c2 with c2 | c2
  · rw [c1, c2] at h0
    exact absurd h0 (by decide)
  · rw [c1, c2]; exact ⟨rfl, rfl⟩
  · rw [c1, c2] at h0
    exact absurd h0 (by decide)
  · rw [c1] at b1; rw [c2] at b2; omega
/-- scores in rows of one's own -/
theorem ScAt.own {H : AH} {r m : Nat} {t : TypeId} {ids : Nat → Nat} {s : List (List Int)} (hr : H.get r = some (.row t 1 ((List.range s.length).map fun k => [.osl (ids k) 1 0 m]))) (hk : ∀ (k : Nat) (l : List Int), s[k]? = some l → l.length = m ∧ ∃ t, H.get (ids k) = some (.row t 1 (iE l))) : ScAt H (.osl r 1 0 s.length) s := by
  refine ⟨(List.range s.length).map fun k => .osl (ids k) 1 0 m, ?_, by simp, fun i l hl => ?_⟩
  · rw [elF_osl, hr, elRow_row _ _ _ _ _ (by simp), List.drop_zero, List.take_of_length_le (by simp), List.map_map]; rfl
  · have hi := (List.getElem?_eq_some_iff.1 hl).1
    obtain ⟨h1, t', h2⟩ := hk i l hl
    refine ⟨.osl (ids i) 1 0 m, by simp [hi], ?_⟩
    rw [UpAt, elF_osl, h2, elRow_row _ _ _ _ _ (by rw [iE_len, h1]; omega), List.drop_zero, List.take_of_length_le (by rw [iE_len, h1]; omega)]
theorem c_begun : PF Try.prog 5 [] (bv true) := fun H => tri_wf fun hw => tri_wordhoardlaw_headsBegun (by
  unfold S_wordhoardlaw_headsBegun
  simp (disch := first | omega | simp) [iv, put_get_ne]
  generalize hM : AH.put _ _ _ = M
  have hMl : H.le M := by rw [← hM]; exact (by repeat (first | with_reducible assumption | with_reducible exact AH.le.refl _ | with_reducible apply AH.le.up | (with_reducible refine AH.le.put hw ?_ ?_; · first | omega | (simp only [up_nx, put_nx, kill_nx]; done) | (simp only [up_nx, put_nx, kill_nx]; omega)) | (with_reducible refine AH.le.kill hw ?_ ?_; · first | omega | (simp only [up_nx, put_nx, kill_nx]; done) | (simp only [up_nx, put_nx, kill_nx]; omega))))
  have hMn : M.nx = H.nx + 12 := by rw [← hM]; rfl
  have hsc : ScAt M (.osl (H.nx + 3) 1 0 3) [[1, 5], [0, 9], [3, 0]] := by
    refine ScAt.own (r := H.nx + 3) (m := 2) (t := 24) (ids := fun k => H.nx + k) (s := [[1, 5], [0, 9], [3, 0]]) ?_ fun k l hl => ?_
    · rw [← hM, put_get]; rfl
    · match k with
      | 0 => simp at hl; subst hl; exact ⟨rfl, 3, by rw [← hM]; simp (disch := first | omega | simp) [put_get_ne]; rfl⟩
      | 1 => simp at hl; subst hl; exact ⟨rfl, 3, by rw [← hM]; simp (disch := first | omega | simp) [put_get_ne]; rfl⟩
      | 2 => simp at hl; subst hl; exact ⟨rfl, 3, by rw [← hM]; simp (disch := first | omega | simp) [put_get_ne]; rfl⟩
      | k + 3 => simp at hl
  refine ca_of (by kernel_rfl) (c_Best hsc) ?_
  rintro r H2 ⟨e2, hb⟩
  subst e2
  have hck : chk [[1, 5], [0, 9], [3, 0]] = 0 := by decide
  rcases hb with ⟨h, _⟩ | ⟨_, u, rfl, hT, hmax⟩
  · exact absurd hck h
  obtain ⟨b1, b2⟩ := begun_best hT hmax
  have hl3 : ([[1, 5], [0, 9], [3, 0]] : List (List Int)).length = 3 := rfl
  rw [hl3, b1, b2]
  simp (disch := first | omega | simp) [iv, put_get_ne]
  refine ca_pure (by kernel_rfl) (c_Same (.dsl _) ?_ (by decide)) ?_
  · rw [UpAt, elF_osl, put_get, elRow_row _ _ _ _ _ (by simp)]; rfl
  simp (disch := first | omega | simp) [bv]
  exact rt_one hw (by repeat (first | with_reducible assumption | with_reducible exact AH.le.refl _ | with_reducible apply AH.le.up | (with_reducible refine AH.le.put hw ?_ ?_; · first | omega | (simp only [up_nx, put_nx, kill_nx]; done) | (simp only [up_nx, put_nx, kill_nx]; omega)) | (with_reducible refine AH.le.kill hw ?_ ?_; · first | omega | (simp only [up_nx, put_nx, kill_nx]; done) | (simp only [up_nx, put_nx, kill_nx]; omega)))) (by repeat (first | exact Cl.p _ | exact Cl.dsl _ _ | exact Cl.any | refine Cl.tup ?_ | refine Cl.agg ?_ | exact Clo.nil | refine Clo.cons ?_ ?_)) ⟨rfl, rfl⟩)
end Go.Proofs.Ytaepnmnoofigjaa

/- What HeadsMore says. -/
namespace Go.Proofs.Ytaepnmnoofigjaa
open Go.RowKit Go.Maps
theorem sco_at {s : List (List Int)} {h v : Nat} {r : List Int} {x : Int} (hr : s[h]? = some r) (hx : r[v - 1]? = some x) : sco s h v = x := by
  simp [sco, List.getD_eq_getElem?_getD, hr, hx]
/-- a row of which something is taken -/
def subR (w : Nat) (d : Int) (r : List Int) : List Int := r.set w (r.getD w 0 - d)
def subS (w : Nat) (d : Int) (s : List (List Int)) : List (List Int) := s.map (subR w d)
theorem subR_at {w : Nat} {d : Int} {r : List Int} {i : Nat} {x : Int} (hx : r[i]? = some x) : (subR w d r)[i]? = some (x - if i = w then d else 0) := by
  have hi := (List.getElem?_eq_some_iff.1 hx).1
  unfold subR
  by_cases e : i = w
  · subst e
    rw [List.getElem?_set_self hi, if_pos rfl, List.getD_eq_getElem?_getD, hx]; rfl
  · rw [List.getElem?_set_ne (fun c => e c.symm), if_neg e, hx]; simp
theorem subS_sco {n w : Nat} {d : Int} {s : List (List Int)} (hs : ScOk n s) {h v : Nat} (hh : h < n) (v0 : 0 < v) (vn : v < n) : sco (subS w d s) h v = sco s h v - if v = w + 1 then d else 0 := by
  obtain ⟨r, hr, hx, _⟩ := hs.at_ hh v0 vn
  have h1 : (subS w d s)[h]? = some (subR w d r) := by unfold subS; rw [List.getElem?_map, hr]; rfl
  rw [sco_at h1 (subR_at hx)]
  by_cases e : v = w + 1
  · rw [if_pos e, if_pos (by omega)]
  · rw [if_neg e, if_neg (by omega)]
theorem subR_len (w : Nat) (d : Int) (r : List Int) : (subR w d r).length = r.length := by simp [subR]
theorem subR_mem {w : Nat} {d : Int} {r : List Int} {x : Int} (hx : x ∈ subR w d r) : x ∈ r ∨ x = r.getD w 0 - d := by
  unfold subR at hx
  exact (List.mem_or_eq_of_mem_set hx).imp_right id
theorem chk_of {s : List (List Int)} {n : Nat} (h : ScOk n s) : chk s = 0 := by
  obtain ⟨h1, h2, h3, h4, h5⟩ := h
  refine chk_0 (by omega) (fun r hr => by rw [h4 r hr, h1]) fun r hr => ?_
  rw [List.any_eq_false]
  intro x hx
  have := h5 r hr x hx
  unfold farB
  simp
  omega
theorem getD_mem {r : List Int} {w : Nat} (hw : w < r.length) : r.getD w 0 ∈ r := by
  rw [List.getD_eq_getElem?_getD, List.getElem?_eq_getElem hw]; exact List.getElem_mem hw
theorem subS_ok {n w : Nat} {d : Int} {s : List (List Int)} (hs : ScOk n s) (hw : w < n - 1) (hd : 0 ≤ d) (hlow : ∀ r ∈ s, -1000000 ≤ r.getD w 0 - d) : ScOk n (subS w d s) := by
  obtain ⟨h1, h2, h3, h4, h5⟩ := hs
  refine ⟨by simp [subS, h1], h2, h3, fun r hr => ?_, fun r hr x hx => ?_⟩
  · obtain ⟨q, hq, rfl⟩ := List.mem_map.1 hr
    rw [subR_len]; exact h4 q hq
  · obtain ⟨q, hq, rfl⟩ := List.mem_map.1 hr
    rcases subR_mem hx with hx | hx
    · exact h5 q hq x hx
    · have := hlow q hq
      have := h5 q hq _ (getD_mem (w := w) (by rw [h4 q hq]; exact hw))
      omega
/-- one score is made greater -/
def addS (y w : Nat) (d : Int) (s : List (List Int)) : List (List Int) := s.set y ((s.getD y []).set w ((s.getD y []).getD w 0 + d))
theorem addS_sco {n y w : Nat} {d : Int} {s : List (List Int)} (hs : ScOk n s) (hy : y < n) (hw : w < n - 1) {h v : Nat} (hh : h < n) (v0 : 0 < v) (vn : v < n) : sco (addS y w d s) h v = sco s h v + if h = y ∧ v = w + 1 then d else 0 := by
  obtain ⟨r, hr, hx, _⟩ := hs.at_ hh v0 vn
  have hl := hs.1
  by_cases e : h = y
  · subst e
    have hg : s.getD h [] = r := by rw [List.getD_eq_getElem?_getD, hr]; rfl
    have h1 : (addS h w d s)[h]? = some (r.set w (r.getD w 0 + d)) := by unfold addS; rw [hg, List.getElem?_set_self (by omega)]
    have hi := (List.getElem?_eq_some_iff.1 hx).1
    by_cases e2 : v = w + 1
    · rw [if_pos ⟨rfl, e2⟩]
      refine sco_at h1 ?_
      rw [show v - 1 = w by omega] at hx hi ⊢
      rw [List.getElem?_set_self hi, List.getD_eq_getElem?_getD, hx]; rfl
    · rw [if_neg (fun c => e2 c.2), Int.add_zero]
      refine sco_at h1 ?_
      rw [List.getElem?_set_ne (by omega)]; exact hx
  · rw [if_neg (fun c => e c.1), Int.add_zero]
    refine sco_at (r := r) ?_ hx
    unfold addS; rw [List.getElem?_set_ne (fun c => e c.symm)]; exact hr
theorem addS_ok {n y w : Nat} {d : Int} {s : List (List Int)} (hs : ScOk n s) (hy : y < n) (hw : w < n - 1) (hr : -1000000 ≤ (s.getD y []).getD w 0 + d ∧ (s.getD y []).getD w 0 + d ≤ 1000000) : ScOk n (addS y w d s) := by
  obtain ⟨h1, h2, h3, h4, h5⟩ := hs
  have hm : s.getD y [] ∈ s := by rw [List.getD_eq_getElem?_getD, List.getElem?_eq_getElem (by omega)]; exact List.getElem_mem _
  refine ⟨by simp [addS, h1], h2, h3, fun r hr' => ?_, fun r hr' x hx => ?_⟩
  · rcases List.mem_or_eq_of_mem_set hr' with h | h
    · exact h4 r h
    · rw [h, List.length_set]; exact h4 _ hm
  · rcases List.mem_or_eq_of_mem_set hr' with h | h
    · exact h5 r h x hx
    · rw [h] at hx
      rcases List.mem_or_eq_of_mem_set hx with h' | h'
      · exact h5 _ hm x h'
      · rw [h']; exact hr
end Go.Proofs.Ytaepnmnoofigjaa

/- What HeadsMore says: the walk. -/
namespace Go.Proofs.Ytaepnmnoofigjaa
open Go.RowKit Go.Maps
/-- the rows made so far, and the row of these -/
structure MoreAt (B H : AH) (K n h w : Nat) (d : Int) (s : List (List Int)) (v : AV) : Prop where
  le : B.le H
  nx : H.nx = K + 20 * h
  v0 : h = 0 → v = .p (.slice none 0 0)
  v1 : 0 < h → v = .osl (K + 20 * (h - 1) + 18) 1 0 h ∧ H.get (K + 20 * (h - 1) + 18) = some (.row 24 1 ((List.range h).map fun k => [.osl (K + 20 * k + 5) 1 0 (n - 1)]))
  rows : ∀ k r, k < h → s[k]? = some r → H.get (K + 20 * k + 5) = some (.row 3 1 (iE (subR w d r)))
  low : ∀ k r, k < h → s[k]? = some r → -1000000 ≤ r.getD w 0 - d
set_option maxHeartbeats 8000000 in
theorem c_HeadsMore (s : List (List Int)) (at_ by_ : Int) (hat : I64 at_) (hby : I64 by_) (H : AH) : Tri Try.prog 3 [scA s, iv at_, iv by_] H (fun v H' => H' = H ∧ v = bv true) := tri_wf fun hw => tri_wordhoardlaw_HeadsMore (by
  have hml : maxLen = 9223372036854775807 := by decide
  unfold S_wordhoardlaw_HeadsMore
  refine ca_pure (by kernel_rfl) (c_begun _) ?_
  simp (disch := first | omega | simp) [bv]
  have hsc : ∀ {X : AH}, ScAt X (scA s) s := ScAt.dsl s
  refine ca_of (by kernel_rfl) (c_Best hsc) ?_
  rintro r1 H1 ⟨e1, hB⟩
  subst e1
  by_cases hc : chk s = 0
  · rcases hB with ⟨h, _⟩ | ⟨_, u, rfl, hT, hmax⟩
    · exact absurd hc h
    simp (disch := first | omega | simp) [iv]
    refine ca_of (by kernel_rfl) (c_BestFlat hsc) ?_
    rintro r2 H2 ⟨e2, hF⟩
    subst e2
    rcases hF with ⟨h, _⟩ | ⟨_, uf, rfl, hTf, _⟩
    · exact absurd hc h
    simp (disch := first | omega | simp) [iv]
    refine ca_of (by kernel_rfl) (c_One hsc) ?_
    rintro r3 H3 ⟨e3, hO⟩
    subst e3
    have hok := ScOk.of hc
    have h13 := hok.2.2.1
    have h1 := hok.2.1
    have hrng := hok.rng
    have hlenN := (ScAt.dsl (H := H3) s).len
    have hff := hmax uf hTf.1
    have hsub : IntKind.i64.wrap ((s.length : Int) - 1) = ((s.length - 1 : Nat) : Int) := by rw [IntKind.wrap_i64]; omega
    have hlt : ¬ Wt s.length (sco s) u < Wt s.length (sco s) uf := by omega
    by_cases hn1 : s.length = 1
    · rcases hO with ⟨h, _⟩ | ⟨_, _, rfl⟩ | ⟨_, h, _⟩
      · exact absurd hc h
      · have hw0 : Wt s.length (sco s) u = 0 := by rw [hn1]; rfl
        have hwf : Wt s.length (sco s) uf = 0 := by rw [hn1]; rfl
        simp (disch := first | omega | simp) [iv]
        unfold S_wordhoardlaw_HeadsMore_C3
        rw [hw0, hwf]
        simp (disch := first | omega | simp) [iv, hlenN, hsub, hn1]
        exact rt_refl ⟨rfl, rfl⟩ (Nat.le_refl _)
      · omega
    · rcases hO with ⟨h, _⟩ | ⟨_, h, _⟩ | ⟨_, hn2, uo, rfl, hTo, _, _⟩
      · exact absurd hc h
      · omega
      · have hoo := hmax uo hTo
        have hlo : ¬ Wt s.length (sco s) u < Wt s.length (sco s) uo := by omega
        have hz : ¬ s.length - 1 = 0 := by omega
        have hzi : ¬ ((s.length - 1 : Nat) : Int) = 0 := by omega
        simp (disch := first | omega | simp) [iv]
        unfold S_wordhoardlaw_HeadsMore_C3
        simp (disch := first | omega | simp) [iv, hlenN, hsub, hlt, hlo, hz, hzi]
        generalize hN : s.length = n at *
        refine ca_of (by kernel_rfl) (c_choose at_ ((n - 1 : Nat) : Int) hat (by omega) (by omega) _) ?_
        rintro _ H4 ⟨e4, w, rfl, hwn⟩
        subst e4
        refine ca_of (by kernel_rfl) (c_choose by_ 1000 hby (by omega) (by omega) _) ?_
        rintro _ H5 ⟨e5, d, rfl, hdn⟩
        subst e5
        obtain ⟨K, hK⟩ : ∃ K, K = H5.nx := ⟨_, rfl⟩
        refine loop_wf (H0 := H5) (fun x : AV × Nat => [x.1, iv x.2]) (fun x H' => MoreAt H5 H' K n x.2 w (d : Int) s x.1 ∧ x.2 ≤ n) (fun x => n - x.2) (.p (.slice none 0 0), 0) (.refl (Nat.le_refl _)) ⟨⟨.refl _, by omega, fun _ => rfl, fun h => absurd h (Nat.lt_irrefl _), fun k r h => absurd h (Nat.not_lt_zero _), fun k r h => absurd h (Nat.not_lt_zero _)⟩, Nat.zero_le _⟩ ?_
        rintro ⟨v, h⟩ H6 hn6 hw6 ⟨hM, hhn⟩ k6 hk6
        dsimp only at hM hhn hk6
        unfold S_wordhoardlaw_HeadsMore_L2
        by_cases hhl : h < n
        · obtain ⟨r, hr⟩ : ∃ r, s[h]? = some r := ⟨_, List.getElem?_eq_getElem (by omega)⟩
          have hrl : r.length = n - 1 := hok.2.2.2.1 r (List.mem_of_getElem? hr)
          have hwr : w < r.length := by omega
          obtain ⟨x, hx⟩ : ∃ x, r[w]? = some x := ⟨_, List.getElem?_eq_getElem hwr⟩
          have hxo := iE_at hx
          have hxg : ∀ h, (iE r)[w]'h = [iv x] := fun h => (List.getElem?_eq_some_iff.1 hxo).2
          have hso : (s.map fun r => [AV.dsl 1 (iE r)])[h]? = some [.dsl 1 (iE r)] := by rw [List.getElem?_map, hr]; rfl
          have hxr := hok.2.2.2.2 r (List.mem_of_getElem? hr) x (List.mem_of_getElem? hx)
          have hwd : IntKind.i64.wrap (x - (d : Int)) = x - (d : Int) := by rw [IntKind.wrap_i64]; omega
          simp only [iv] at hxo hxg
          simp (disch := first | omega | simp) [iv, hlenN, hhl]
          simp (disch := first | omega | simp) [iv, scA, hso, hN, hhl, put_get_ne, kill_get_ne, iE_len, hrl, hxo, hxg, hwd]
          have hgd : r.getD w 0 = x := by rw [List.getD_eq_getElem?_getD, hx]; rfl
          have hset : (iE r).set w [AV.p (.int .i64 (x - (d : Int)))] = iE (subR w (d : Int) r) := by unfold subR; rw [hgd, iE, iE, List.map_set]; rfl
          have hsx : (subR w (d : Int) r)[w]? = some (x - (d : Int)) := by rw [subR_at hx, if_pos rfl]
          have hso2 := iE_at hsx
          simp only [iv] at hso2
          refine ⟨by omega, by omega, by omega, ?_⟩
          rw [hset, hso2]
          generalize hX : AH.put (AH.up _ 8) (H6.nx + 5) _ = X
          have hXn : X.nx = H6.nx + 15 := by rw [← hX]; rfl
          have hle6 := hM.le
          have hnx6 := hM.nx
          have hXl : H5.le X := by rw [← hX]; exact (by repeat (first | with_reducible assumption | with_reducible exact AH.le.refl _ | with_reducible apply AH.le.up | (with_reducible refine AH.le.put hw ?_ ?_; · first | omega | (simp only [up_nx, put_nx, kill_nx]; done) | (simp only [up_nx, put_nx, kill_nx]; omega)) | (with_reducible refine AH.le.kill hw ?_ ?_; · first | omega | (simp only [up_nx, put_nx, kill_nx]; done) | (simp only [up_nx, put_nx, kill_nx]; omega))))
          have hXr : X.get (H6.nx + 5) = some (.row 3 1 (iE (subR w (d : Int) r))) := by rw [← hX, put_get]
          have hXo : ∀ j, j < H6.nx → X.get j = H6.get j := fun j hj => by rw [← hX]; simp (disch := first | omega | simp) [put_get_ne, kill_get_ne]
          have hh1 := ivn (i := h) (by omega)
          by_cases hlow : x - (d : Int) < -1000000
          · simp (disch := first | omega | simp) [hlow]
            exact rt_one hw hXl (by repeat (first | exact Cl.p _ | exact Cl.dsl _ _ | exact Cl.any | refine Cl.tup ?_ | refine Cl.agg ?_ | exact Clo.nil | refine Clo.cons ?_ ?_)) ⟨rfl, rfl⟩
          · have hlow2 : -1000000 ≤ x - (d : Int) := by omega
            have fin : ∀ (Y : AH) (vv : AV), Y.nx = K + 20 * (h + 1) → H5.le Y → (∀ j, j < H6.nx → (∀ q, v ≠ .osl j 1 0 q) → Y.get j = H6.get j) → Y.get (H6.nx + 5) = some (.row 3 1 (iE (subR w (d : Int) r))) → vv = .osl (H6.nx + 18) 1 0 (h + 1) → Y.get (H6.nx + 18) = some (.row 24 1 ((List.range (h + 1)).map fun k => [.osl (K + 20 * k + 5) 1 0 (n - 1)])) → k6 [vv, iv ((h : Int) + 1)] Y := by
              intro Y vv hYn hYl hYo hYr hvv hYv
              subst hvv
              have hid : K + 20 * h + 18 = H6.nx + 18 := by omega
              have := hk6 (.osl (H6.nx + 18) 1 0 (h + 1), h + 1) Y _ _ (.refl (by omega)) ⟨⟨hYl, hYn, fun e => by omega, fun _ => ?_, fun k q hk hq => ?_, fun k q hk hq => ?_⟩, hhl⟩ (by dsimp only; omega)
              · exact this
              · simp only [Nat.add_sub_cancel]
                rw [hid]
                exact ⟨rfl, hYv⟩
              · by_cases e : k = h
                · have hqr : r = q := Option.some.inj (hr.symm.trans (by rw [← e]; exact hq))
                  rw [← hqr, show K + 20 * k + 5 = H6.nx + 5 by omega]; exact hYr
                · rw [hYo _ (by omega) fun q hq => ?_]
                  · exact hM.rows k q (by omega) hq
                  · have := (hM.v1 (by omega)).1
                    rw [this] at hq; injection hq with hq; omega
              · by_cases e : k = h
                · have hqr : r = q := Option.some.inj (hr.symm.trans (by rw [← e]; exact hq))
                  rw [← hqr, hgd]; exact hlow2
                · exact hM.low k q (by omega) hq
            by_cases h0 : h = 0
            · have hv := hM.v0 h0
              subst hv
              simp (disch := first | omega | simp) [hlow, put_get_ne]
              refine ⟨by omega, ?_⟩
              have e18 : X.nx + 3 = H6.nx + 18 := by omega
              rw [e18, hh1]
              refine fin _ _ (by simp only [put_nx, up_nx]; omega) (by repeat (first | with_reducible assumption | with_reducible exact AH.le.refl _ | with_reducible apply AH.le.up | (with_reducible refine AH.le.put hw ?_ ?_; · first | omega | (simp only [up_nx, put_nx, kill_nx]; done) | (simp only [up_nx, put_nx, kill_nx]; omega)) | (with_reducible refine AH.le.kill hw ?_ ?_; · first | omega | (simp only [up_nx, put_nx, kill_nx]; done) | (simp only [up_nx, put_nx, kill_nx]; omega)))) (fun j hj _ => ?_) ?_ (by rw [h0]) ?_
              · rw [AH.get_put_ne (by omega), AH.get_put_ne (by omega)]; exact hXo j hj
              · rw [AH.get_put_ne (by omega), AH.get_put_ne (by omega)]; exact hXr
              · have e5 : H6.nx + 5 = K + 20 * 0 + 5 := by omega
                rw [put_get, h0, e5]; rfl
            · obtain ⟨hv, hvr⟩ := hM.v1 (by omega)
              subst hv
              have hvr' := (hXo (K + 20 * (h - 1) + 18) (by omega)).trans hvr
              simp (disch := first | omega | simp) [hlow, put_get_ne, hvr']
              refine ⟨by omega, by omega, ?_⟩
              have e18 : X.nx + 3 = H6.nx + 18 := by omega
              rw [e18, hh1]
              refine fin _ _ (by simp only [put_nx, up_nx, kill_nx]; omega) (by repeat (first | with_reducible assumption | with_reducible exact AH.le.refl _ | with_reducible apply AH.le.up | (with_reducible refine AH.le.put hw ?_ ?_; · first | omega | (simp only [up_nx, put_nx, kill_nx]; done) | (simp only [up_nx, put_nx, kill_nx]; omega)) | (with_reducible refine AH.le.kill hw ?_ ?_; · first | omega | (simp only [up_nx, put_nx, kill_nx]; done) | (simp only [up_nx, put_nx, kill_nx]; omega)))) (fun j hj hq => ?_) ?_ rfl ?_
              · have hjn : j ≠ K + 20 * (h - 1) + 18 := fun e => hq h (by rw [e])
                simp (disch := first | omega | simp) [put_get_ne, kill_get_ne, hjn]; exact hXo j hj
              · simp (disch := first | omega | simp) [put_get_ne, kill_get_ne, hXr]
              · have e5 : H6.nx + 5 = K + 20 * h + 5 := by omega
                rw [put_get, e5, List.take_of_length_le (by simp), List.range_succ, List.map_append]; rfl
        · have hhe : h = n := by omega
          rw [hhe] at hM
          simp (disch := first | omega | simp) [iv, hlenN, hhe]
          unfold S_wordhoardlaw_HeadsMore_C1
          obtain ⟨hv, hvr⟩ := hM.v1 (by omega)
          subst hv
          have hle6 := hM.le
          have hnx6 := hM.nx
          have hsl : (subS w (d : Int) s).length = n := by simp [subS, hN]
          have hok2 : ScOk n (subS w (d : Int) s) := subS_ok hok (by omega) (by omega) fun r hr => by
            obtain ⟨k, hk⟩ := List.getElem?_of_mem hr
            exact hM.low k r (by have := (List.getElem?_eq_some_iff.1 hk).1; omega) hk
          have hsc2 : ScAt H6 (.osl (K + 20 * (n - 1) + 18) 1 0 n) (subS w (d : Int) s) := by
            have := ScAt.own (s := subS w (d : Int) s) (ids := fun k => K + 20 * k + 5) (m := n - 1) (t := 24) (H := H6) (r := K + 20 * (n - 1) + 18) (by rw [hsl]; exact hvr) fun k l hl => by
              unfold subS at hl
              rw [List.getElem?_map] at hl
              cases hk : s[k]? with
              | none => rw [hk] at hl; cases hl
              | some r =>
                rw [hk] at hl
                have hl' : subR w (d : Int) r = l := Option.some.inj hl
                subst hl'
                exact ⟨by rw [subR_len]; exact hok.2.2.2.1 r (List.mem_of_getElem? hk), 3, hM.rows k r (by have := (List.getElem?_eq_some_iff.1 hk).1; omega) hk⟩
            rw [hsl] at this; exact this
          refine ca_of (by kernel_rfl) (c_Best hsc2) ?_
          rintro r7 H7 ⟨e7, hB2⟩
          subst e7
          have hck2 := chk_of hok2
          rcases hB2 with ⟨h, _⟩ | ⟨_, u2, rfl, hT2, hmax2⟩
          · exact absurd hck2 h
          rw [hsl] at hT2 hmax2 ⊢
          obtain ⟨m1, m2⟩ := more_sub (x := w + 1) (d := (d : Int)) ⟨by omega, by omega⟩ hT hT2 hmax hmax2 fun h v hh v0 vn => subS_sco hok hh v0 vn
          have hbd := wtK_abs (M := 1000000) hT.1 hrng (n - 1) (Nat.le_refl _)
          have hbw : Wt n (sco s) u = wtK (sco s) u (n - 1) := rfl
          have hwd : IntKind.i64.wrap (Wt n (sco s) u - (d : Int)) = Wt n (sco s) u - (d : Int) := by rw [IntKind.wrap_i64]; omega
          rw [m1]
          simp (disch := first | omega | simp) [iv, hwd]
          refine ca_pure (by kernel_rfl) (c_HangWorth (ScAt.dsl s) hok (.dsl _) hT2.1) ?_
          rw [m2]
          have hwl : w < n - 1 := by omega
          have hyn := hT.1 (w + 1) (by omega) (by omega)
          have huo := iE_at (lst_at (u := u) hwl)
          generalize hy : u (w + 1) = y at huo hyn
          obtain ⟨r, hr⟩ : ∃ r, s[y]? = some r := ⟨_, List.getElem?_eq_getElem (by omega)⟩
          have hrl : r.length = n - 1 := hok.2.2.2.1 r (List.mem_of_getElem? hr)
          obtain ⟨x, hx⟩ : ∃ x, r[w]? = some x := ⟨_, List.getElem?_eq_getElem (by omega)⟩
          have hxr := hok.2.2.2.2 r (List.mem_of_getElem? hr) x (List.mem_of_getElem? hx)
          have hsx : (subR w (d : Int) r)[w]? = some (x - (d : Int)) := by rw [subR_at hx, if_pos rfl]
          have hso := iE_at hsx
          have hsg : ∀ h, (iE (subR w (d : Int) r))[w]'h = [iv (x - (d : Int))] := fun h => (List.getElem?_eq_some_iff.1 hso).2
          have hrow := hM.rows y r hyn hr
          have hcell : ((List.range n).map fun k => [AV.osl (K + 20 * k + 5) 1 0 (n - 1)])[y]? = some [.osl (K + 20 * y + 5) 1 0 (n - 1)] := by simp [hyn]
          have hadd : IntKind.i64.wrap (x - (d : Int) + (d : Int)) = x := by rw [IntKind.wrap_i64]; omega
          simp only [iv] at huo hso hsg
          simp (disch := first | omega | simp) [iv, bv, iE_len, lst_len, hwl, huo, hvr, hyn, hcell, hrow, subR_len, hrl, hso, hsg, hadd, put_get_ne]
          have hwx : IntKind.i64.wrap x = x := by rw [IntKind.wrap_i64]; omega
          rw [hwx]
          have hset : (iE (subR w (d : Int) r)).set w [AV.p (.int .i64 x)] = iE ((subR w (d : Int) r).set w x) := by rw [iE, iE, List.map_set]; rfl
          rw [hset]
          generalize hY : AH.put _ _ _ = Y
          have hYl : H5.le Y := by rw [← hY]; exact (by repeat (first | with_reducible assumption | with_reducible exact AH.le.refl _ | with_reducible apply AH.le.up | (with_reducible refine AH.le.put hw ?_ ?_; · first | omega | (simp only [up_nx, put_nx, kill_nx]; done) | (simp only [up_nx, put_nx, kill_nx]; omega)) | (with_reducible refine AH.le.kill hw ?_ ?_; · first | omega | (simp only [up_nx, put_nx, kill_nx]; done) | (simp only [up_nx, put_nx, kill_nx]; omega))))
          have hsy : (subS w (d : Int) s)[y]? = some (subR w (d : Int) r) := by unfold subS; rw [List.getElem?_map, hr]; rfl
          have hgy : (subS w (d : Int) s).getD y [] = subR w (d : Int) r := by rw [List.getD_eq_getElem?_getD, hsy]; rfl
          have hgw : (subR w (d : Int) r).getD w 0 + (d : Int) = x := by rw [List.getD_eq_getElem?_getD, hsx]; simp
          have hadd2 : addS y w (d : Int) (subS w (d : Int) s) = (subS w (d : Int) s).set y ((subR w (d : Int) r).set w x) := by unfold addS; rw [hgy, hgw]
          have hok3 : ScOk n (addS y w (d : Int) (subS w (d : Int) s)) := addS_ok hok2 hyn hwl (by rw [hgy, hgw]; exact hxr)
          have hsl3 : (addS y w (d : Int) (subS w (d : Int) s)).length = n := hok3.1
          have hsc3 : ScAt Y (.osl (K + 20 * (n - 1) + 18) 1 0 n) (addS y w (d : Int) (subS w (d : Int) s)) := by
            have := ScAt.own (s := addS y w (d : Int) (subS w (d : Int) s)) (ids := fun k => K + 20 * k + 5) (m := n - 1) (t := 24) (H := Y) (r := K + 20 * (n - 1) + 18) (by rw [hsl3, ← hY, AH.get_put_ne (by omega)]; exact hvr) fun k l hl => by
              have hkn : k < n := by have := (List.getElem?_eq_some_iff.1 hl).1; omega
              refine ⟨hok3.2.2.2.1 l (List.mem_of_getElem? hl), 3, ?_⟩
              rw [hadd2] at hl
              by_cases e : k = y
              · subst e
                rw [List.getElem?_set_self (by omega)] at hl
                have hl' := Option.some.inj hl
                rw [← hY, put_get, hl']
              · rw [List.getElem?_set_ne (fun c => e c.symm)] at hl
                unfold subS at hl
                rw [List.getElem?_map] at hl
                cases hk : s[k]? with
                | none => rw [hk] at hl; cases hl
                | some q =>
                  rw [hk] at hl
                  have hl' : subR w (d : Int) q = l := Option.some.inj hl
                  rw [← hl', ← hY, AH.get_put_ne (by omega)]
                  exact hM.rows k q hkn hk
            rw [hsl3] at this; exact this
          refine ca_of (by kernel_rfl) (c_Best hsc3) ?_
          rintro r8 H8 ⟨e8, hB3⟩
          subst e8
          rcases hB3 with ⟨h, _⟩ | ⟨_, u3, rfl, hT3, hmax3⟩
          · exact absurd (chk_of hok3) h
          rw [hsl3] at hT3 hmax3 ⊢
          have m3 := more_add (x := w + 1) (d := (d : Int)) (by omega) ⟨by omega, by omega⟩ hT hT2 hT3 hmax hmax2 hmax3 (fun h v hh v0 vn => subS_sco hok hh v0 vn) (fun h v hh v0 vn => by rw [hy]; exact addS_sco hok2 hyn hwl hh v0 vn)
          rw [m3]
          simp (disch := first | omega | simp) [iv]
          exact rt_one hw hYl (by repeat (first | exact Cl.p _ | exact Cl.dsl _ _ | exact Cl.any | refine Cl.tup ?_ | refine Cl.agg ?_ | exact Clo.nil | refine Clo.cons ?_ ?_)) ⟨rfl, rfl⟩
  · rcases hB with ⟨_, rfl⟩ | ⟨h, _⟩
    · simp (disch := first | omega | simp) [iv]
      refine ca_of (by kernel_rfl) (c_BestFlat hsc) ?_
      rintro r2 H2 ⟨e2, hF⟩
      subst e2
      rcases hF with ⟨_, rfl⟩ | ⟨h, _⟩
      · simp (disch := first | omega | simp) [iv]
        refine ca_of (by kernel_rfl) (c_One hsc) ?_
        rintro r3 H3 ⟨e3, hO⟩
        subst e3
        rcases hO with ⟨_, rfl⟩ | ⟨h, _⟩ | ⟨h, _⟩
        · simp (disch := first | omega | simp) [iv, hc]
          exact rt_refl ⟨rfl, rfl⟩ (Nat.le_refl _)
        · exact absurd h hc
        · exact absurd h hc
      · exact absurd h hc
    · exact absurd h hc)
theorem w_HeadsMore (s : List (List Int)) (at_ by_ : Int) (hat : I64 at_) (hby : I64 by_) (H : AH) : Tri Try.prog 3 [.dsl 1 (s.map fun r => [.dsl 1 (r.map fun x => [.p (.int .i64 x)])]), .p (.int .i64 at_), .p (.int .i64 by_)] H (fun v _ => v = .p (.bool true)) := (c_HeadsMore s at_ by_ hat hby H).mono fun v H' h => h.2
end Go.Proofs.Ytaepnmnoofigjaa

/- Readings of what comes in. -/
namespace Go.Proofs.Ytaepnmnoofigjaa
open Go.RowKit Go.Maps Go.ChangeShapes Go.WideShapes
theorem opens_nums : Opens Try.prog 24 (rList rInt) := opens_slice Try.underlying24 rfl (by decide) (opens_int Try.underlying3)
theorem opens_rows : Opens Try.prog 22 (rList (rList rInt)) := opens_slice Try.underlying22 rfl (by decide) opens_nums
theorem avs_row : AvsG (rList rInt) (List.map id) (fun zs => [.dsl 1 (zs.map fun i => [.p (.int .i64 i)])]) (fun zs => ∀ z ∈ zs, I64 z) := avs_int.list (by decide)
end Go.Proofs.Ytaepnmnoofigjaa

/- Lists that are trees, flat ones. -/
namespace Go.Proofs.Ytaepnmnoofigjaa
/-- on whom a word hangs, as a number -/
def uOf (up : List Int) (v : Nat) : Nat := (hgs up (v : Int)).toNat
theorem uOf_lst {n v : Nat} {u : Nat → Nat} (h0 : 0 < v) (hn : v < n) : uOf (lst n u) v = u v := by
  unfold uOf; rw [lst_hgs h0 hn]; exact Int.toNat_natCast _
theorem TreeF.congr {n : Nat} {u u' : Nat → Nat} (h : TreeF n u) (hu : ∀ v, 0 < v → v < n → u' v = u v) : TreeF n u' := by
  obtain ⟨h1, r, hr⟩ := h
  exact ⟨fun v v0 vn => by rw [hu v v0 vn]; exact h1 v v0 vn, r, fun v v0 vn => by rw [hu v v0 vn]; exact hr v v0 vn⟩
theorem dsc_congr {n : Nat} {u u' : Nat → Nat} (h1 : ∀ v, 0 < v → v < n → u v < n) (hu : ∀ v, 0 < v → v < n → u' v = u v) {a b : Nat} (h : Dsc Pos u a b) : a < n → Dsc Pos u' a b := by
  induction h with
  | refl v => exact fun _ => .refl v
  | step hv _ ih => exact fun hn => .step hv (by rw [hu _ hv hn]; exact ih (h1 _ hv hn))
theorem FlatT.congr {n : Nat} {u u' : Nat → Nat} (h : FlatT n u) (hu : ∀ v, 0 < v → v < n → u' v = u v) : FlatT n u' := by
  obtain ⟨ht, hf⟩ := h
  refine ⟨ht.congr hu, fun v v0 vn k hk => ?_⟩
  rw [hu v v0 vn] at hk ⊢
  have := ht.1 v v0 vn
  exact dsc_congr ht.1 hu (hf v v0 vn k hk) (by omega)
theorem tree_list {up : List Int} (h : treeB up = true) : TreeF (up.length + 1) (uOf up) ∧ up = lst (up.length + 1) (uOf up) := by
  obtain ⟨u, hT, he⟩ := treeB_to h
  have hu : ∀ v, 0 < v → v < up.length + 1 → uOf up v = u v := fun v v0 vn => by
    have := uOf_lst (u := u) v0 vn
    rwa [← he] at this
  refine ⟨hT.congr hu, ?_⟩
  have : lst (up.length + 1) (uOf up) = lst (up.length + 1) u := by
    unfold lst
    refine List.map_congr_left fun i hi => ?_
    rw [List.mem_range] at hi
    rw [hu (i + 1) (by omega) (by omega)]
  rw [this]; exact he
/-- a list is a flat tree -/
def FL (up : List Int) : Prop := treeB up = true ∧ FlatT (up.length + 1) (uOf up)
theorem FL.lst {n : Nat} {u : Nat → Nat} (hn : 1 ≤ n) (h : FlatT n u) : FL (lst n u) := by
  have e : (Go.Proofs.Ytaepnmnoofigjaa.lst n u).length + 1 = n := by rw [lst_len]; omega
  refine ⟨treeB_of (by omega) h.1, ?_⟩
  rw [e]
  exact h.congr fun v v0 vn => uOf_lst v0 vn
theorem bool_iff {a b : Bool} {p : Prop} (h1 : a = true ↔ p) (h2 : b = true ↔ p) : a = b := by
  cases a <;> cases b <;> simp_all
theorem dsc_zero {u : Nat → Nat} {h : Nat} (k : Dsc Pos u 0 h) : h = 0 := by
  cases k with
  | refl => rfl
  | step hv _ => exact absurd hv (Nat.lt_irrefl 0)
theorem dsc_next {u : Nat → Nat} {a h : Nat} (h0 : 0 < a) (hne : a ≠ h) : Dsc Pos u a h ↔ Dsc Pos u (u a) h := ⟨fun k => k.up hne, fun k => .step h0 k⟩
/-- a flat tree, word by word -/
theorem flat_iff {n : Nat} {u : Nat → Nat} (hT : TreeF n u) : FlatT n u ↔ ∀ v, 0 < v → v < n → ∀ k, (v < k ∧ k < u v ∨ u v < k ∧ k < v) → Dsc Pos u k (u v) := ⟨fun h => h.2, fun h => ⟨hT, h⟩⟩
end Go.Proofs.Ytaepnmnoofigjaa

/- Ways up, flat trees: both texts. -/
namespace Go.Proofs.Ytaepnmnoofigjaa
open Go.RowKit Go.Maps
/-- a truth -/
def BB (p : Prop) (v : AV) : Prop := ∃ q, v = bv q ∧ (q = true ↔ p)
theorem c_under {H : AH} {b : AV} {n : Nat} {u : Nat → Nat} (hb : UpAt H b (lst n u)) (hT : TreeF n u) (hn : n ≤ 1000000001) (a h : Nat) (ha : a < n) : Tri Try.prog 29 [b, iv (a : Int), iv (h : Int)] H (fun v H' => H' = H ∧ BB (Dsc Pos u a h) v) := tri_wf fun hw => tri_heads_under (by
  obtain ⟨hu, r, hr⟩ := hT
  unfold S_heads_under
  refine loop_st (fun x : Nat => [iv x]) (fun x H' => H = H' ∧ x < n ∧ (Dsc Pos u a h ↔ Dsc Pos u x h)) (fun x => r x) a (.refl (Nat.le_refl _)) ⟨rfl, ha, Iff.rfl⟩ ?_
  rintro x _ hn1 ⟨rfl, hx, hi⟩ k hk
  unfold S_heads_under_L1
  by_cases e : x = h
  · have e1 : (x = h) = True := eq_true e
    have e2 : ((x : Int) = (h : Int)) = True := eq_true (by omega)
    simp (disch := first | omega | simp) [iv, bv, e1, e2]
    exact rt_refl ⟨rfl, true, rfl, by rw [hi, e]; exact ⟨fun _ => .refl _, fun _ => rfl⟩⟩ (Nat.le_refl _)
  · have e1 : (x = h) = False := eq_false e
    have e2 : ((x : Int) = (h : Int)) = False := eq_false (by omega)
    by_cases z : x = 0
    · have z1 : (x = 0) = True := eq_true z
      have z2 : ((x : Int) = 0) = True := eq_true (by omega)
      simp (disch := first | omega | simp) [iv, bv, e1, e2, z1, z2]
      refine rt_refl ⟨rfl, false, rfl, ⟨(fun c => by cases c), fun c => ?_⟩⟩ (Nat.le_refl _)
      rw [hi, z] at c
      exact absurd (dsc_zero c) (by omega)
    · have z1 : (x = 0) = False := eq_false z
      have z2 : ((x : Int) = 0) = False := eq_false (by omega)
      obtain ⟨q, q1, q3⟩ := hb.acc (lst_at (n := n) (u := u) (i := x - 1) (by omega))
      have hx1 : IntKind.i64.wrap ((x : Int) - 1) = ((x - 1 : Nat) : Int) := by rw [IntKind.wrap_i64]; omega
      rw [show x - 1 + 1 = x by omega] at q3
      simp (disch := first | omega | simp) [iv, bv, e1, e2, z1, z2, hx1, q1, q3]
      exact hk (u x) _ _ _ (.refl (Nat.le_refl _)) ⟨rfl, hu x (by omega) hx, hi.trans (dsc_next (by omega) e)⟩ (hr x (by omega) hx))
theorem c_hangs {H : AH} {b : AV} {n : Nat} {u : Nat → Nat} (hb : UpAt H b (lst n u)) (hT : TreeF n u) (hn : n ≤ 1000000001) (a h : Nat) (ha : a < n) : Tri Try.prog 30 [b, iv (a : Int), iv (h : Int)] H (fun v H' => H' = H ∧ BB (Dsc Pos u a h) v) := tri_wf fun hw => tri_wordhoardref_hangs (by
  obtain ⟨hu, r, hr⟩ := hT
  unfold S_wordhoardref_hangs
  refine loop_st (fun x : Nat => [iv x]) (fun x H' => H = H' ∧ x < n ∧ (Dsc Pos u a h ↔ Dsc Pos u x h)) (fun x => r x) a (.refl (Nat.le_refl _)) ⟨rfl, ha, Iff.rfl⟩ ?_
  rintro x _ hn1 ⟨rfl, hx, hi⟩ k hk
  unfold S_wordhoardref_hangs_L1
  by_cases z : x = 0
  · have z1 : (x = 0) = True := eq_true z
    have z2 : ((x : Int) = 0) = True := eq_true (by omega)
    by_cases e : x = h
    · have e1 : (x = h) = True := eq_true e
      have e2 : ((x : Int) = (h : Int)) = True := eq_true (by omega)
      simp (disch := first | omega | simp) [iv, bv, e1, e2, z1, z2]
      exact rt_refl ⟨rfl, true, rfl, by rw [hi, e]; exact ⟨fun _ => .refl _, fun _ => rfl⟩⟩ (Nat.le_refl _)
    · have e1 : (x = h) = False := eq_false e
      have e2 : ((x : Int) = (h : Int)) = False := eq_false (by omega)
      simp (disch := first | omega | simp) [iv, bv, e1, e2, z1, z2]
      refine rt_refl ⟨rfl, false, rfl, ⟨(fun c => by cases c), fun c => ?_⟩⟩ (Nat.le_refl _)
      rw [hi, z] at c
      exact absurd (dsc_zero c) (by omega)
  · have z1 : (x = 0) = False := eq_false z
    have z2 : ((x : Int) = 0) = False := eq_false (by omega)
    by_cases e : x = h
    · have e1 : (x = h) = True := eq_true e
      have e2 : ((x : Int) = (h : Int)) = True := eq_true (by omega)
      simp (disch := first | omega | simp) [iv, bv, e1, e2, z1, z2]
      exact rt_refl ⟨rfl, true, rfl, by rw [hi, e]; exact ⟨fun _ => .refl _, fun _ => rfl⟩⟩ (Nat.le_refl _)
    · have e1 : (x = h) = False := eq_false e
      have e2 : ((x : Int) = (h : Int)) = False := eq_false (by omega)
      obtain ⟨q, q1, q3⟩ := hb.acc (lst_at (n := n) (u := u) (i := x - 1) (by omega))
      have hx1 : IntKind.i64.wrap ((x : Int) - 1) = ((x - 1 : Nat) : Int) := by rw [IntKind.wrap_i64]; omega
      rw [show x - 1 + 1 = x by omega] at q3
      simp (disch := first | omega | simp) [iv, bv, e1, e2, z1, z2, hx1, q1, q3]
      exact hk (u x) _ _ _ (.refl (Nat.le_refl _)) ⟨rfl, hu x (by omega) hx, hi.trans (dsc_next (by omega) e)⟩ (hr x (by omega) hx))
set_option maxHeartbeats 2000000 in
theorem c_HangTree {H : AH} {b : AV} {up : List Int} (hb : UpAt H b up) (hl : up.length ≤ 1000000000) : Tri Try.prog 14 [b] H (fun v H' => H' = H ∧ v = bv (treeB up)) := tri_wf fun hw => tri_wordhoardref_HangTree (by
  unfold S_wordhoardref_HangTree
  refine loop_st (H0 := H) (fun i : Nat => [iv ((i + 1 : Nat) : Int)]) (fun i H' => H = H' ∧ i ≤ up.length ∧ ∀ j, j < i → clm up (up.length + 1) ((j : Int) + 1) = true) (fun i => up.length - i) 0 (.refl (Nat.le_refl _)) ⟨rfl, Nat.zero_le _, fun j hj => absurd hj (Nat.not_lt_zero _)⟩ ?_
  rintro i _ _ ⟨rfl, hi, hall⟩ k hk
  unfold S_wordhoardref_HangTree_L2
  have hnext2 := ivn (i := i + 1) (by omega)
  obtain ⟨i1, hi1⟩ : ∃ i1, i1 = i + 1 := ⟨_, rfl⟩
  rw [← hi1] at hnext2
  by_cases h : i < up.length
  · have hle : i1 ≤ up.length := by omega
    have hnext : clm up (up.length + 1) ((i : Int) + 1) = true → ∀ j, j < i + 1 → clm up (up.length + 1) ((j : Int) + 1) = true := fun h j hj => by
      by_cases e : j = i
      · subst e; exact h
      · exact hall j (by omega)
    rw [← hi1]
    simp [iv, hle, hb.len]
    refine loop_st (fun x : Int × Nat => [iv x.1, iv x.2]) (fun x H' => H = H' ∧ x.2 ≤ up.length + 1 ∧ clm up (up.length + 1) ((i : Int) + 1) = clm up (up.length + 1 - x.2) x.1) (fun x => up.length + 1 - x.2) ((i1 : Int), 0) (.refl (Nat.le_refl _)) ⟨rfl, Nat.zero_le _, by rw [hi1]; rfl⟩ ?_
    rintro ⟨at_, m⟩ _ _ ⟨rfl, hm, hc⟩ k2 hk2
    dsimp only at hm hc hk2
    unfold S_wordhoardref_HangTree_L1
    by_cases h0 : at_ = 0
    · subst h0
      rw [clm_zero] at hc
      simp [iv]
      rw [hnext2]
      exact hk (i + 1) _ _ _ (by rw [hi1]; exact .refl (Nat.le_refl _)) ⟨rfl, h, hnext hc⟩ (by omega)
    have hret : clm up (up.length + 1 - m) at_ = false → Rt Try.prog H.nx (.p (.bool false)) (fun v H' => H' = H ∧ v = bv (treeB up)) H := fun hf => by
      rw [hf] at hc
      exact rt_refl ⟨rfl, by rw [treeB_bad h hc]; rfl⟩ (Nat.le_refl _)
    by_cases h1 : at_ < 0
    · simp [iv, h0, h1, hb.len]
      exact hret (clm_bad h0 (.inl h1))
    by_cases h2 : at_ > (up.length : Int)
    · have h2' : (up.length : Int) < at_ := h2
      simp [iv, h0, h1, h2', hb.len]
      exact hret (clm_bad h0 (.inr h2))
    have h2' : ¬ (up.length : Int) < at_ := h2
    by_cases h3 : m = up.length + 1
    · subst h3
      have h3' : (up.length : Int) < (up.length : Int) + 1 := by omega
      simp [iv, h0, h1, h2', h3', hb.len]
      exact hret (by rw [Nat.sub_self]; exact clm_none h0)
    obtain ⟨j, hj⟩ : ∃ j : Nat, at_ = ((j + 1 : Nat) : Int) := ⟨(at_ - 1).toNat, by omega⟩
    subst hj
    obtain ⟨x, hx⟩ : ∃ x, up[j]? = some x := ⟨_, List.getElem?_eq_getElem (by omega)⟩
    obtain ⟨q, q1, q3⟩ := hb.acc hx
    have h3' : ¬ (up.length : Int) < (m : Int) := by omega
    have hsub : IntKind.i64.wrap (((j + 1 : Nat) : Int) - 1) = (j : Int) := by rw [IntKind.wrap_i64]; omega
    have hf : up.length + 1 - m = (up.length + 1 - (m + 1)) + 1 := by omega
    rw [hf, clm_next hx] at hc
    generalize hJ : ((j + 1 : Nat) : Int) = J at *
    simp [iv, h0, h1, h2', h3', hb.len, hsub, q1, q3]
    rw [ivn (by omega)]
    exact hk2 (x, m + 1) _ _ _ (.refl (Nat.le_refl _)) ⟨rfl, by omega, hc⟩ (by dsimp only; omega)
  · have hle : ¬ i1 ≤ up.length := by omega
    rw [← hi1]
    simp [iv, hle, hb.len]
    exact rt_refl ⟨rfl, by rw [treeB_done fun j hj => hall j (by omega)]; rfl⟩ (Nat.le_refl _))
end Go.Proofs.Ytaepnmnoofigjaa

/- Flat trees: both texts. -/
namespace Go.Proofs.Ytaepnmnoofigjaa
open Go.RowKit Go.Maps
theorem BB.no {p : Prop} (h : ¬ p) : BB p (.p (.bool false)) := ⟨false, rfl, (fun c => by cases c), fun c => absurd c h⟩
theorem BB.yes {p : Prop} (h : p) : BB p (.p (.bool true)) := ⟨true, rfl, (fun _ => h), fun _ => rfl⟩
/-- so far all is flat -/
def FlTo (u : Nat → Nat) (i : Nat) : Prop := ∀ v, 0 < v → v ≤ i → ∀ k, (v < k ∧ k < u v ∨ u v < k ∧ k < v) → Dsc Pos u k (u v)
set_option maxHeartbeats 4000000 in
theorem c_Flat {H : AH} {b : AV} {up : List Int} (hb : UpAt H b up) (hl : up.length ≤ 1000000000) : Tri Try.prog 15 [b] H (fun v H' => H' = H ∧ BB (FL up) v) := tri_wf fun hw => tri_heads_Flat (by
  unfold S_heads_Flat
  refine ca_pure (by kernel_rfl) (c_Tree hb hl) ?_
  cases ht : treeB up with
  | false =>
    simp (disch := first | omega | simp) [bv]
    exact rt_refl ⟨rfl, BB.no fun c => by rw [c.1] at ht; cases ht⟩ (Nat.le_refl _)
  | true =>
    obtain ⟨hT, he⟩ := tree_list ht
    have hFL : FlatT (up.length + 1) (uOf up) → FL up := fun h => ⟨ht, h⟩
    have hLF : FL up → FlatT (up.length + 1) (uOf up) := fun h => h.2
    generalize hQ : FL up = Q at *
    generalize hN : up.length + 1 = n at *
    generalize uOf up = u at *
    subst he
    simp (disch := first | omega | simp) [bv, hb.len, lst_len]
    refine loop_st (H0 := H) (fun i : Nat => [iv i]) (fun i H' => H = H' ∧ i ≤ n - 1 ∧ FlTo u i) (fun i => n - 1 - i) 0 (.refl (Nat.le_refl _)) ⟨rfl, Nat.zero_le _, fun v h1 h2 => by omega⟩ ?_
    rintro i _ _ ⟨rfl, hi, hfl⟩ k hk
    unfold S_heads_Flat_L2
    by_cases hil : i < n - 1
    · obtain ⟨q, q1, q3⟩ := hb.acc (lst_at (u := u) hil)
      have hun := hT.1 (i + 1) (by omega) (by omega)
      have hi1 := ivn (i := i) (by omega)
      obtain ⟨w, hw1⟩ : ∃ w, w = i + 1 := ⟨_, rfl⟩
      rw [← hw1] at q3 hun hi1
      generalize hy : u w = y at *
      simp (disch := first | omega | simp) [iv, hil, q1, q3, hi1]
      have hne : y ≠ w := fun e => by
        obtain ⟨_, r, hr⟩ := hT
        have := hr w (by omega) (by omega)
        rw [hy, e] at this; omega
      obtain ⟨mn, hmn⟩ : ∃ mn, mn = if y < w then y else w := ⟨_, rfl⟩
      obtain ⟨mx, hmx⟩ : ∃ mx, mx = if y < w then w else y := ⟨_, rfl⟩
      have hb0 : mn < mx ∧ mx < n ∧ ∀ k, (w < k ∧ k < y ∨ y < k ∧ k < w) ↔ (mn < k ∧ k < mx) := by
        rw [hmn, hmx]
        by_cases c : y < w
        · rw [if_pos c, if_pos c]; exact ⟨c, by omega, fun k => by omega⟩
        · rw [if_neg c, if_neg c]; exact ⟨by omega, by omega, fun k => by omega⟩
      obtain ⟨m1, m2, m3⟩ := hb0
      have hk0 : IntKind.i64.wrap ((if y < w then (y : Int) else (w : Int)) + 1) = ((mn + 1 : Nat) : Int) := by
        rw [hmn, IntKind.wrap_i64]; split <;> omega
      rw [hk0]
      refine loop_st (H0 := H) (fun x : Nat => [iv x]) (fun x H' => H = H' ∧ mn < x ∧ x ≤ mx ∧ ∀ x', mn < x' → x' < x → Dsc Pos u x' y) (fun x => mx - x) (mn + 1) (.refl (Nat.le_refl _)) ⟨rfl, by omega, by omega, fun x' h1 h2 => by omega⟩ ?_
      rintro x _ _ ⟨rfl, hx1, hx2, hall⟩ k2 hk2
      unfold S_heads_Flat_L1
      have hmxI : (if w < y then (y : Int) else (w : Int)) = (mx : Int) := by rw [hmx]; split <;> split <;> omega
      by_cases hxl : x < mx
      · have hx1' := ivn (i := x) (by omega)
        simp (disch := first | omega | simp) [iv, hmxI, hxl]
        refine ca_of (by kernel_rfl) (c_under hb hT (by omega) x y (by omega)) ?_
        rintro v2 H2 ⟨e2, qq, rfl, hqq⟩
        subst e2
        cases qq with
        | false =>
          simp (disch := first | omega | simp) [bv]
          refine rt_refl ⟨rfl, BB.no fun c => ?_⟩ (Nat.le_refl _)
          have h1 := (hLF c).2 w (by omega) (by omega) x (by rw [hy]; exact (m3 x).2 ⟨hx1, hxl⟩)
          rw [hy] at h1
          exact absurd (hqq.2 h1) (by decide)
        | true =>
          simp (disch := first | omega | simp) [bv, hx1']
          refine hk2 (x + 1) _ _ _ (.refl (Nat.le_refl _)) ⟨rfl, by omega, hxl, fun x' h1 h2 => ?_⟩ (by omega)
          by_cases e : x' = x
          · subst e; exact hqq.1 rfl
          · exact hall x' h1 (by omega)
      · simp (disch := first | omega | simp) [iv, hmxI, hxl, hi1]
        refine hk (i + 1) _ _ _ (by rw [hw1]; exact .refl (Nat.le_refl _)) ⟨rfl, hil, fun v h1 h2 k' hk' => ?_⟩ (by omega)
        by_cases e : v = w
        · subst e
          rw [hy] at hk' ⊢
          obtain ⟨a1, a2⟩ := (m3 k').1 hk'
          exact hall k' a1 (by omega)
        · exact hfl v h1 (by omega) k' hk'
    · have hie : i = n - 1 := by omega
      subst hie
      simp (disch := first | omega | simp) [iv]
      exact rt_refl ⟨rfl, BB.yes (hFL ⟨hT, fun v h1 h2 k' hk' => hfl v h1 (by omega) k' hk'⟩)⟩ (Nat.le_refl _))
set_option maxHeartbeats 4000000 in
theorem c_HangFlat {H : AH} {b : AV} {up : List Int} (hb : UpAt H b up) (hl : up.length ≤ 1000000000) : Tri Try.prog 16 [b] H (fun v H' => H' = H ∧ BB (FL up) v) := tri_wf fun hw => tri_wordhoardref_HangFlat (by
  unfold S_wordhoardref_HangFlat
  refine ca_pure (by kernel_rfl) (c_HangTree hb hl) ?_
  cases ht : treeB up with
  | false =>
    simp (disch := first | omega | simp) [bv]
    exact rt_refl ⟨rfl, BB.no fun c => by rw [c.1] at ht; cases ht⟩ (Nat.le_refl _)
  | true =>
    obtain ⟨hT, he⟩ := tree_list ht
    have hFL : FlatT (up.length + 1) (uOf up) → FL up := fun h => ⟨ht, h⟩
    have hLF : FL up → FlatT (up.length + 1) (uOf up) := fun h => h.2
    generalize hQ : FL up = Q at *
    generalize hN : up.length + 1 = n at *
    generalize uOf up = u at *
    subst he
    rw [lst_len] at hN hl
    simp (disch := first | omega | simp) [bv]
    refine loop_st (H0 := H) (fun w : Nat => [iv w]) (fun w H' => H = H' ∧ 1 ≤ w ∧ w ≤ n ∧ FlTo u (w - 1)) (fun w => n - w) 1 (.refl (Nat.le_refl _)) ⟨rfl, Nat.le_refl _, by omega, fun v h1 h2 => by omega⟩ ?_
    rintro w _ _ ⟨rfl, hw0, hwn, hfl⟩ k hk
    unfold S_wordhoardref_HangFlat_L3
    by_cases hwl : w < n
    · have hwl' : w ≤ n - 1 := by omega
      obtain ⟨q, q1, q3⟩ := hb.acc (lst_at (u := u) (i := w - 1) (by omega : w - 1 < n - 1))
      rw [show w - 1 + 1 = w by omega] at q3
      have hun := hT.1 w (by omega) hwl
      have hws : IntKind.i64.wrap ((w : Int) - 1) = ((w - 1 : Nat) : Int) := by rw [IntKind.wrap_i64]; omega
      have hw1 := ivn (i := w) (by omega)
      generalize hy : u w = y at *
      simp (disch := first | omega | simp) [iv, hb.len, lst_len, hwl', hws, q1, q3]
      refine loop_st (H0 := H) (fun x : Nat => [iv x]) (fun x H' => H = H' ∧ 1 ≤ x ∧ x ≤ n ∧ ∀ x', 1 ≤ x' → x' < x → (w < x' ∧ x' < y ∨ y < x' ∧ x' < w) → Dsc Pos u x' y) (fun x => n - x) 1 (.refl (Nat.le_refl _)) ⟨rfl, Nat.le_refl _, by omega, fun x' h1 h2 => by omega⟩ ?_
      rintro x _ _ ⟨rfl, hx1, hxn, hall⟩ k2 hk2
      unfold S_wordhoardref_HangFlat_L2
      by_cases hxl : x < n
      · have hxl' : x ≤ n - 1 := by omega
        have hx1' := ivn (i := x) (by omega)
        have next : ((w < x ∧ x < y ∨ y < x ∧ x < w) → Dsc Pos u x y) → k2 [iv ((x + 1 : Nat) : Int)] H := fun h => by
          refine hk2 (x + 1) _ _ _ (.refl (Nat.le_refl _)) ⟨rfl, by omega, hxl, fun x' h1 h2 h3 => ?_⟩ (by omega)
          by_cases e : x' = x
          · subst e; exact h h3
          · exact hall x' h1 (by omega) h3
        simp (disch := first | omega | simp) [iv, hb.len, lst_len, hxl']
        unfold S_wordhoardref_HangFlat_C1
        by_cases hbt : w < x ∧ x < y ∨ y < x ∧ x < w
        · have key : ∀ kk : AV → AH → Prop, (∀ qq : Bool, (qq = true ↔ Dsc Pos u x y) → kk (bv qq) H) → Ca Try.prog (.fn (.func 30) [] []) [b, iv x, iv y] kk H := fun kk hkk => by
            refine ca_of (by kernel_rfl) (c_hangs hb hT (by omega) x y hxl) ?_
            rintro v2 H2 ⟨e2, qq, rfl, hqq⟩
            subst e2
            exact hkk qq hqq
          have stop : ¬ Dsc Pos u x y → Rt Try.prog H.nx (.p (.bool false)) (fun v H' => H' = H ∧ BB Q v) H := fun hno => by
            refine rt_refl ⟨rfl, BB.no fun c => ?_⟩ (Nat.le_refl _)
            have h1 := (hLF c).2 w (by omega) (by omega) x (by rw [hy]; exact hbt)
            rw [hy] at h1
            exact hno h1
          rcases hbt with ⟨b1, b2⟩ | ⟨b1, b2⟩
          · simp (disch := first | omega | simp) [iv, b1, b2]
            refine key _ fun qq hqq => ?_
            cases qq with
            | false =>
              simp (disch := first | omega | simp) [bv]
              exact stop fun c => absurd (hqq.2 c) (by decide)
            | true =>
              simp (disch := first | omega | simp) [bv, hx1']
              exact next fun _ => hqq.1 rfl
          · have b3 : ¬ w < x := by omega
            simp (disch := first | omega | simp) [iv, b1, b2, b3]
            refine key _ fun qq hqq => ?_
            cases qq with
            | false =>
              simp (disch := first | omega | simp) [bv]
              exact stop fun c => absurd (hqq.2 c) (by decide)
            | true =>
              simp (disch := first | omega | simp) [bv, hx1']
              exact next fun _ => hqq.1 rfl
        · have hn := next fun h => absurd h hbt
          by_cases b1 : w < x
          · have b2 : ¬ x < y := fun c => hbt (.inl ⟨b1, c⟩)
            by_cases b3 : y < x
            · have b4 : ¬ x < w := by omega
              simp (disch := first | omega | simp) [iv, b1, b2, b3, b4, hx1']
              exact hn
            · simp (disch := first | omega | simp) [iv, b1, b2, b3, hx1']
              exact hn
          · by_cases b3 : y < x
            · have b4 : ¬ x < w := fun c => hbt (.inr ⟨b3, c⟩)
              simp (disch := first | omega | simp) [iv, b1, b3, b4, hx1']
              exact hn
            · simp (disch := first | omega | simp) [iv, b1, b3, hx1']
              exact hn
      · have hxl' : ¬ x ≤ n - 1 := by omega
        simp (disch := first | omega | simp) [iv, hb.len, lst_len, hxl', hw1]
        refine hk (w + 1) _ _ _ (.refl (Nat.le_refl _)) ⟨rfl, by omega, hwl, fun v h1 h2 k' hk' => ?_⟩ (by omega)
        by_cases e : v = w
        · subst e
          rw [hy] at hk' ⊢
          exact hall k' (by omega) (by omega) hk'
        · exact hfl v h1 (by omega) k' hk'
    · have hwe : w = n := by omega
      subst hwe
      have hwl' : ¬ w ≤ w - 1 := by omega
      simp (disch := first | omega | simp) [iv, hb.len, lst_len, hwl']
      exact rt_refl ⟨rfl, BB.yes (hFL ⟨hT, fun v h1 h2 k' hk' => hfl v h1 (by omega) k' hk'⟩)⟩ (Nat.le_refl _))
end Go.Proofs.Ytaepnmnoofigjaa
