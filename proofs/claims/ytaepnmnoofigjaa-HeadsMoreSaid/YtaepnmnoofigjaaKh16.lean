/- The law HeadsMore holds: whatever comes in, the call returns true and its arguments read as they did. No condition. -/
import Derived.Test.YtaepnmnoofigjaaKh15
import Derived.JoinedOf
import Derived.JoinedAt

/- The best flat tree. -/
namespace Go.Proofs.Ytaepnmnoofigjaa
open Go.RowKit Go.Maps
/-- where the tables lie -/
def oidE (K n t : Nat) : Nat := K + t * (8 * n + 5) + 2
def idsE (K n t i : Nat) : Nat := K + t * (8 * n + 5) + 10 + 8 * i
theorem mul_step {t t' c : Nat} (h : t < t') : t * c + c ≤ t' * c := by
  have := Nat.mul_le_mul_right c (Nat.succ_le_of_lt h)
  rwa [Nat.succ_mul] at this
theorem eisId {B : AH} {X uid K n : Nat} (hX : B.nx ≤ X) (hu : B.nx ≤ uid) (hXK : X < K) (huK : uid < K) (hne : uid ≠ X) : EisId B X (oidE K n) (idsE K n) uid n := by
  refine ⟨hX, fun t _ => by unfold oidE; omega, fun t i _ _ => by unfold idsE; omega, hu, fun t i t' i' _ hi _ hi' e => ?_, fun t i _ _ => by unfold idsE; omega, fun t i t' _ hi _ e => ?_, fun t i _ _ => by unfold idsE; omega, hne, fun t _ => by unfold oidE; omega⟩
  · unfold idsE at e
    rcases Nat.lt_trichotomy t t' with q | q | q
    · have := mul_step (c := 8 * n + 5) q; omega
    · subst q; exact ⟨rfl, by omega⟩
    · have := mul_step (c := 8 * n + 5) q; omega
  · unfold idsE oidE at e
    rcases Nat.lt_trichotomy t t' with q | q | q
    · have := mul_step (c := 8 * n + 5) q; omega
    · subst q; omega
    · have := mul_step (c := 8 * n + 5) q; omega
/-- an outer row that is made so far -/
def pR (f : Nat → Nat) (n i : Nat) : List (List AV) := (List.range n).map fun k => [if k < i then .osl (f k) 2 0 n else .p (.slice none 0 0)]
theorem pR_len (f : Nat → Nat) (n i : Nat) : (pR f n i).length = n := by simp [pR]
theorem pR_zero (f : Nat → Nat) (n : Nat) : pR f n 0 = List.replicate n [.p (.slice none 0 0)] := by
  refine List.ext_getElem (by simp [pR]) fun i h1 h2 => by simp [pR]
theorem pR_all (f : Nat → Nat) (n : Nat) : pR f n n = oR f n := by
  refine List.ext_getElem (by simp [pR, oR]) fun i h1 h2 => ?_
  rw [pR_len] at h1
  simp [pR, oR, h1]
theorem pR_el {f : Nat → Nat} {n i : Nat} (h : i < (pR f n i).length) : (pR f n i)[i] = [.p (.slice none 0 0)] := by simp [pR]
theorem pR_get {f : Nat → Nat} {n i : Nat} (h : i < n) : (pR f n i)[i]? = some [.p (.slice none 0 0)] := by simp [pR, h]
theorem pR_set {f : Nat → Nat} {n i : Nat} (h : i < n) : (pR f n i).set i [.osl (f i) 2 0 n] = pR f n (i + 1) := by
  refine List.ext_getElem (by simp [pR]) fun k h1 h2 => ?_
  rw [List.getElem_set]
  simp only [pR, List.getElem_map, List.getElem_range]
  by_cases e : i = k
  · subst e; simp
  · rw [if_neg e]
    by_cases q : k < i
    · rw [if_pos q, if_pos (by omega)]
    · rw [if_neg q, if_neg (by omega)]
theorem tR_zero (n : Nat) : List.replicate n [AV.p (.int .i64 0), AV.p (.int .i64 0)] = tR (fun _ => (0, 0)) n := by
  refine List.ext_getElem (by simp [tR]) fun i h1 h2 => by simp [tR]
/-- what BestFlat says -/
def FlatRes (s : List (List Int)) (r : AV) : Prop := (chk s ≠ 0 ∧ r = .tup [.dsl 1 [], iv 0, iv (chk s)]) ∨ (chk s = 0 ∧ ∃ u, r = .tup [.dsl 1 (iE (lst s.length u)), iv (Wt s.length (sco s) u), iv 0] ∧ FlatT s.length u ∧ ∀ u', FlatT s.length u' → Wt s.length (sco s) u' ≤ Wt s.length (sco s) u)
/-- while the tables are made: so many are whole -/
structure Mk (B H : AH) (X : Nat) (a : AV) (K uid n t : Nat) : Prop where
  le : B.le H
  box : H.get X = some (.box 42 [a, if 0 < t then .osl (oidE K n 0) 1 0 n else .p (.slice none 0 0), if 1 < t then .osl (oidE K n 1) 1 0 n else .p (.slice none 0 0), if 2 < t then .osl (oidE K n 2) 1 0 n else .p (.slice none 0 0), if 3 < t then .osl (oidE K n 3) 1 0 n else .p (.slice none 0 0), .osl uid 1 0 (n - 1)])
  ups : H.get uid = some (.row 3 1 (iE (lst n (fun _ => 0))))
  ptr : H.get (K - 3) = some (.row 43 1 [[.ptr X 1], [.ptr X 2], [.ptr X 3], [.ptr X 4]])
structure MkT (H : AH) (K n t : Nat) : Prop where
  out : ∀ t', t' < t → H.get (oidE K n t') = some (.row 45 1 (oR (idsE K n t') n))
  inn : ∀ t' i, t' < t → i < n → H.get (idsE K n t' i) = some (.row 56 2 (tR (fun _ => (0, 0)) n))
theorem MkT.mono {H H' : AH} {K n t : Nat} (h : MkT H K n t) (hk : ∀ id, id < K + t * (8 * n + 5) → H'.get id = H.get id) : MkT H' K n t := by
  refine ⟨fun t' ht => ?_, fun t' i ht hi => ?_⟩
  · have := mul_step (c := 8 * n + 5) ht
    rw [hk _ (by unfold oidE; omega)]; exact h.out t' ht
  · have := mul_step (c := 8 * n + 5) ht
    rw [hk _ (by unfold idsE; omega)]; exact h.inn t' i ht hi
theorem Mk.mono {B H H' : AH} {X K uid n t : Nat} {a : AV} (h : Mk B H X a K uid n t) (hw : WF B) (hB : B.nx ≤ K) (hX : X < K) (hu : uid < K) (h3 : 3 ≤ K) (hk : ∀ id, id < K → H'.get id = H.get id) : Mk B H' X a K uid n t :=
  ⟨fun i o ho => by rw [hk i (Nat.lt_of_lt_of_le (hw i o ho).1 hB)]; exact h.le i o ho, by rw [hk X hX]; exact h.box, by rw [hk uid hu]; exact h.ups, by rw [hk (K - 3) (by omega)]; exact h.ptr⟩
theorem el_nag {H : AH} {sz : Nat} {a : AV} {es : List (List AV)} (h : elF H sz a = some es) : ∀ ds, a ≠ .agg ds := fun ds e => by
  subst e; simp [elF] at h
set_option maxHeartbeats 8000000 in
theorem c_BestFlat {H : AH} {a : AV} {s : List (List Int)} (ha : ScAt H a s) : Tri Try.prog 7 [a] H (fun r H' => H' = H ∧ FlatRes s r) := tri_wf fun hw => tri_heads_BestFlat (by
  have hml : maxLen = 9223372036854775807 := by decide
  unfold S_heads_BestFlat
  obtain ⟨hp1, hp2⟩ := ha.part
  refine ca_pure (by kernel_rfl) (c_Check ha) ?_
  by_cases hc : chk s = 0
  · have hok := ScOk.of hc
    have h13 := hok.2.2.1
    have h1 := hok.2.1
    have hrng := hok.rng
    have hlenN := ha.len
    generalize hN : s.length = n at *
    have hsub : IntKind.i64.wrap ((n : Int) - 1) = ((n - 1 : Nat) : Int) := by rw [IntKind.wrap_i64]; omega
    simp (disch := first | omega | simp) [iv, hc, hlenN, hsub, put_get_ne, hp1, hp2]
    have hag : ∀ ds, a ≠ .agg ds := by obtain ⟨bs, h, _⟩ := ha; exact el_nag h
    refine ⟨by omega, by omega, ?_⟩
    split
    · rename_i ds; exact absurd rfl (hag ds)
    simp (disch := first | omega | simp)
    have hz0 : List.replicate (n - 1) [AV.p (.int .i64 0)] = iE (lst n (fun _ => 0)) := by
      refine List.ext_getElem (by simp [iE, lst]) fun i h1 h2 => by simp [iE, lst, iv]
    rw [hz0]
    obtain ⟨K, hK⟩ : ∃ K, K = H.nx + 22 := ⟨_, rfl⟩
    generalize hM : AH.put (AH.up _ _) (H.nx + 7 + 12) _ = M
    have hMk : Mk H M (H.nx + 5) a K (H.nx + 3) n 0 := by
      rw [← hM]
      exact ⟨(by repeat (first | with_reducible assumption | with_reducible exact AH.le.refl _ | with_reducible apply AH.le.up | (with_reducible refine AH.le.put hw ?_ ?_; · first | omega | (simp only [up_nx, put_nx, kill_nx]; done) | (simp only [up_nx, put_nx, kill_nx]; omega)) | (with_reducible refine AH.le.kill hw ?_ ?_; · first | omega | (simp only [up_nx, put_nx, kill_nx]; done) | (simp only [up_nx, put_nx, kill_nx]; omega)))), by simp (disch := first | omega | simp) [put_get_ne], by simp (disch := first | omega | simp) [put_get_ne], by rw [hK]; simp (disch := first | omega | simp) [put_get_ne]⟩
    have hMn : M.nx = K := by rw [← hM, hK]; rfl
    have hid := eisId (B := H) (X := H.nx + 5) (uid := H.nx + 3) (K := K) (n := n) (by omega) (by omega) (by omega) (by omega) (by omega)
    generalize hX : H.nx + 5 = X at *
    generalize hU : H.nx + 3 = uid at *
    have hK3 : H.nx + 7 + 12 = K - 3 := by omega
    have hBK : H.nx ≤ K := by omega
    have hXK : X < K := by omega
    have hUK : uid < K := by omega
    have hK0 : 3 ≤ K := by omega
    have hXU : X ≠ uid := by omega
    have hXB : H.nx ≤ X := by omega
    have hXp : X ≠ K - 3 := by omega
    rw [hK3]
    refine loop_wf (H0 := M) (fun t : Nat => [iv t]) (fun t H' => Mk H H' X a K uid n t ∧ MkT H' K n t ∧ H'.nx = K + t * (8 * n + 5) ∧ t ≤ 4) (fun t => 4 - t) 0 (.refl (Nat.le_refl _)) ⟨hMk, ⟨fun t' h => absurd h (Nat.not_lt_zero _), fun t' i h => absurd h (Nat.not_lt_zero _)⟩, by omega, Nat.zero_le _⟩ ?_
    rintro t H1 hn1 hw1 ⟨hm, hmt, hnx, ht⟩ k hk
    by_cases ht4 : t < 4
    · have step : ∀ M1 : AH, Mk H M1 X a K uid n (t + 1) → MkT M1 K n t → M1.nx = K + t * (8 * n + 5) + 5 → M1.get (oidE K n t) = some (.row 45 1 (pR (idsE K n t) n 0)) →
          LoopA Try.prog 1 (S_heads_BestFlat_L1 (iv n) k [iv t] (.ptr X (t + 1)) (iv n)) [iv 0] M1 := by
        intro M1 hm1 hmt1 hnx1 hr1
        have hn0 : H1.nx ≤ M1.nx := by omega
        refine loop_wf (H0 := M1) (fun i : Nat => [iv i]) (fun i H' => Mk H H' X a K uid n (t + 1) ∧ MkT H' K n t ∧ H'.nx = K + t * (8 * n + 5) + 5 + 8 * i ∧ i ≤ n ∧ H'.get (oidE K n t) = some (.row 45 1 (pR (idsE K n t) n i)) ∧ ∀ i', i' < i → H'.get (idsE K n t i') = some (.row 56 2 (tR (fun _ => (0, 0)) n))) (fun i => n - i) 0 (.refl (Nat.le_refl _)) ⟨hm1, hmt1, by omega, Nat.zero_le _, hr1, fun i' h => absurd h (Nat.not_lt_zero _)⟩ ?_
        rintro i H2 hn2 hw2 ⟨hm2, hmt2, hnx2, hin, hr2, hz2⟩ k2 hk2
        unfold S_heads_BestFlat_L1
        by_cases hil : i < n
        · have hi1 := ivn (i := i) (by omega)
          have hb2 := hm2.box
          have hidx : H2.nx + 5 = idsE K n t i := by unfold idsE; omega
          have hor : oidE K n t ≠ idsE K n t i := by unfold oidE idsE; omega
          have hOX : oidE K n t ≠ X := by unfold oidE; omega
          have fin : ∀ H3 : AH, H3 = ((H2.up 8).put (idsE K n t i) (.row 56 2 (tR (fun _ => (0, 0)) n))).put (oidE K n t) (.row 45 1 (pR (idsE K n t) n (i + 1))) → k2 [iv ((i : Int) + 1)] H3 := by
            intro H3 h3
            have hfr : ∀ id, id < K + t * (8 * n + 5) → H3.get id = H2.get id := fun id hid => by
              rw [h3, AH.get_put_ne (by unfold oidE; omega), AH.get_put_ne (by unfold idsE; omega)]; rfl
            have hfk : ∀ id, id < K → H3.get id = H2.get id := fun id hid => hfr id (by omega)
            have h3n : H3.nx = H2.nx + 8 := by rw [h3]; rfl
            have := hk2 (i + 1) H3 _ _ (.refl (by omega)) ⟨hm2.mono hw hBK hXK hUK hK0 hfk, hmt2.mono hfr, by omega, hil, by rw [h3, put_get], fun i' hi' => ?_⟩ (by omega)
            · exact this
            · rw [h3, AH.get_put_ne (by unfold oidE idsE; omega)]
              by_cases e : i' = i
              · subst e; rw [put_get]
              · rw [AH.get_put_ne (by unfold idsE; omega)]
                exact hz2 i' (by omega)
          have ht4' : t = 0 ∨ t = 1 ∨ t = 2 ∨ t = 3 := by omega
          rcases ht4' with rfl | rfl | rfl | rfl
          all_goals
            simp (disch := first | omega | simp) [iv, hil, hb2, put_get_ne, hr2, pR_len, pR_get, pR_el, hidx, hor, tR_zero]
            refine ⟨by omega, by omega, ?_⟩
            rw [pR_set hil, hi1]
            exact fin _ rfl
        · have hie : i = n := by omega
          subst hie
          simp (disch := first | omega | simp) [iv]
          rw [ivn (by omega)]
          refine hk (t + 1) H2 _ _ (.refl (by omega)) ⟨hm2, ⟨fun t' ht' => ?_, fun t' i' ht' hi' => ?_⟩, by rw [Nat.succ_mul]; omega, by omega⟩ (by omega)
          · by_cases e : t' = t
            · subst e; rw [hr2, pR_all]
            · exact hmt2.out t' (by omega)
          · by_cases e : t' = t
            · subst e; exact hz2 i' hi'
            · exact hmt2.inn t' i' (by omega) hi'
      unfold S_heads_BestFlat_L4
      have hb1 := hm.box
      have hpt := hm.ptr
      have hup := hm.ups
      have hle1 := hm.le
      have hO : H1.nx + 2 = oidE K n t := by unfold oidE; omega
      have hpz : List.replicate n [AV.p (.slice none 0 0)] = pR (idsE K n t) n 0 := (pR_zero _ _).symm
      have hOX : oidE K n t ≠ X := by unfold oidE; omega
      have hOU : oidE K n t ≠ uid := by unfold oidE; omega
      have hOP : oidE K n t ≠ K - 3 := by unfold oidE; omega
      have hOB : H.nx ≤ oidE K n t := by unfold oidE; omega
      have hmt3 : ∀ v w : AO, MkT (((H1.up 5).put (oidE K n t) v).put X w) K n t := fun v w => by
        refine ⟨fun t' ht' => ?_, fun t' i ht' hi => ?_⟩
        · have := mul_step (c := 8 * n + 5) ht'
          rw [AH.get_put_ne (by unfold oidE; omega), AH.get_put_ne (by unfold oidE; omega)]; exact hmt.out t' ht'
        · have := mul_step (c := 8 * n + 5) ht'
          rw [AH.get_put_ne (by unfold idsE; omega), AH.get_put_ne (by unfold oidE idsE; omega)]; exact hmt.inn t' i ht' hi
      have ht4' : t = 0 ∨ t = 1 ∨ t = 2 ∨ t = 3 := by omega
      rcases ht4' with rfl | rfl | rfl | rfl
      all_goals
        simp (disch := first | omega | simp) [iv, hb1, hpt, put_get_ne]
        refine ⟨by omega, by omega, ?_⟩
        rw [hO, hpz]
        refine step _ ⟨(by repeat (first | with_reducible assumption | with_reducible exact AH.le.refl _ | with_reducible apply AH.le.up | (with_reducible refine AH.le.put hw ?_ ?_; · first | omega | (simp only [up_nx, put_nx, kill_nx]; done) | (simp only [up_nx, put_nx, kill_nx]; omega)) | (with_reducible refine AH.le.kill hw ?_ ?_; · first | omega | (simp only [up_nx, put_nx, kill_nx]; done) | (simp only [up_nx, put_nx, kill_nx]; omega)))), ?_, ?_, ?_⟩ (hmt3 _ _) ?_ ?_
        · rw [put_get]; rfl
        · simp (disch := first | omega | simp) [put_get_ne, hup]
        · simp (disch := first | omega | simp) [put_get_ne, hpt]
        · simp only [put_nx, up_nx]; omega
        · simp (disch := first | omega | simp) [put_get_ne]
    have hte : t = 4 := by omega
    subst hte
    have hb1 := hm.box
    unfold S_heads_BestFlat_L4
    have hle1 := hm.le
    have hB1 : H.nx ≤ H1.nx := by omega
    have hE1 : EisAt H H1 X a (oidE K n) (idsE K n) uid n (fun _ _ _ => (0, 0)) (fun _ => 0) := ⟨hle1, hB1, hb1, hmt.out, hmt.inn, hm.ups⟩
    simp (disch := first | omega | simp) [iv]
    refine loop_wf (H0 := H1) (fun x : Nat × Tb => [iv x.1]) (fun x H' => EisAt H H' X a (oidE K n) (idsE K n) uid n x.2 (fun _ => 0) ∧ H1.nx ≤ H'.nx ∧ 1 ≤ x.1 ∧ x.1 ≤ n ∧ Sz (sco s) x.2 n x.1 0) (fun x => n - x.1) (1, fun _ _ _ => (0, 0)) (.refl (Nat.le_refl _)) ⟨hE1, Nat.le_refl _, Nat.le_refl _, h1, Sz.start _ _⟩ ?_
    rintro ⟨sz, T⟩ H2 hn2 hw2 ⟨hE2, hnx2, hz1, hzn, hS2⟩ k2 hk2
    dsimp only at hE2 hz1 hzn hS2 hk2
    unfold S_heads_BestFlat_L3
    by_cases hzl : sz < n
    · have hs1 := ivn (i := sz) (by omega)
      simp (disch := first | omega | simp) [iv, hzl]
      refine loop_wf (H0 := H2) (fun x : Nat × Tb => [iv x.1]) (fun x H' => EisAt H H' X a (oidE K n) (idsE K n) uid n x.2 (fun _ => 0) ∧ H2.nx ≤ H'.nx ∧ x.1 + sz ≤ n ∧ Sz (sco s) x.2 n sz x.1) (fun x => n - x.1) (0, T) (.refl (Nat.le_refl _)) ⟨hE2, Nat.le_refl _, by dsimp only; omega, hS2⟩ ?_
      rintro ⟨i, T3⟩ H3 hn3 hw3 ⟨hE3, hnx3, hin3, hS3⟩ k3 hk3
      dsimp only at hE3 hin3 hS3 hk3
      unfold S_heads_BestFlat_L2
      have hadd : IntKind.i64.wrap ((i : Int) + (sz : Int)) = ((i + sz : Nat) : Int) := by rw [IntKind.wrap_i64]; omega
      obtain ⟨j, hj⟩ : ∃ j, j = i + sz := ⟨_, rfl⟩
      rw [← hj] at hadd
      by_cases hjl : j < n
      · have hi1 := ivn (i := i) (by omega)
        simp (disch := first | omega | simp) [iv, hadd, hjl]
        have hpre := hS3.pre (by omega) (by omega) h13
        rw [← hj] at hpre
        refine ca_of (by kernel_rfl) (c_fill hw hid hok ha hpre hE3) ?_
        rintro r4 H4 ⟨hnx4, V, hDn, hBd, hE4⟩
        simp
        rw [hi1]
        refine hk3 (i + 1, upT T3 i j V) H4 _ _ (.refl (by omega)) ⟨hE4, by omega, by dsimp only; omega, ?_⟩ (by dsimp only; omega)
        rw [hj] at hDn hBd ⊢
        exact hS3.next (by omega) (by omega) hDn hBd
      · simp (disch := first | omega | simp) [iv, hadd, hjl]
        rw [hs1]
        exact hk2 (sz + 1, T3) H3 _ _ (.refl (by omega)) ⟨hE3, by omega, by dsimp only; omega, hzl, hS3.more (by omega)⟩ (by dsimp only; omega)
    · have hze : sz = n := by omega
      subst hze
      simp (disch := first | omega | simp) [iv, hsub]
      have hdg := hS2.dg
      have hDa : ∀ i j, i < j → j < sz → Dn (sco s) T i j := fun i j hij hj => (hS2.dn i j hij hj (.inl (by omega))).1
      have htk := (c_take (s := sco s) hw hid h13 hdg hDa (2 * sz + 2) 0 (sz - 1) false (fun _ => 0) H2 (by simp; omega) (Nat.zero_le _) (by omega) (fun h => by cases h) hE2).1
      refine ca_of (by kernel_rfl) htk ?_
      rintro r5 H5 ⟨u, hE5, hnx5, hP⟩
      have hb5 := hE5.box
      have hup5 : UpAt H5 (.osl uid 1 0 (sz - 1)) (lst sz u) := by
        rw [UpAt, elF_osl, hE5.ups, elRow_row _ _ _ _ _ (by rw [iE_len, lst_len]; omega), List.drop_zero, List.take_of_length_le (by rw [iE_len, lst_len]; omega)]
      have hflat : FlatT sz u := hP.pc.flat
      simp (disch := first | omega | simp) [iv, hb5]
      refine cav_pure (by kernel_rfl) (fun H6 hle6 => c_worth (ha.le (hE5.le.trans hle6)) hok (hup5.le hle6) hflat.1.1) ?_
      have hgr : Grows 3 1 H H5 (.osl uid 1 0 (sz - 1)) (iE (lst sz u)) := .row (by omega) (by omega) hE5.ups (dt_iE _) (by rw [iE_len, lst_len])
      subst hN
      refine hgr.rt_in hw hE5.le (by omega) hw (.refl _) (Nat.le_refl _) (fun H2 h => .tup (.cons h (.refl _))) (by repeat (first | exact Cl.p _ | exact Cl.dsl _ _ | exact Cl.any | refine Cl.tup ?_ | refine Cl.agg ?_ | exact Clo.nil | refine Clo.cons ?_ ?_)) ⟨rfl, .inr ⟨hc, u, rfl, hflat, fun u' hu' => ?_⟩⟩
      rw [post0_worth hP]
      exact flat_best h1 hdg hDa hu'
  · simp (disch := first | omega | simp) [iv, hc]
    exact rt_sub (v' := .tup [.dsl 1 [], iv 0, iv (chk s)]) hw (.refl _) (Nat.le_refl _) (.tup (.cons (.nil _ _ (Nat.zero_le _)) (.cons (.refl _) (.cons (.refl _) .nil)))) (by repeat (first | exact Cl.p _ | exact Cl.dsl _ _ | exact Cl.any | refine Cl.tup ?_ | refine Cl.agg ?_ | exact Clo.nil | refine Clo.cons ?_ ?_)) ⟨rfl, .inl ⟨hc, rfl⟩⟩)
end Go.Proofs.Ytaepnmnoofigjaa

/- What must be in any case. -/
namespace Go.Proofs.Ytaepnmnoofigjaa
open Go.RowKit Go.Maps
theorem c_Same {H : AH} {a b : AV} {l : List Int} (ha : UpAt H a l) (hb : UpAt H b l) (hl : l.length ≤ 1000000000) : Tri Try.prog 20 [a, b] H (fun v H' => H' = H ∧ v = bv true) := tri_wf fun hw => tri_wordhoardref_Same (by
  unfold S_wordhoardref_Same
  simp [ha.len, hb.len, iv]
  refine loop_st (fun i : Nat => [iv i]) (fun i H' => H = H' ∧ i ≤ l.length) (fun i => l.length - i) 0 (.refl (Nat.le_refl _)) ⟨rfl, Nat.zero_le _⟩ ?_
  rintro i _ hn ⟨rfl, hi⟩ k hk
  unfold S_wordhoardref_Same_L1
  by_cases hil : i < l.length
  · obtain ⟨x, hx⟩ : ∃ x, l[i]? = some x := ⟨_, List.getElem?_eq_getElem hil⟩
    obtain ⟨q, q1, q3⟩ := ha.acc hx
    obtain ⟨z, z1, z3⟩ := hb.acc hx
    have hiv := ivn (i := i) (by omega)
    simp (disch := first | omega | simp) [ha.len, iv, hil, q1, q3, z1, z3, hiv]
    exact hk (i + 1) _ _ _ (.refl (Nat.le_refl _)) ⟨rfl, hil⟩ (by omega)
  · have : i = l.length := by omega
    subst this
    simp (disch := first | omega | simp) [ha.len, iv]
    exact rt_refl ⟨rfl, rfl⟩ (Nat.le_refl _))
theorem c_choose (c n : Int) (hc : I64 c) (hn : 0 < n) (hn2 : n ≤ 1000000) (H : AH) : Tri Try.prog 9 [iv c, iv n] H (fun v H' => H' = H ∧ ∃ w : Nat, v = iv (w : Int) ∧ (w : Int) < n) := tri_wf fun hw => tri_wordhoardlaw_choose (by
  unfold S_wordhoardlaw_choose
  have hn0 : ¬ n = 0 := by omega
  obtain ⟨h1, h2⟩ := hc
  by_cases h : c < 0
  · have e1 : IntKind.i64.wrap (c + 1) = c + 1 := by rw [IntKind.wrap_i64]; omega
    have e2 : IntKind.i64.wrap (-(c + 1)) = -(c + 1) := by rw [IntKind.wrap_i64]; omega
    have a1 := Int.tmod_nonneg (a := -(c + 1)) n (by omega)
    have a2 := Int.tmod_lt_of_pos (-(c + 1)) hn
    have e3 : IntKind.i64.wrap ((-(c + 1)).tmod n) = (-(c + 1)).tmod n := by rw [IntKind.wrap_i64]; omega
    simp (disch := first | omega | simp) [iv, h, e1, e2, hn0, e3]
    rw [Int.neg_tmod] at a1 a2
    obtain ⟨m, hm⟩ : ∃ m : Nat, -((c + 1).tmod n) = (m : Int) := ⟨(-((c + 1).tmod n)).toNat, by omega⟩
    rw [hm] at a2 ⊢
    exact rt_refl ⟨rfl, m, rfl, a2⟩ (Nat.le_refl _)
  · have a1 := Int.tmod_nonneg (a := c) n (by omega)
    have a2 := Int.tmod_lt_of_pos c hn
    have e3 : IntKind.i64.wrap (c.tmod n) = c.tmod n := by rw [IntKind.wrap_i64]; omega
    simp (disch := first | omega | simp) [iv, h, hn0, e3]
    obtain ⟨m, hm⟩ : ∃ m : Nat, c.tmod n = (m : Int) := ⟨(c.tmod n).toNat, by omega⟩
    rw [hm] at a2 ⊢
    exact rt_refl ⟨rfl, m, rfl, a2⟩ (Nat.le_refl _))
theorem begun_best {u : Nat → Nat} (hT : TreeF 3 u) (hb : ∀ u', TreeF 3 u' → Wt 3 (sco [[1, 5], [0, 9], [3, 0]]) u' ≤ Wt 3 (sco [[1, 5], [0, 9], [3, 0]]) u) : lst 3 u = [0, 1] ∧ Wt 3 (sco [[1, 5], [0, 9], [3, 0]]) u = 10 := by
  have hw : ∀ v : Nat → Nat, Wt 3 (sco [[1, 5], [0, 9], [3, 0]]) v = sco [[1, 5], [0, 9], [3, 0]] (v 1) 1 + (sco [[1, 5], [0, 9], [3, 0]] (v 2) 2 + 0) := fun _ => rfl
  have h0 := hb (fun v => v - 1) ⟨fun v v0 vn => by dsimp only; omega, fun v => v, fun v v0 vn => by dsimp only; omega⟩
  rw [hw, hw] at h0
  have e0 : sco [[1, 5], [0, 9], [3, 0]] ((fun v => v - 1) 1) 1 + (sco [[1, 5], [0, 9], [3, 0]] ((fun v => v - 1) 2) 2 + 0) = 10 := rfl
  rw [e0] at h0
  obtain ⟨h1, r, hr⟩ := hT
  have a1 := h1 1 (by omega) (by omega)
  have a2 := h1 2 (by omega) (by omega)
  have b1 := hr 1 (by omega) (by omega)
  have b2 := hr 2 (by omega) (by omega)
  have c1 : u 1 = 0 ∨ u 1 = 2 := by
    rcases (by omega : u 1 = 0 ∨ u 1 = 1 ∨ u 1 = 2) with h | h | h
    · exact .inl h
    · rw [h] at b1; omega
    · exact .inr h
  have c2 : u 2 = 0 ∨ u 2 = 1 := by
    rcases (by omega : u 2 = 0 ∨ u 2 = 1 ∨ u 2 = 2) with h | h | h
    · exact .inl h
    · exact .inr h
    · rw [h] at b2; omega
  rw [hw]
  have hl : lst 3 u = [(u 1 : Int), (u 2 : Int)] := rfl
  rw [hl]
  rcases c1 with c1 | c1 <;> rcases c2 with c2 | c2
  · rw [c1, c2] at h0
    exact absurd h0 (by decide)
  · rw [c1, c2]; exact ⟨rfl, rfl⟩
  · rw [c1, c2] at h0
    exact absurd h0 (by decide)
  · rw [c1] at b1; rw [c2] at b2; omega
/-- scores in rows of one's own -/
theorem ScAt.own {H : AH} {r m : Nat} {t : TypeId} {ids : Nat → Nat} {s : List (List Int)} (hr : H.get r = some (.row t 1 ((List.range s.length).map fun k => [.osl (ids k) 1 0 m]))) (hk : ∀ (k : Nat) (l : List Int), s[k]? = some l → l.length = m ∧ ∃ t, H.get (ids k) = some (.row t 1 (iE l))) : ScAt H (.osl r 1 0 s.length) s := by
  refine ⟨(List.range s.length).map fun k => .osl (ids k) 1 0 m, ?_, by simp, fun i l hl => ?_⟩
  · rw [elF_osl, hr, elRow_row _ _ _ _ _ (by simp), List.drop_zero, List.take_of_length_le (by simp), List.map_map]; rfl
  · have hi := (List.getElem?_eq_some_iff.1 hl).1
    obtain ⟨h1, t', h2⟩ := hk i l hl
    refine ⟨.osl (ids i) 1 0 m, by simp [hi], ?_⟩
    rw [UpAt, elF_osl, h2, elRow_row _ _ _ _ _ (by rw [iE_len, h1]; omega), List.drop_zero, List.take_of_length_le (by rw [iE_len, h1]; omega)]
theorem c_begun : PF Try.prog 5 [] (bv true) := fun H => tri_wf fun hw => tri_wordhoardlaw_headsBegun (by
  unfold S_wordhoardlaw_headsBegun
  simp (disch := first | omega | simp) [iv, put_get_ne]
  generalize hM : AH.put _ _ _ = M
  have hMl : H.le M := by rw [← hM]; exact (by repeat (first | with_reducible assumption | with_reducible exact AH.le.refl _ | with_reducible apply AH.le.up | (with_reducible refine AH.le.put hw ?_ ?_; · first | omega | (simp only [up_nx, put_nx, kill_nx]; done) | (simp only [up_nx, put_nx, kill_nx]; omega)) | (with_reducible refine AH.le.kill hw ?_ ?_; · first | omega | (simp only [up_nx, put_nx, kill_nx]; done) | (simp only [up_nx, put_nx, kill_nx]; omega))))
  have hMn : M.nx = H.nx + 12 := by rw [← hM]; rfl
  have hsc : ScAt M (.osl (H.nx + 3) 1 0 3) [[1, 5], [0, 9], [3, 0]] := by
    refine ScAt.own (r := H.nx + 3) (m := 2) (t := 24) (ids := fun k => H.nx + k) (s := [[1, 5], [0, 9], [3, 0]]) ?_ fun k l hl => ?_
    · rw [← hM, put_get]; rfl
    · match k with
      | 0 => simp at hl; subst hl; exact ⟨rfl, 3, by rw [← hM]; simp (disch := first | omega | simp) [put_get_ne]; rfl⟩
      | 1 => simp at hl; subst hl; exact ⟨rfl, 3, by rw [← hM]; simp (disch := first | omega | simp) [put_get_ne]; rfl⟩
      | 2 => simp at hl; subst hl; exact ⟨rfl, 3, by rw [← hM]; simp (disch := first | omega | simp) [put_get_ne]; rfl⟩
      | k + 3 => simp at hl
  refine ca_of (by kernel_rfl) (c_Best hsc) ?_
  rintro r H2 ⟨e2, hb⟩
  subst e2
  have hck : chk [[1, 5], [0, 9], [3, 0]] = 0 := by decide
  rcases hb with ⟨h, _⟩ | ⟨_, u, rfl, hT, hmax⟩
  · exact absurd hck h
  obtain ⟨b1, b2⟩ := begun_best hT hmax
  have hl3 : ([[1, 5], [0, 9], [3, 0]] : List (List Int)).length = 3 := rfl
  rw [hl3, b1, b2]
  simp (disch := first | omega | simp) [iv, put_get_ne]
  refine ca_pure (by kernel_rfl) (c_Same (.dsl _) ?_ (by decide)) ?_
  · rw [UpAt, elF_osl, put_get, elRow_row _ _ _ _ _ (by simp)]; rfl
  simp (disch := first | omega | simp) [bv]
  exact rt_one hw (by repeat (first | with_reducible assumption | with_reducible exact AH.le.refl _ | with_reducible apply AH.le.up | (with_reducible refine AH.le.put hw ?_ ?_; · first | omega | (simp only [up_nx, put_nx, kill_nx]; done) | (simp only [up_nx, put_nx, kill_nx]; omega)) | (with_reducible refine AH.le.kill hw ?_ ?_; · first | omega | (simp only [up_nx, put_nx, kill_nx]; done) | (simp only [up_nx, put_nx, kill_nx]; omega)))) (by repeat (first | exact Cl.p _ | exact Cl.dsl _ _ | exact Cl.any | refine Cl.tup ?_ | refine Cl.agg ?_ | exact Clo.nil | refine Clo.cons ?_ ?_)) ⟨rfl, rfl⟩)
end Go.Proofs.Ytaepnmnoofigjaa

/- What HeadsMore says. -/
namespace Go.Proofs.Ytaepnmnoofigjaa
open Go.RowKit Go.Maps
theorem sco_at {s : List (List Int)} {h v : Nat} {r : List Int} {x : Int} (hr : s[h]? = some r) (hx : r[v - 1]? = some x) : sco s h v = x := by
  simp [sco, List.getD_eq_getElem?_getD, hr, hx]
/-- a row of which something is taken -/
def subR (w : Nat) (d : Int) (r : List Int) : List Int := r.set w (r.getD w 0 - d)
def subS (w : Nat) (d : Int) (s : List (List Int)) : List (List Int) := s.map (subR w d)
theorem subR_at {w : Nat} {d : Int} {r : List Int} {i : Nat} {x : Int} (hx : r[i]? = some x) : (subR w d r)[i]? = some (x - if i = w then d else 0) := by
  have hi := (List.getElem?_eq_some_iff.1 hx).1
  unfold subR
  by_cases e : i = w
  · subst e
    rw [List.getElem?_set_self hi, if_pos rfl, List.getD_eq_getElem?_getD, hx]; rfl
  · rw [List.getElem?_set_ne (fun c => e c.symm), if_neg e, hx]; simp
theorem subS_sco {n w : Nat} {d : Int} {s : List (List Int)} (hs : ScOk n s) {h v : Nat} (hh : h < n) (v0 : 0 < v) (vn : v < n) : sco (subS w d s) h v = sco s h v - if v = w + 1 then d else 0 := by
  obtain ⟨r, hr, hx, _⟩ := hs.at_ hh v0 vn
  have h1 : (subS w d s)[h]? = some (subR w d r) := by unfold subS; rw [List.getElem?_map, hr]; rfl
  rw [sco_at h1 (subR_at hx)]
  by_cases e : v = w + 1
  · rw [if_pos e, if_pos (by omega)]
  · rw [if_neg e, if_neg (by omega)]
theorem subR_len (w : Nat) (d : Int) (r : List Int) : (subR w d r).length = r.length := by simp [subR]
theorem subR_mem {w : Nat} {d : Int} {r : List Int} {x : Int} (hx : x ∈ subR w d r) : x ∈ r ∨ x = r.getD w 0 - d := by
  unfold subR at hx
  exact (List.mem_or_eq_of_mem_set hx).imp_right id
theorem chk_of {s : List (List Int)} {n : Nat} (h : ScOk n s) : chk s = 0 := by
  obtain ⟨h1, h2, h3, h4, h5⟩ := h
  refine chk_0 (by omega) (fun r hr => by rw [h4 r hr, h1]) fun r hr => ?_
  rw [List.any_eq_false]
  intro x hx
  have := h5 r hr x hx
  unfold farB
  simp
  omega
theorem getD_mem {r : List Int} {w : Nat} (hw : w < r.length) : r.getD w 0 ∈ r := by
  rw [List.getD_eq_getElem?_getD, List.getElem?_eq_getElem hw]; exact List.getElem_mem hw
theorem subS_ok {n w : Nat} {d : Int} {s : List (List Int)} (hs : ScOk n s) (hw : w < n - 1) (hd : 0 ≤ d) (hlow : ∀ r ∈ s, -1000000 ≤ r.getD w 0 - d) : ScOk n (subS w d s) := by
  obtain ⟨h1, h2, h3, h4, h5⟩ := hs
  refine ⟨by simp [subS, h1], h2, h3, fun r hr => ?_, fun r hr x hx => ?_⟩
  · obtain ⟨q, hq, rfl⟩ := List.mem_map.1 hr
    rw [subR_len]; exact h4 q hq
  · obtain ⟨q, hq, rfl⟩ := List.mem_map.1 hr
    rcases subR_mem hx with hx | hx
    · exact h5 q hq x hx
    · have := hlow q hq
      have := h5 q hq _ (getD_mem (w := w) (by rw [h4 q hq]; exact hw))
      omega
/-- one score is made greater -/
def addS (y w : Nat) (d : Int) (s : List (List Int)) : List (List Int) := s.set y ((s.getD y []).set w ((s.getD y []).getD w 0 + d))
theorem addS_sco {n y w : Nat} {d : Int} {s : List (List Int)} (hs : ScOk n s) (hy : y < n) (hw : w < n - 1) {h v : Nat} (hh : h < n) (v0 : 0 < v) (vn : v < n) : sco (addS y w d s) h v = sco s h v + if h = y ∧ v = w + 1 then d else 0 := by
  obtain ⟨r, hr, hx, _⟩ := hs.at_ hh v0 vn
  have hl := hs.1
  by_cases e : h = y
  · subst e
    have hg : s.getD h [] = r := by rw [List.getD_eq_getElem?_getD, hr]; rfl
    have h1 : (addS h w d s)[h]? = some (r.set w (r.getD w 0 + d)) := by unfold addS; rw [hg, List.getElem?_set_self (by omega)]
    have hi := (List.getElem?_eq_some_iff.1 hx).1
    by_cases e2 : v = w + 1
    · rw [if_pos ⟨rfl, e2⟩]
      refine sco_at h1 ?_
      rw [show v - 1 = w by omega] at hx hi ⊢
      rw [List.getElem?_set_self hi, List.getD_eq_getElem?_getD, hx]; rfl
    · rw [if_neg (fun c => e2 c.2), Int.add_zero]
      refine sco_at h1 ?_
      rw [List.getElem?_set_ne (by omega)]; exact hx
  · rw [if_neg (fun c => e c.1), Int.add_zero]
    refine sco_at (r := r) ?_ hx
    unfold addS; rw [List.getElem?_set_ne (fun c => e c.symm)]; exact hr
theorem addS_ok {n y w : Nat} {d : Int} {s : List (List Int)} (hs : ScOk n s) (hy : y < n) (hw : w < n - 1) (hr : -1000000 ≤ (s.getD y []).getD w 0 + d ∧ (s.getD y []).getD w 0 + d ≤ 1000000) : ScOk n (addS y w d s) := by
  obtain ⟨h1, h2, h3, h4, h5⟩ := hs
  have hm : s.getD y [] ∈ s := by rw [List.getD_eq_getElem?_getD, List.getElem?_eq_getElem (by omega)]; exact List.getElem_mem _
  refine ⟨by simp [addS, h1], h2, h3, fun r hr' => ?_, fun r hr' x hx => ?_⟩
  · rcases List.mem_or_eq_of_mem_set hr' with h | h
    · exact h4 r h
    · rw [h, List.length_set]; exact h4 _ hm
  · rcases List.mem_or_eq_of_mem_set hr' with h | h
    · exact h5 r h x hx
    · rw [h] at hx
      rcases List.mem_or_eq_of_mem_set hx with h' | h'
      · exact h5 _ hm x h'
      · rw [h']; exact hr
end Go.Proofs.Ytaepnmnoofigjaa

/- What HeadsMore says: the walk. -/
namespace Go.Proofs.Ytaepnmnoofigjaa
open Go.RowKit Go.Maps
/-- the rows made so far, and the row of these -/
structure MoreAt (B H : AH) (K n h w : Nat) (d : Int) (s : List (List Int)) (v : AV) : Prop where
  le : B.le H
  nx : H.nx = K + 20 * h
  v0 : h = 0 → v = .p (.slice none 0 0)
  v1 : 0 < h → v = .osl (K + 20 * (h - 1) + 18) 1 0 h ∧ H.get (K + 20 * (h - 1) + 18) = some (.row 24 1 ((List.range h).map fun k => [.osl (K + 20 * k + 5) 1 0 (n - 1)]))
  rows : ∀ k r, k < h → s[k]? = some r → H.get (K + 20 * k + 5) = some (.row 3 1 (iE (subR w d r)))
  low : ∀ k r, k < h → s[k]? = some r → -1000000 ≤ r.getD w 0 - d
set_option maxHeartbeats 8000000 in
theorem c_HeadsMore (s : List (List Int)) (at_ by_ : Int) (hat : I64 at_) (hby : I64 by_) (H : AH) : Tri Try.prog 3 [scA s, iv at_, iv by_] H (fun v H' => H' = H ∧ v = bv true) := tri_wf fun hw => tri_wordhoardlaw_HeadsMore (by
  have hml : maxLen = 9223372036854775807 := by decide
  unfold S_wordhoardlaw_HeadsMore
  refine ca_pure (by kernel_rfl) (c_begun _) ?_
  simp (disch := first | omega | simp) [bv]
  have hsc : ∀ {X : AH}, ScAt X (scA s) s := ScAt.dsl s
  refine ca_of (by kernel_rfl) (c_Best hsc) ?_
  rintro r1 H1 ⟨e1, hB⟩
  subst e1
  by_cases hc : chk s = 0
  · rcases hB with ⟨h, _⟩ | ⟨_, u, rfl, hT, hmax⟩
    · exact absurd hc h
    simp (disch := first | omega | simp) [iv]
    refine ca_of (by kernel_rfl) (c_BestFlat hsc) ?_
    rintro r2 H2 ⟨e2, hF⟩
    subst e2
    rcases hF with ⟨h, _⟩ | ⟨_, uf, rfl, hTf, _⟩
    · exact absurd hc h
    simp (disch := first | omega | simp) [iv]
    refine ca_of (by kernel_rfl) (c_One hsc) ?_
    rintro r3 H3 ⟨e3, hO⟩
    subst e3
    have hok := ScOk.of hc
    have h13 := hok.2.2.1
    have h1 := hok.2.1
    have hrng := hok.rng
    have hlenN := (ScAt.dsl (H := H3) s).len
    have hff := hmax uf hTf.1
    have hsub : IntKind.i64.wrap ((s.length : Int) - 1) = ((s.length - 1 : Nat) : Int) := by rw [IntKind.wrap_i64]; omega
    have hlt : ¬ Wt s.length (sco s) u < Wt s.length (sco s) uf := by omega
    by_cases hn1 : s.length = 1
    · rcases hO with ⟨h, _⟩ | ⟨_, _, rfl⟩ | ⟨_, h, _⟩
      · exact absurd hc h
      · have hw0 : Wt s.length (sco s) u = 0 := by rw [hn1]; rfl
        have hwf : Wt s.length (sco s) uf = 0 := by rw [hn1]; rfl
        simp (disch := first | omega | simp) [iv]
        unfold S_wordhoardlaw_HeadsMore_C3
        rw [hw0, hwf]
        simp (disch := first | omega | simp) [iv, hlenN, hsub, hn1]
        exact rt_refl ⟨rfl, rfl⟩ (Nat.le_refl _)
      · omega
    · rcases hO with ⟨h, _⟩ | ⟨_, h, _⟩ | ⟨_, hn2, uo, rfl, hTo, _, _⟩
      · exact absurd hc h
      · omega
      · have hoo := hmax uo hTo
        have hlo : ¬ Wt s.length (sco s) u < Wt s.length (sco s) uo := by omega
        have hz : ¬ s.length - 1 = 0 := by omega
        have hzi : ¬ ((s.length - 1 : Nat) : Int) = 0 := by omega
        simp (disch := first | omega | simp) [iv]
        unfold S_wordhoardlaw_HeadsMore_C3
        simp (disch := first | omega | simp) [iv, hlenN, hsub, hlt, hlo, hz, hzi]
        generalize hN : s.length = n at *
        refine ca_of (by kernel_rfl) (c_choose at_ ((n - 1 : Nat) : Int) hat (by omega) (by omega) _) ?_
        rintro _ H4 ⟨e4, w, rfl, hwn⟩
        subst e4
        refine ca_of (by kernel_rfl) (c_choose by_ 1000 hby (by omega) (by omega) _) ?_
        rintro _ H5 ⟨e5, d, rfl, hdn⟩
        subst e5
        obtain ⟨K, hK⟩ : ∃ K, K = H5.nx := ⟨_, rfl⟩
        refine loop_wf (H0 := H5) (fun x : AV × Nat => [x.1, iv x.2]) (fun x H' => MoreAt H5 H' K n x.2 w (d : Int) s x.1 ∧ x.2 ≤ n) (fun x => n - x.2) (.p (.slice none 0 0), 0) (.refl (Nat.le_refl _)) ⟨⟨.refl _, by omega, fun _ => rfl, fun h => absurd h (Nat.lt_irrefl _), fun k r h => absurd h (Nat.not_lt_zero _), fun k r h => absurd h (Nat.not_lt_zero _)⟩, Nat.zero_le _⟩ ?_
        rintro ⟨v, h⟩ H6 hn6 hw6 ⟨hM, hhn⟩ k6 hk6
        dsimp only at hM hhn hk6
        unfold S_wordhoardlaw_HeadsMore_L2
        by_cases hhl : h < n
        · obtain ⟨r, hr⟩ : ∃ r, s[h]? = some r := ⟨_, List.getElem?_eq_getElem (by omega)⟩
          have hrl : r.length = n - 1 := hok.2.2.2.1 r (List.mem_of_getElem? hr)
          have hwr : w < r.length := by omega
          obtain ⟨x, hx⟩ : ∃ x, r[w]? = some x := ⟨_, List.getElem?_eq_getElem hwr⟩
          have hxo := iE_at hx
          have hxg : ∀ h, (iE r)[w]'h = [iv x] := fun h => (List.getElem?_eq_some_iff.1 hxo).2
          have hso : (s.map fun r => [AV.dsl 1 (iE r)])[h]? = some [.dsl 1 (iE r)] := by rw [List.getElem?_map, hr]; rfl
          have hxr := hok.2.2.2.2 r (List.mem_of_getElem? hr) x (List.mem_of_getElem? hx)
          have hwd : IntKind.i64.wrap (x - (d : Int)) = x - (d : Int) := by rw [IntKind.wrap_i64]; omega
          simp only [iv] at hxo hxg
          simp (disch := first | omega | simp) [iv, hlenN, hhl]
          simp (disch := first | omega | simp) [iv, scA, hso, hN, hhl, put_get_ne, kill_get_ne, iE_len, hrl, hxo, hxg, hwd]
          have hgd : r.getD w 0 = x := by rw [List.getD_eq_getElem?_getD, hx]; rfl
          have hset : (iE r).set w [AV.p (.int .i64 (x - (d : Int)))] = iE (subR w (d : Int) r) := by unfold subR; rw [hgd, iE, iE, List.map_set]; rfl
          have hsx : (subR w (d : Int) r)[w]? = some (x - (d : Int)) := by rw [subR_at hx, if_pos rfl]
          have hso2 := iE_at hsx
          simp only [iv] at hso2
          refine ⟨by omega, by omega, by omega, ?_⟩
          rw [hset, hso2]
          generalize hX : AH.put (AH.up _ 8) (H6.nx + 5) _ = X
          have hXn : X.nx = H6.nx + 15 := by rw [← hX]; rfl
          have hle6 := hM.le
          have hnx6 := hM.nx
          have hXl : H5.le X := by rw [← hX]; exact (by repeat (first | with_reducible assumption | with_reducible exact AH.le.refl _ | with_reducible apply AH.le.up | (with_reducible refine AH.le.put hw ?_ ?_; · first | omega | (simp only [up_nx, put_nx, kill_nx]; done) | (simp only [up_nx, put_nx, kill_nx]; omega)) | (with_reducible refine AH.le.kill hw ?_ ?_; · first | omega | (simp only [up_nx, put_nx, kill_nx]; done) | (simp only [up_nx, put_nx, kill_nx]; omega))))
          have hXr : X.get (H6.nx + 5) = some (.row 3 1 (iE (subR w (d : Int) r))) := by rw [← hX, put_get]
          have hXo : ∀ j, j < H6.nx → X.get j = H6.get j := fun j hj => by rw [← hX]; simp (disch := first | omega | simp) [put_get_ne, kill_get_ne]
          have hh1 := ivn (i := h) (by omega)
          by_cases hlow : x - (d : Int) < -1000000
          · simp (disch := first | omega | simp) [hlow]
            exact rt_one hw hXl (by repeat (first | exact Cl.p _ | exact Cl.dsl _ _ | exact Cl.any | refine Cl.tup ?_ | refine Cl.agg ?_ | exact Clo.nil | refine Clo.cons ?_ ?_)) ⟨rfl, rfl⟩
          · have hlow2 : -1000000 ≤ x - (d : Int) := by omega
            have fin : ∀ (Y : AH) (vv : AV), Y.nx = K + 20 * (h + 1) → H5.le Y → (∀ j, j < H6.nx → (∀ q, v ≠ .osl j 1 0 q) → Y.get j = H6.get j) → Y.get (H6.nx + 5) = some (.row 3 1 (iE (subR w (d : Int) r))) → vv = .osl (H6.nx + 18) 1 0 (h + 1) → Y.get (H6.nx + 18) = some (.row 24 1 ((List.range (h + 1)).map fun k => [.osl (K + 20 * k + 5) 1 0 (n - 1)])) → k6 [vv, iv ((h : Int) + 1)] Y := by
              intro Y vv hYn hYl hYo hYr hvv hYv
              subst hvv
              have hid : K + 20 * h + 18 = H6.nx + 18 := by omega
              have := hk6 (.osl (H6.nx + 18) 1 0 (h + 1), h + 1) Y _ _ (.refl (by omega)) ⟨⟨hYl, hYn, fun e => by omega, fun _ => ?_, fun k q hk hq => ?_, fun k q hk hq => ?_⟩, hhl⟩ (by dsimp only; omega)
              · exact this
              · simp only [Nat.add_sub_cancel]
                rw [hid]
                exact ⟨rfl, hYv⟩
              · by_cases e : k = h
                · have hqr : r = q := Option.some.inj (hr.symm.trans (by rw [← e]; exact hq))
                  rw [← hqr, show K + 20 * k + 5 = H6.nx + 5 by omega]; exact hYr
                · rw [hYo _ (by omega) fun q hq => ?_]
                  · exact hM.rows k q (by omega) hq
                  · have := (hM.v1 (by omega)).1
                    rw [this] at hq; injection hq with hq; omega
              · by_cases e : k = h
                · have hqr : r = q := Option.some.inj (hr.symm.trans (by rw [← e]; exact hq))
                  rw [← hqr, hgd]; exact hlow2
                · exact hM.low k q (by omega) hq
            by_cases h0 : h = 0
            · have hv := hM.v0 h0
              subst hv
              simp (disch := first | omega | simp) [hlow, put_get_ne]
              refine ⟨by omega, ?_⟩
              have e18 : X.nx + 3 = H6.nx + 18 := by omega
              rw [e18, hh1]
              refine fin _ _ (by simp only [put_nx, up_nx]; omega) (by repeat (first | with_reducible assumption | with_reducible exact AH.le.refl _ | with_reducible apply AH.le.up | (with_reducible refine AH.le.put hw ?_ ?_; · first | omega | (simp only [up_nx, put_nx, kill_nx]; done) | (simp only [up_nx, put_nx, kill_nx]; omega)) | (with_reducible refine AH.le.kill hw ?_ ?_; · first | omega | (simp only [up_nx, put_nx, kill_nx]; done) | (simp only [up_nx, put_nx, kill_nx]; omega)))) (fun j hj _ => ?_) ?_ (by rw [h0]) ?_
              · rw [AH.get_put_ne (by omega), AH.get_put_ne (by omega)]; exact hXo j hj
              · rw [AH.get_put_ne (by omega), AH.get_put_ne (by omega)]; exact hXr
              · have e5 : H6.nx + 5 = K + 20 * 0 + 5 := by omega
                rw [put_get, h0, e5]; rfl
            · obtain ⟨hv, hvr⟩ := hM.v1 (by omega)
              subst hv
              have hvr' := (hXo (K + 20 * (h - 1) + 18) (by omega)).trans hvr
              simp (disch := first | omega | simp) [hlow, put_get_ne, hvr']
              refine ⟨by omega, by omega, ?_⟩
              have e18 : X.nx + 3 = H6.nx + 18 := by omega
              rw [e18, hh1]
              refine fin _ _ (by simp only [put_nx, up_nx, kill_nx]; omega) (by repeat (first | with_reducible assumption | with_reducible exact AH.le.refl _ | with_reducible apply AH.le.up | (with_reducible refine AH.le.put hw ?_ ?_; · first | omega | (simp only [up_nx, put_nx, kill_nx]; done) | (simp only [up_nx, put_nx, kill_nx]; omega)) | (with_reducible refine AH.le.kill hw ?_ ?_; · first | omega | (simp only [up_nx, put_nx, kill_nx]; done) | (simp only [up_nx, put_nx, kill_nx]; omega)))) (fun j hj hq => ?_) ?_ rfl ?_
              · have hjn : j ≠ K + 20 * (h - 1) + 18 := fun e => hq h (by rw [e])
                simp (disch := first | omega | simp) [put_get_ne, kill_get_ne, hjn]; exact hXo j hj
              · simp (disch := first | omega | simp) [put_get_ne, kill_get_ne, hXr]
              · have e5 : H6.nx + 5 = K + 20 * h + 5 := by omega
                rw [put_get, e5, List.take_of_length_le (by simp), List.range_succ, List.map_append]; rfl
        · have hhe : h = n := by omega
          rw [hhe] at hM
          simp (disch := first | omega | simp) [iv, hlenN, hhe]
          unfold S_wordhoardlaw_HeadsMore_C1
          obtain ⟨hv, hvr⟩ := hM.v1 (by omega)
          subst hv
          have hle6 := hM.le
          have hnx6 := hM.nx
          have hsl : (subS w (d : Int) s).length = n := by simp [subS, hN]
          have hok2 : ScOk n (subS w (d : Int) s) := subS_ok hok (by omega) (by omega) fun r hr => by
            obtain ⟨k, hk⟩ := List.getElem?_of_mem hr
            exact hM.low k r (by have := (List.getElem?_eq_some_iff.1 hk).1; omega) hk
          have hsc2 : ScAt H6 (.osl (K + 20 * (n - 1) + 18) 1 0 n) (subS w (d : Int) s) := by
            have := ScAt.own (s := subS w (d : Int) s) (ids := fun k => K + 20 * k + 5) (m := n - 1) (t := 24) (H := H6) (r := K + 20 * (n - 1) + 18) (by rw [hsl]; exact hvr) fun k l hl => by
              unfold subS at hl
              rw [List.getElem?_map] at hl
              cases hk : s[k]? with
              | none => rw [hk] at hl; cases hl
              | some r =>
                rw [hk] at hl
                have hl' : subR w (d : Int) r = l := Option.some.inj hl
                subst hl'
                exact ⟨by rw [subR_len]; exact hok.2.2.2.1 r (List.mem_of_getElem? hk), 3, hM.rows k r (by have := (List.getElem?_eq_some_iff.1 hk).1; omega) hk⟩
            rw [hsl] at this; exact this
          refine ca_of (by kernel_rfl) (c_Best hsc2) ?_
          rintro r7 H7 ⟨e7, hB2⟩
          subst e7
          have hck2 := chk_of hok2
          rcases hB2 with ⟨h, _⟩ | ⟨_, u2, rfl, hT2, hmax2⟩
          · exact absurd hck2 h
          rw [hsl] at hT2 hmax2 ⊢
          obtain ⟨m1, m2⟩ := more_sub (x := w + 1) (d := (d : Int)) ⟨by omega, by omega⟩ hT hT2 hmax hmax2 fun h v hh v0 vn => subS_sco hok hh v0 vn
          have hbd := wtK_abs (M := 1000000) hT.1 hrng (n - 1) (Nat.le_refl _)
          have hbw : Wt n (sco s) u = wtK (sco s) u (n - 1) := rfl
          have hwd : IntKind.i64.wrap (Wt n (sco s) u - (d : Int)) = Wt n (sco s) u - (d : Int) := by rw [IntKind.wrap_i64]; omega
          rw [m1]
          simp (disch := first | omega | simp) [iv, hwd]
          refine ca_pure (by kernel_rfl) (c_HangWorth (ScAt.dsl s) hok (.dsl _) hT2.1) ?_
          rw [m2]
          have hwl : w < n - 1 := by omega
          have hyn := hT.1 (w + 1) (by omega) (by omega)
          have huo := iE_at (lst_at (u := u) hwl)
          generalize hy : u (w + 1) = y at huo hyn
          obtain ⟨r, hr⟩ : ∃ r, s[y]? = some r := ⟨_, List.getElem?_eq_getElem (by omega)⟩
          have hrl : r.length = n - 1 := hok.2.2.2.1 r (List.mem_of_getElem? hr)
          obtain ⟨x, hx⟩ : ∃ x, r[w]? = some x := ⟨_, List.getElem?_eq_getElem (by omega)⟩
          have hxr := hok.2.2.2.2 r (List.mem_of_getElem? hr) x (List.mem_of_getElem? hx)
          have hsx : (subR w (d : Int) r)[w]? = some (x - (d : Int)) := by rw [subR_at hx, if_pos rfl]
          have hso := iE_at hsx
          have hsg : ∀ h, (iE (subR w (d : Int) r))[w]'h = [iv (x - (d : Int))] := fun h => (List.getElem?_eq_some_iff.1 hso).2
          have hrow := hM.rows y r hyn hr
          have hcell : ((List.range n).map fun k => [AV.osl (K + 20 * k + 5) 1 0 (n - 1)])[y]? = some [.osl (K + 20 * y + 5) 1 0 (n - 1)] := by simp [hyn]
          have hadd : IntKind.i64.wrap (x - (d : Int) + (d : Int)) = x := by rw [IntKind.wrap_i64]; omega
          simp only [iv] at huo hso hsg
          simp (disch := first | omega | simp) [iv, bv, iE_len, lst_len, hwl, huo, hvr, hyn, hcell, hrow, subR_len, hrl, hso, hsg, hadd, put_get_ne]
          have hwx : IntKind.i64.wrap x = x := by rw [IntKind.wrap_i64]; omega
          rw [hwx]
          have hset : (iE (subR w (d : Int) r)).set w [AV.p (.int .i64 x)] = iE ((subR w (d : Int) r).set w x) := by rw [iE, iE, List.map_set]; rfl
          rw [hset]
          generalize hY : AH.put _ _ _ = Y
          have hYl : H5.le Y := by rw [← hY]; exact (by repeat (first | with_reducible assumption | with_reducible exact AH.le.refl _ | with_reducible apply AH.le.up | (with_reducible refine AH.le.put hw ?_ ?_; · first | omega | (simp only [up_nx, put_nx, kill_nx]; done) | (simp only [up_nx, put_nx, kill_nx]; omega)) | (with_reducible refine AH.le.kill hw ?_ ?_; · first | omega | (simp only [up_nx, put_nx, kill_nx]; done) | (simp only [up_nx, put_nx, kill_nx]; omega))))
          have hsy : (subS w (d : Int) s)[y]? = some (subR w (d : Int) r) := by unfold subS; rw [List.getElem?_map, hr]; rfl
          have hgy : (subS w (d : Int) s).getD y [] = subR w (d : Int) r := by rw [List.getD_eq_getElem?_getD, hsy]; rfl
          have hgw : (subR w (d : Int) r).getD w 0 + (d : Int) = x := by rw [List.getD_eq_getElem?_getD, hsx]; simp
          have hadd2 : addS y w (d : Int) (subS w (d : Int) s) = (subS w (d : Int) s).set y ((subR w (d : Int) r).set w x) := by unfold addS; rw [hgy, hgw]
          have hok3 : ScOk n (addS y w (d : Int) (subS w (d : Int) s)) := addS_ok hok2 hyn hwl (by rw [hgy, hgw]; exact hxr)
          have hsl3 : (addS y w (d : Int) (subS w (d : Int) s)).length = n := hok3.1
          have hsc3 : ScAt Y (.osl (K + 20 * (n - 1) + 18) 1 0 n) (addS y w (d : Int) (subS w (d : Int) s)) := by
            have := ScAt.own (s := addS y w (d : Int) (subS w (d : Int) s)) (ids := fun k => K + 20 * k + 5) (m := n - 1) (t := 24) (H := Y) (r := K + 20 * (n - 1) + 18) (by rw [hsl3, ← hY, AH.get_put_ne (by omega)]; exact hvr) fun k l hl => by
              have hkn : k < n := by have := (List.getElem?_eq_some_iff.1 hl).1; omega
              refine ⟨hok3.2.2.2.1 l (List.mem_of_getElem? hl), 3, ?_⟩
              rw [hadd2] at hl
              by_cases e : k = y
              · subst e
                rw [List.getElem?_set_self (by omega)] at hl
                have hl' := Option.some.inj hl
                rw [← hY, put_get, hl']
              · rw [List.getElem?_set_ne (fun c => e c.symm)] at hl
                unfold subS at hl
                rw [List.getElem?_map] at hl
                cases hk : s[k]? with
                | none => rw [hk] at hl; cases hl
                | some q =>
                  rw [hk] at hl
                  have hl' : subR w (d : Int) q = l := Option.some.inj hl
                  rw [← hl', ← hY, AH.get_put_ne (by omega)]
                  exact hM.rows k q hkn hk
            rw [hsl3] at this; exact this
          refine ca_of (by kernel_rfl) (c_Best hsc3) ?_
          rintro r8 H8 ⟨e8, hB3⟩
          subst e8
          rcases hB3 with ⟨h, _⟩ | ⟨_, u3, rfl, hT3, hmax3⟩
          · exact absurd (chk_of hok3) h
          rw [hsl3] at hT3 hmax3 ⊢
          have m3 := more_add (x := w + 1) (d := (d : Int)) (by omega) ⟨by omega, by omega⟩ hT hT2 hT3 hmax hmax2 hmax3 (fun h v hh v0 vn => subS_sco hok hh v0 vn) (fun h v hh v0 vn => by rw [hy]; exact addS_sco hok2 hyn hwl hh v0 vn)
          rw [m3]
          simp (disch := first | omega | simp) [iv]
          exact rt_one hw hYl (by repeat (first | exact Cl.p _ | exact Cl.dsl _ _ | exact Cl.any | refine Cl.tup ?_ | refine Cl.agg ?_ | exact Clo.nil | refine Clo.cons ?_ ?_)) ⟨rfl, rfl⟩
  · rcases hB with ⟨_, rfl⟩ | ⟨h, _⟩
    · simp (disch := first | omega | simp) [iv]
      refine ca_of (by kernel_rfl) (c_BestFlat hsc) ?_
      rintro r2 H2 ⟨e2, hF⟩
      subst e2
      rcases hF with ⟨_, rfl⟩ | ⟨h, _⟩
      · simp (disch := first | omega | simp) [iv]
        refine ca_of (by kernel_rfl) (c_One hsc) ?_
        rintro r3 H3 ⟨e3, hO⟩
        subst e3
        rcases hO with ⟨_, rfl⟩ | ⟨h, _⟩ | ⟨h, _⟩
        · simp (disch := first | omega | simp) [iv, hc]
          exact rt_refl ⟨rfl, rfl⟩ (Nat.le_refl _)
        · exact absurd h hc
        · exact absurd h hc
      · exact absurd h hc
    · exact absurd h hc)
theorem w_HeadsMore (s : List (List Int)) (at_ by_ : Int) (hat : I64 at_) (hby : I64 by_) (H : AH) : Tri Try.prog 3 [.dsl 1 (s.map fun r => [.dsl 1 (r.map fun x => [.p (.int .i64 x)])]), .p (.int .i64 at_), .p (.int .i64 by_)] H (fun v _ => v = .p (.bool true)) := (c_HeadsMore s at_ by_ hat hby H).mono fun v H' h => h.2
end Go.Proofs.Ytaepnmnoofigjaa

/- Readings of what comes in. -/
namespace Go.Proofs.Ytaepnmnoofigjaa
open Go.RowKit Go.Maps Go.ChangeShapes Go.WideShapes
theorem opens_nums : Opens Try.prog 24 (rList rInt) := opens_slice Try.underlying24 rfl (by decide) (opens_int Try.underlying3)
theorem opens_rows : Opens Try.prog 22 (rList (rList rInt)) := opens_slice Try.underlying22 rfl (by decide) opens_nums
theorem avs_row : AvsG (rList rInt) (List.map id) (fun zs => [.dsl 1 (zs.map fun i => [.p (.int .i64 i)])]) (fun zs => ∀ z ∈ zs, I64 z) := avs_int.list (by decide)
end Go.Proofs.Ytaepnmnoofigjaa

namespace Go.Proofs.Ytaepnmnoofigjaa.headsMore
open Go.ChangeShapes Go.WideShapes Go.ChangeAt Go.RowKit
open Go.ChangeMaps (open_string shut_string)

theorem contract (H : Type) (enc : TypeId × Value → H) (W : World) (base : Nat) (args : Array Value) (ds gs : List (DataW H)) (before : List MemPlace)
    (hval : ∀ (j : Nat) t v, Try.f3.params[j]? = some t → args[j]? = some v → Value.okWide Try.prog W .any base t v)
    (hW : DataW.Whole enc Try.prog Try.f3.params.toList Rows.headsMoreSpec.vars false W args.toList ds gs before) :
    Calls Try.prog 3 args W fun e W' => ∃ v, e = .returned v ∧ Rows.headsMoreSpec.post enc Try.prog Try.f3 false true false false W args v W' := by
  have hW' := hW
  obtain ⟨p, q, hA0, hV, rfl, hfz, hnd⟩ := hW
  have hA : DataW.TrodAll enc Try.prog W 0 (fun _ => true) true Try.f3.params.toList args.toList ds p := hA0
  rw [Try.params3] at hA hval
  obtain ⟨v0, v1, v2, d0, d1, d2, p0, p1, p2, rfl, rfl, rfl, h0, h1, h2⟩ := trodAll_three hA
  obtain ⟨rfl, rfl⟩ := trodVars_none hV
  obtain ⟨A0, c0, x0, rfl, hs0, hb0⟩ := arg_slice opens_rows Try.underlying22 (hval 0 22 v0 rfl rfl) h0
  obtain ⟨c1, rfl, rfl, rfl, wc1⟩ := open_int Try.underlying3 (hval 1 3 v1 rfl rfl) h1
  obtain ⟨c2, rfl, rfl, rfl, wc2⟩ := open_int Try.underlying3 (hval 2 3 v2 rfl rfl) h2
  obtain ⟨k0, r0⟩ := (avs_row).sl (by decide) (σ' := fun _ => none) hs0
  have i1 : I64 c1 := by simp only [Lit.wf, Bool.and_eq_true, decide_eq_true_eq] at wc1; exact wc1
  have r1 : Rp W (fun b => b < W.heap.size) (fun _ => none) (.p (.int .i64 c1)) (.int .i64 c1) := .data _ _ (.p _ rfl)
  have i2 : I64 c2 := by simp only [Lit.wf, Bool.and_eq_true, decide_eq_true_eq] at wc2; exact wc2
  have r2 : Rp W (fun b => b < W.heap.size) (fun _ => none) (.p (.int .i64 c2)) (.int .i64 c2) := .data _ _ (.p _ rfl)
  refine (law_calls (us := [.slice A0 x0.length c0, .int .i64 c1, .int .i64 c2]) (w_HeadsMore (x0.map (List.map id)) c1 c2 i1 i2 _) (.cons r0 (.cons r1 (.cons r2 .nil)))).mono fun e W' ⟨he, hg⟩ => ?_
  subst he
  exact ⟨_, rfl, post_true rfl Try.underlying4 rfl laidOut (by kernel_rfl) hW' rfl hg⟩

set_option maxRecDepth 100000 in
theorem lifted (os : Os) (started : os.Started) (H : Type) (enc : TypeId × Value → H) :
    ReturnsInHanded {} Try.checked os 3 .any (Rows.headsMoreSpec.pre6 enc Try.prog Try.f3 Rows.headsMoreRow.domain false) (Rows.headsMoreSpec.post enc Try.prog Try.f3 false true false false) := by
  refine returnsInHanded_of_change (C := Try.checked) own started (by kernel_rfl) Try.func3
    (ChangeSpec.witness6 (enc := enc) (C := Try.checked) false ⟨#[], #[.slice none 0 0, .int .i64 0, .int .i64 0], []⟩ 8 (by kernel_rfl) (by kernel_rfl) (by kernel_rfl) (by kernel_rfl)) ?_
  intro W base args ds gs before hval hW _ _
  exact contract H enc W base args ds gs before hval hW

theorem proved : Rows.HeadsMoreSaid :=
  OpenClaim.holds_of_wide 3 Try.f3 rfl rfl rfl rfl rfl rfl rfl ⟨rfl, rfl, rfl, rfl, rfl⟩ rfl rfl rfl rfl rfl (by kernel_rfl) Try.func3 (by kernel_rfl)
    (of_decide_eq_true (by kernel_rfl)) (by unfold Func.isWrapper; first | (rw [if_pos (by decide +kernel)]; kernel_rfl) | (rw [if_neg (by decide +kernel)]; exact ⟨rfl, rfl⟩))
    (fun os started H enc _ => lifted os started H enc)
end Go.Proofs.Ytaepnmnoofigjaa.headsMore
