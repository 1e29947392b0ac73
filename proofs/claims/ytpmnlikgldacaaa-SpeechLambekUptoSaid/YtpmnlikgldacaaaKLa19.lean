/- Texts that the proof rests on, part 19: what each holds stands at its head. -/
import Derived.Test.YtpmnlikgldacaaaKLa18

/- Proofs: how many steps, how long their lefts; both programs. -/
namespace Go.Proofs.Ytpmnlikgldacaaa
open Go.RowKit Go.Maps
mutual
def Pf.lf : Pf → Int → Int
  | ⟨_, l, _, _, _, ks⟩, most => Pf.lfs ks most 1 l.length
def Pf.lfs : List Pf → Int → Int → Int → Int
  | [], _, _, left => left
  | k :: r, most, n, left => if most < n then left else Pf.lfs r most (n + capN k.size (most - n)) (if left < Pf.lf k (most - n) then Pf.lf k (most - n) else left)
end
theorem Pf.lf_eq (p : Pf) (most : Int) : p.lf most = Pf.lfs p.kids most 1 p.left.length := by cases p; rw [Pf.lf]
theorem Pf.lfs_at {ks : List Pf} {i : Nat} {x : Pf} (h : ks[i]? = some x) (most n left : Int) : Pf.lfs (ks.drop i) most n left = if most < n then left else Pf.lfs (ks.drop (i + 1)) most (n + capN x.size (most - n)) (if left < x.lf (most - n) then x.lf (most - n) else left) := by
  obtain ⟨h1, h2⟩ := List.getElem?_eq_some_iff.1 h
  rw [List.drop_eq_getElem_cons h1, Pf.lfs, h2]
theorem Pf.lfs_end (most n left : Int) : Pf.lfs [] most n left = left := by rw [Pf.lfs]
theorem Pf.sizes_succ (ks : List Pf) (k : Nat) (h : k < ks.length) : Pf.sizes (ks.take (k + 1)) = Pf.sizes (ks.take k) + (ks[k]'h).size := by
  induction ks generalizing k with
  | nil => simp at h
  | cons t r ih =>
    cases k with
    | zero => simp [Pf.sizes]
    | succ k => rw [List.take_succ_cons, List.take_succ_cons, Pf.sizes, Pf.sizes, ih k (by simpa using h)]; simp; omega
theorem Pf.sizes_le (ks : List Pf) (k : Nat) : Pf.sizes (ks.take k) ≤ Pf.sizes ks := by
  induction ks generalizing k with
  | nil => simp
  | cons t r ih =>
    cases k with
    | zero => simp [Pf.sizes]
    | succ k => rw [List.take_succ_cons, Pf.sizes, Pf.sizes]; have := ih k; omega
theorem Pf.lfs_mono : ∀ (ks : List Pf) (most n left : Int), left ≤ Pf.lfs ks most n left
  | [], most, n, left => by rw [Pf.lfs]; omega
  | k :: r, most, n, left => by
    rw [Pf.lfs]
    split
    · omega
    · have := Pf.lfs_mono r most (n + capN k.size (most - n)) (if left < k.lf (most - n) then k.lf (most - n) else left)
      have h2 : left ≤ (if left < k.lf (most - n) then k.lf (most - n) else left) := by split <;> omega
      omega
/-- all is looked at where it is not too much -/
theorem Pf.lf_all (N : Nat) : ∀ (p : Pf) (most K : Int), p.size ≤ N → (p.size : Int) ≤ most → p.lf most ≤ K → Pf.All (fun q => (q.left.length : Int) ≤ K) p := by
  induction N with
  | zero => intro p _ _ h; have := p.size_pos; omega
  | succ N ih =>
    intro p most K hN hm hK
    rw [Pf.lf_eq] at hK
    have hs := p.size_eq
    have aux : ∀ (ks : List Pf) (n left : Int), (∀ k ∈ ks, k.size ≤ N) → 1 ≤ n → n + (Pf.sizes ks : Int) ≤ most → Pf.lfs ks most n left ≤ K → ∀ k ∈ ks, Pf.All (fun q => (q.left.length : Int) ≤ K) k := by
      intro ks
      induction ks with
      | nil => intro _ _ _ _ _ _ k hk; cases hk
      | cons x r ihr =>
        intro n left h1 h2 h3 h4 k hk
        rw [Pf.sizes] at h3
        rw [Pf.lfs, if_neg (by omega)] at h4
        have hcap : capN x.size (most - n) = x.size := by unfold capN; rw [if_pos (by omega)]
        rw [hcap] at h4
        have hm2 := Pf.lfs_mono r most (n + x.size) (if left < x.lf (most - n) then x.lf (most - n) else left)
        rcases List.mem_cons.1 hk with rfl | hk
        · refine ih k (most - n) K (h1 k (by simp)) (by omega) ?_
          have h5 : k.lf (most - n) ≤ (if left < k.lf (most - n) then k.lf (most - n) else left) := by split <;> omega
          omega
        · exact ihr (n + x.size) _ (fun k hk => h1 k (List.mem_cons_of_mem _ hk)) (by omega) (by omega) h4 k hk
    refine .mk p ?_ (aux p.kids 1 p.left.length (fun k hk => by have := Pf.sizes_mem hk; omega) (by omega) (by omega) hK)
    have := Pf.lfs_mono p.kids most 1 p.left.length
    omega
theorem capN_low' {s : Nat} {most : Int} (h : capN s most ≤ most) : (s : Int) ≤ most := by
  unfold capN at h
  split at h
  · assumption
  · omega
set_option maxHeartbeats 1000000 in
theorem c_RProofSizeN (N : Nat) : ∀ p : Pf, p.size ≤ N → ∀ (most : Int) (H : AH), 0 ≤ most → most ≤ 1000000 → Tri Try.prog 39 [p.av, iv most] H (fun r H' => H' = H ∧ r = .tup [iv (capN p.size most), iv (p.lf most)]) := by
  induction N with
  | zero => intro p h; have := p.size_pos; omega
  | succ N ih =>
    intro p hp most H h0 h1
    refine tri_wf fun hw => tri_lenA 0 7 rfl (by rw [Pf.cs_eq]; rfl) fun hl => tri_wordhoardref_ProofSize ?_
    have hml : maxLen = 9223372036854775807 := by decide
    rw [List.length_map] at hl
    have hsz := p.size_eq
    unfold S_wordhoardref_ProofSize Pf.av
    rw [Pf.cs_eq]
    unfold tE
    simp (disch := first | omega | simp) [put_get_ne, iv]
    refine loop_st (fun s : Int × Int × Nat => [iv s.1, iv s.2.1, iv s.2.2]) (fun s H' => H' = (H.up 3).put H.nx (.box 27 p.cs) ∧ s.2.2 ≤ p.kids.length ∧ s.1 = capN (1 + Pf.sizes (p.kids.take s.2.2)) most ∧ Pf.lfs (p.kids.drop s.2.2) most s.1 s.2.1 = p.lf most) (fun s => p.kids.length - s.2.2) (1, (p.left.length : Int), 0) (.refl (Nat.le_refl _)) ⟨?_, Nat.zero_le _, ?_, by rw [Pf.lf_eq]; rfl⟩ ?_
    · rw [Pf.cs_eq]; rfl
    · simp only [List.take_zero, Pf.sizes]; unfold capN; split <;> omega
    · rintro ⟨n, left, i⟩ H1 hn1 ⟨rfl, hi, hn, hlf⟩ k hk
      dsimp only at hi hn hk hlf
      unfold S_wordhoardref_ProofSize_L1
      rw [Pf.cs_eq]
      have hsl := Pf.sizes_le p.kids i
      have hcp := capN_in (s := 1 + Pf.sizes (p.kids.take i)) h0
      have hw3 : IntKind.i64.wrap (most + 1) = most + 1 := wrapI (by omega) (by omega)
      by_cases hil : i < p.kids.length
      · have hss := Pf.sizes_succ p.kids i hil
        have hsl2 := Pf.sizes_le p.kids (i + 1)
        obtain ⟨x, hx⟩ : ∃ x, p.kids[i]? = some x := ⟨_, List.getElem?_eq_getElem hil⟩
        have hxg : ∀ h, p.kids[i]'h = x := fun h => (List.getElem?_eq_some_iff.1 hx).2
        rw [hxg] at hss
        have hxs : x.size ≤ N := by have := Pf.sizes_mem (List.mem_of_getElem? hx); omega
        have hiv := ivn (i := i) (by omega)
        rw [Pf.lfs_at hx] at hlf
        by_cases hc : ((1 + Pf.sizes (p.kids.take i) : Nat) : Int) ≤ most
        · rw [capN_low hc] at hn
          have hnm : n ≤ most := by omega
          have hw1 : IntKind.i64.wrap (most - n) = most - n := wrapI (by omega) (by omega)
          have hcap := capN_in (s := x.size) (most := most - n) (by omega)
          have hw2 : IntKind.i64.wrap (n + capN x.size (most - n)) = n + capN x.size (most - n) := wrapI (by omega) (by omega)
          rw [if_neg (by omega)] at hlf
          simp (disch := first | omega | simp) [iv, hil, hxg, hiv, hnm, put_get_ne, hw1, Pf.cs_len, Pf.cs_take]
          refine ca_pure (by kernel_rfl) (ih x hxs (most - n) _ (by omega) (by omega)) ?_
          have hnext : (1 + Pf.sizes (p.kids.take i) : Nat) + x.size = 1 + Pf.sizes (p.kids.take (i + 1)) := by omega
          by_cases hlt : left < x.lf (most - n)
          · simp (disch := first | omega | simp) [iv, hw2, hiv, hlt]
            rw [if_pos hlt] at hlf
            refine hk (n + capN x.size (most - n), x.lf (most - n), i + 1) _ _ _ (.refl (by first | omega | (simp only [up_nx, put_nx, kill_nx]; done) | (simp only [up_nx, put_nx, kill_nx]; omega))) ⟨by rw [Pf.cs_eq]; rfl, hil, ?_, hlf⟩ (by dsimp only; omega)
            dsimp only
            rw [hn, capN_add hc, hss]
            congr 1; omega
          · simp (disch := first | omega | simp) [iv, hw2, hiv, hlt]
            rw [if_neg hlt] at hlf
            refine hk (n + capN x.size (most - n), left, i + 1) _ _ _ (.refl (by first | omega | (simp only [up_nx, put_nx, kill_nx]; done) | (simp only [up_nx, put_nx, kill_nx]; omega))) ⟨by rw [Pf.cs_eq]; rfl, hil, ?_, hlf⟩ (by dsimp only; omega)
            dsimp only
            rw [hn, capN_add hc, hss]
            congr 1; omega
        · rw [capN_high hc] at hn
          have hnm : ¬ n ≤ most := by omega
          have hnm2 : most < n := by omega
          rw [if_pos hnm2] at hlf
          simp (disch := first | omega | simp) [iv, hil, hxg, hiv, hnm, hnm2, put_get_ne, hw3]
          refine rt_one hw (by repeat (first | with_reducible assumption | with_reducible exact AH.le.refl _ | with_reducible apply AH.le.up | (with_reducible refine AH.le.put hw ?_ ?_; · first | omega | (simp only [up_nx, put_nx, kill_nx]; done) | (simp only [up_nx, put_nx, kill_nx]; omega)) | (with_reducible refine AH.le.kill hw ?_ ?_; · first | omega | (simp only [up_nx, put_nx, kill_nx]; done) | (simp only [up_nx, put_nx, kill_nx]; omega)))) (by repeat (first | exact Cl.p _ | exact Cl.dsl _ _ | exact Cl.any | refine Cl.tup ?_ | refine Cl.agg ?_ | exact Clo.nil | refine Clo.cons ?_ ?_)) ⟨rfl, ?_⟩
          rw [capN_high (by omega), hlf]
      · have hie : p.kids.take i = p.kids := List.take_of_length_le (by omega)
        rw [hie, ← hsz] at hn
        rw [List.drop_of_length_le (by omega), Pf.lfs_end] at hlf
        by_cases hc : (p.size : Int) ≤ most
        · rw [capN_low hc] at hn
          have hnm2 : ¬ most < n := by omega
          simp (disch := first | omega | simp) [iv, hil, hnm2, put_get_ne]
          refine rt_one hw (by repeat (first | with_reducible assumption | with_reducible exact AH.le.refl _ | with_reducible apply AH.le.up | (with_reducible refine AH.le.put hw ?_ ?_; · first | omega | (simp only [up_nx, put_nx, kill_nx]; done) | (simp only [up_nx, put_nx, kill_nx]; omega)) | (with_reducible refine AH.le.kill hw ?_ ?_; · first | omega | (simp only [up_nx, put_nx, kill_nx]; done) | (simp only [up_nx, put_nx, kill_nx]; omega)))) (by repeat (first | exact Cl.p _ | exact Cl.dsl _ _ | exact Cl.any | refine Cl.tup ?_ | refine Cl.agg ?_ | exact Clo.nil | refine Clo.cons ?_ ?_)) ⟨rfl, ?_⟩
          rw [capN_low hc, hlf, hn]
        · rw [capN_high hc] at hn
          have hnm2 : most < n := by omega
          simp (disch := first | omega | simp) [iv, hil, hnm2, put_get_ne, hw3]
          refine rt_one hw (by repeat (first | with_reducible assumption | with_reducible exact AH.le.refl _ | with_reducible apply AH.le.up | (with_reducible refine AH.le.put hw ?_ ?_; · first | omega | (simp only [up_nx, put_nx, kill_nx]; done) | (simp only [up_nx, put_nx, kill_nx]; omega)) | (with_reducible refine AH.le.kill hw ?_ ?_; · first | omega | (simp only [up_nx, put_nx, kill_nx]; done) | (simp only [up_nx, put_nx, kill_nx]; omega)))) (by repeat (first | exact Cl.p _ | exact Cl.dsl _ _ | exact Cl.any | refine Cl.tup ?_ | refine Cl.agg ?_ | exact Clo.nil | refine Clo.cons ?_ ?_)) ⟨rfl, ?_⟩
          rw [capN_high hc, hlf]
set_option maxHeartbeats 1000000 in
theorem c_sizeN (N : Nat) : ∀ p : Pf, p.size ≤ N → ∀ (most : Int) (H : AH), 0 ≤ most → most ≤ 1000000 → Tri Try.prog 57 [p.av, iv most] H (fun r H' => H' = H ∧ r = .tup [iv (capN p.size most), iv (p.lf most)]) := by
  induction N with
  | zero => intro p h; have := p.size_pos; omega
  | succ N ih =>
    intro p hp most H h0 h1
    refine tri_wf fun hw => tri_lenA 0 7 rfl (by rw [Pf.cs_eq]; rfl) fun hl => tri_speech_size ?_
    have hml : maxLen = 9223372036854775807 := by decide
    rw [List.length_map] at hl
    have hsz := p.size_eq
    unfold S_speech_size Pf.av
    rw [Pf.cs_eq]
    unfold tE
    simp (disch := first | omega | simp) [put_get_ne, iv]
    refine loop_st (fun s : Int × Int × Nat => [iv s.1, iv s.2.1, iv s.2.2]) (fun s H' => H.le H' ∧ H.nx ≤ H'.nx ∧ s.2.2 ≤ p.kids.length ∧ s.1 = capN (1 + Pf.sizes (p.kids.take s.2.2)) most ∧ Pf.lfs (p.kids.drop s.2.2) most s.1 s.2.1 = p.lf most) (fun s => p.kids.length - s.2.2) (1, (p.left.length : Int), 0) (.refl (Nat.le_refl _)) ⟨(by repeat (first | with_reducible assumption | with_reducible exact AH.le.refl _ | with_reducible apply AH.le.up | (with_reducible refine AH.le.put hw ?_ ?_; · first | omega | (simp only [up_nx, put_nx, kill_nx]; done) | (simp only [up_nx, put_nx, kill_nx]; omega)) | (with_reducible refine AH.le.kill hw ?_ ?_; · first | omega | (simp only [up_nx, put_nx, kill_nx]; done) | (simp only [up_nx, put_nx, kill_nx]; omega)))), (by first | omega | (simp only [up_nx, put_nx, kill_nx]; done) | (simp only [up_nx, put_nx, kill_nx]; omega)), Nat.zero_le _, ?_, by rw [Pf.lf_eq]; rfl⟩ ?_
    · simp only [List.take_zero, Pf.sizes]; unfold capN; split <;> omega
    · rintro ⟨n, left, i⟩ H1 hn1 ⟨hle, hnx, hi, hn, hlf⟩ k hk
      dsimp only at hi hn hk hlf
      unfold S_speech_size_L1
      have hsl := Pf.sizes_le p.kids i
      have hcp := capN_in (s := 1 + Pf.sizes (p.kids.take i)) h0
      by_cases hil : i < p.kids.length
      · have hss := Pf.sizes_succ p.kids i hil
        have hsl2 := Pf.sizes_le p.kids (i + 1)
        obtain ⟨x, hx⟩ : ∃ x, p.kids[i]? = some x := ⟨_, List.getElem?_eq_getElem hil⟩
        have hxg : ∀ h, p.kids[i]'h = x := fun h => (List.getElem?_eq_some_iff.1 hx).2
        rw [hxg] at hss
        have hxs : x.size ≤ N := by have := Pf.sizes_mem (List.mem_of_getElem? hx); omega
        have hiv := ivn (i := i) (by omega)
        rw [Pf.lfs_at hx] at hlf
        by_cases hc : ((1 + Pf.sizes (p.kids.take i) : Nat) : Int) ≤ most
        · rw [capN_low hc] at hn
          have hnm : ¬ most < n := by omega
          have hw1 : IntKind.i64.wrap (most - n) = most - n := wrapI (by omega) (by omega)
          have hcap := capN_in (s := x.size) (most := most - n) (by omega)
          have hw2 : IntKind.i64.wrap (n + capN x.size (most - n)) = n + capN x.size (most - n) := wrapI (by omega) (by omega)
          rw [if_neg (by omega)] at hlf
          simp (disch := first | omega | simp) [iv, hil, hxg, hiv, hnm, put_get_ne, hw1, Pf.cs_len, Pf.cs_take]
          refine ca_pure (by kernel_rfl) (ih x hxs (most - n) _ (by omega) (by omega)) ?_
          simp (disch := first | omega | simp) [iv, hw2, hiv]
          refine hk (n + capN x.size (most - n), (if left < x.lf (most - n) then x.lf (most - n) else left), i + 1) _ _ _ (.refl (by first | omega | (simp only [up_nx, put_nx, kill_nx]; done) | (simp only [up_nx, put_nx, kill_nx]; omega))) ⟨(by repeat (first | with_reducible assumption | with_reducible exact AH.le.refl _ | with_reducible apply AH.le.up | (with_reducible refine AH.le.put hw ?_ ?_; · first | omega | (simp only [up_nx, put_nx, kill_nx]; done) | (simp only [up_nx, put_nx, kill_nx]; omega)) | (with_reducible refine AH.le.kill hw ?_ ?_; · first | omega | (simp only [up_nx, put_nx, kill_nx]; done) | (simp only [up_nx, put_nx, kill_nx]; omega)))), (by first | omega | (simp only [up_nx, put_nx, kill_nx]; done) | (simp only [up_nx, put_nx, kill_nx]; omega)), hil, ?_, hlf⟩ (by dsimp only; omega)
          dsimp only
          rw [hn, capN_add hc, hss]
          congr 1; omega
        · rw [capN_high hc] at hn
          have hnm2 : most < n := by omega
          rw [if_pos hnm2] at hlf
          simp (disch := first | omega | simp) [iv, hil, hxg, hiv, hnm2, put_get_ne, Pf.cs_len, Pf.cs_take]
          refine rt_one hw (by repeat (first | with_reducible assumption | with_reducible exact AH.le.refl _ | with_reducible apply AH.le.up | (with_reducible refine AH.le.put hw ?_ ?_; · first | omega | (simp only [up_nx, put_nx, kill_nx]; done) | (simp only [up_nx, put_nx, kill_nx]; omega)) | (with_reducible refine AH.le.kill hw ?_ ?_; · first | omega | (simp only [up_nx, put_nx, kill_nx]; done) | (simp only [up_nx, put_nx, kill_nx]; omega)))) (by repeat (first | exact Cl.p _ | exact Cl.dsl _ _ | exact Cl.any | refine Cl.tup ?_ | refine Cl.agg ?_ | exact Clo.nil | refine Clo.cons ?_ ?_)) ⟨rfl, ?_⟩
          rw [capN_high (by omega), hlf, hn]
      · have hie : p.kids.take i = p.kids := List.take_of_length_le (by omega)
        rw [hie, ← hsz] at hn
        rw [List.drop_of_length_le (by omega), Pf.lfs_end] at hlf
        simp (disch := first | omega | simp) [iv, hil, put_get_ne]
        refine rt_one hw (by repeat (first | with_reducible assumption | with_reducible exact AH.le.refl _ | with_reducible apply AH.le.up | (with_reducible refine AH.le.put hw ?_ ?_; · first | omega | (simp only [up_nx, put_nx, kill_nx]; done) | (simp only [up_nx, put_nx, kill_nx]; omega)) | (with_reducible refine AH.le.kill hw ?_ ?_; · first | omega | (simp only [up_nx, put_nx, kill_nx]; done) | (simp only [up_nx, put_nx, kill_nx]; omega)))) (by repeat (first | exact Cl.p _ | exact Cl.dsl _ _ | exact Cl.any | refine Cl.tup ?_ | refine Cl.agg ?_ | exact Clo.nil | refine Clo.cons ?_ ?_)) ⟨rfl, ?_⟩
        rw [hn, hlf]
theorem c_RProofSize (p : Pf) {most : Int} (h0 : 0 ≤ most) (h1 : most ≤ 1000000) : PF Try.prog 39 [p.av, iv most] (.tup [iv (capN p.size most), iv (p.lf most)]) := fun H => c_RProofSizeN _ p (Nat.le_refl _) most H h0 h1
theorem c_size (p : Pf) {most : Int} (h0 : 0 ≤ most) (h1 : most ≤ 1000000) : PF Try.prog 57 [p.av, iv most] (.tup [iv (capN p.size most), iv (p.lf most)]) := fun H => c_sizeN _ p (Nat.le_refl _) most H h0 h1
end Go.Proofs.Ytpmnlikgldacaaa

/- Proofs: the parts in them; both programs. -/
namespace Go.Proofs.Ytpmnlikgldacaaa
open Go.RowKit Go.Maps
mutual
def Pf.chk : Pf → Int
  | ⟨_, l, g, _, _, ks⟩ => if chkL (l ++ [g]) = 0 then Pf.chks ks else chkL (l ++ [g])
def Pf.chks : List Pf → Int
  | [] => 0
  | k :: r => if Pf.chk k = 0 then Pf.chks r else Pf.chk k
end
theorem Pf.chk_eq (p : Pf) : p.chk = if chkL (p.left ++ [p.goal]) = 0 then Pf.chks p.kids else chkL (p.left ++ [p.goal]) := by cases p; rw [Pf.chk]
theorem Pf.chks_at {ks : List Pf} {i : Nat} {x : Pf} (h : ks[i]? = some x) : Pf.chks (ks.drop i) = if x.chk = 0 then Pf.chks (ks.drop (i + 1)) else x.chk := by
  obtain ⟨h1, h2⟩ := List.getElem?_eq_some_iff.1 h
  rw [List.drop_eq_getElem_cons h1, Pf.chks, h2]
theorem Pf.chks_zero : ∀ {ks : List Pf}, Pf.chks ks = 0 → ∀ k ∈ ks, k.chk = 0
  | a :: r, h, k, hk => by
    rw [Pf.chks] at h
    split at h
    · rename_i ha
      rcases List.mem_cons.1 hk with rfl | hk
      · exact ha
      · exact Pf.chks_zero h k hk
    · exact absurd h ‹_›
theorem Pf.chks_ok : ∀ {ks : List Pf}, (∀ k ∈ ks, k.chk = 0) → Pf.chks ks = 0
  | [], _ => by rw [Pf.chks]
  | a :: r, h => by rw [Pf.chks, if_pos (h a (by simp)), Pf.chks_ok fun k hk => h k (List.mem_cons_of_mem _ hk)]
theorem chkL_ok : ∀ {l : List Ty}, Goods l → chkL l = 0
  | [], _ => rfl
  | t :: r, h => by rw [chkL, if_pos (show t.check = 0 from h.head), chkL_ok h.tail]
/-- all parts are right -/
def Pf.Fine (p : Pf) : Prop := Goods p.left ∧ Good p.goal
theorem Pf.chk_fine (N : Nat) : ∀ p : Pf, p.size ≤ N → p.chk = 0 → Pf.All Pf.Fine p := by
  induction N with
  | zero => intro p h; have := p.size_pos; omega
  | succ N ih =>
    intro p h hc
    rw [Pf.chk_eq] at hc
    have hs := p.size_eq
    split at hc
    · rename_i h1
      exact .mk p ⟨(chkL_goods h1).left, (chkL_goods h1).right.head⟩ fun k hk => ih k (by have := Pf.sizes_mem hk; omega) (Pf.chks_zero hc k hk)
    · exact absurd hc ‹_›
theorem Pf.fine_chk {p : Pf} (h : Pf.All Pf.Fine p) : p.chk = 0 := by
  induction h with
  | mk p h _ ih => rw [Pf.chk_eq, if_pos (chkL_ok (h.1.app (.cons h.2 .nil)))]; exact Pf.chks_ok ih
def Pf.Short (p : Pf) : Prop := (p.left.length : Int) ≤ 20
set_option maxHeartbeats 1000000 in
theorem c_RProofPartsN (N : Nat) : ∀ p : Pf, p.size ≤ N → N ≤ 1000000 → Pf.All Pf.Short p → ∀ H : AH, Tri Try.prog 40 [p.av] H (fun r H' => H' = H ∧ r = iv p.chk) := by
  induction N with
  | zero => intro p h; have := p.size_pos; omega
  | succ N ih =>
    intro p hp hN hL H
    refine tri_wf fun hw => tri_wordhoardref_ProofParts ?_
    have hml : maxLen = 9223372036854775807 := by decide
    have hsz := p.size_eq
    have hlk := Pf.len_sizes p.kids
    have hsh : (p.left.length : Int) ≤ 20 := hL.here
    unfold S_wordhoardref_ProofParts Pf.av
    simp (disch := first | omega | simp) [put_get_ne, iv]
    generalize hM : AH.put _ _ _ = M
    have hMl : H.le M := by rw [← hM]; exact (by repeat (first | with_reducible assumption | with_reducible exact AH.le.refl _ | with_reducible apply AH.le.up | (with_reducible refine AH.le.put hw ?_ ?_; · first | omega | (simp only [up_nx, put_nx, kill_nx]; done) | (simp only [up_nx, put_nx, kill_nx]; omega)) | (with_reducible refine AH.le.kill hw ?_ ?_; · first | omega | (simp only [up_nx, put_nx, kill_nx]; done) | (simp only [up_nx, put_nx, kill_nx]; omega))))
    have hMn : M.nx = H.nx + 2 := by rw [← hM]; rfl
    have hMg : M.get H.nx = some (.box 27 (pC p (.dsl 8 (p.kids.map Pf.cs)))) := by rw [← hM, Pf.cs_pC]; simp (disch := first | omega | simp) [put_get_ne]
    have hwM : WF M := by rw [← hM]; exact (hw.up 2).box (by simp only [up_nx]; omega) (Pf.cl p _)
    clear hM
    have hz : p.left ++ [p.goal] = p.left ++ [p.goal] := rfl
    refine loop_st (fun i : Nat => [iv i]) (fun i H' => M = H' ∧ i ≤ p.left.length + 1 ∧ chkL (p.left ++ [p.goal]) = chkL ((p.left ++ [p.goal]).drop i)) (fun i => p.left.length + 1 - i) 0 (.refl (Nat.le_refl _)) ⟨rfl, Nat.zero_le _, by rw [List.drop_zero]⟩ ?_
    rintro i _ hn1 ⟨rfl, hi, hc⟩ k hk
    unfold S_wordhoardref_ProofParts_L3
    unfold pC tE at hMg
    have hiv := ivn (i := i) (by omega)
    have hnext : ∀ x M', (p.left ++ [p.goal])[i]? = some x → i ≤ p.left.length → M.le M' → M.nx ≤ M'.nx → (x.check = 0 → k [iv ((i + 1 : Nat) : Int)] M') ∧ (x.check ≠ 0 → Rt Try.prog H.nx (iv x.check) (fun r H' => H' = H ∧ r = iv p.chk) M') := fun x M' hx hil hle hn => by
      rw [chkL_at hx] at hc
      refine ⟨fun h0 => hk (i + 1) M _ M' (.back hwM hle (by repeat (first | exact Cl.p _ | exact Cl.dsl _ _ | exact Cl.any | refine Cl.tup ?_ | refine Cl.agg ?_ | exact Clo.nil | refine Clo.cons ?_ ?_))) ⟨rfl, by omega, by rw [hc, if_pos h0]⟩ (by show p.left.length + 1 - (i + 1) < p.left.length + 1 - i; omega), fun h0 => ?_⟩
      rw [if_neg h0] at hc
      exact rt_one hw (hMl.trans hle) (by repeat (first | exact Cl.p _ | exact Cl.dsl _ _ | exact Cl.any | refine Cl.tup ?_ | refine Cl.agg ?_ | exact Clo.nil | refine Clo.cons ?_ ?_)) ⟨rfl, by rw [Pf.chk_eq, if_neg (by rw [hc]; exact h0), hc]⟩
    by_cases hil : i ≤ p.left.length
    · simp (disch := first | omega | simp) [iv, hil, hMg]
      unfold S_wordhoardref_ProofParts_C1
      by_cases hlt : i < p.left.length
      · obtain ⟨x, hx⟩ : ∃ x, p.left[i]? = some x := ⟨_, List.getElem?_eq_getElem hlt⟩
        have hxg : ∀ h, p.left[i]'h = x := fun h => (List.getElem?_eq_some_iff.1 hx).2
        have hlt' : (i : Int) < p.left.length := by omega
        simp (disch := first | omega | simp) [iv, hil, hlt, hlt', hMg, put_get_ne, Ty.av, Ty.cs_len, Ty.cs_g0, Ty.cs_g1, Ty.cs_g2, Ty.cs_take, hxg]
        refine ca_pure (by kernel_rfl) (c_RCheckPart x _) ?_
        have hx2 : (p.left ++ [p.goal])[i]? = some x := by rw [List.getElem?_append_left hlt]; exact hx
        by_cases h0 : x.check = 0
        · simp (disch := first | omega | simp) [iv, h0, hiv]
          exact (hnext x _ hx2 hil (AH.le.put hwM (by omega) (AH.le.up (AH.le.put hwM (by omega) (AH.le.put hwM (by omega) (AH.le.up (.refl _)))))) (by first | omega | (simp only [up_nx, put_nx, kill_nx]; done) | (simp only [up_nx, put_nx, kill_nx]; omega))).1 h0
        · simp (disch := first | omega | simp) [iv, h0]
          exact (hnext x _ hx2 hil (AH.le.put hwM (by omega) (AH.le.up (AH.le.put hwM (by omega) (AH.le.put hwM (by omega) (AH.le.up (.refl _)))))) (by first | omega | (simp only [up_nx, put_nx, kill_nx]; done) | (simp only [up_nx, put_nx, kill_nx]; omega))).2 h0
      · have hlt' : ¬ (i : Int) < p.left.length := by omega
        have hgc : AV.agg [iv p.goal.kind, iv p.goal.num, AV.dsl 3 (List.map Ty.cs p.goal.kids)] = p.goal.av := by unfold Ty.av; rw [Ty.cs_eq]
        unfold iv at hgc
        simp (disch := first | omega | simp) [iv, hil, hlt, hlt', hMg, put_get_ne, Ty.av, Ty.cs_len, Ty.cs_g0, Ty.cs_g1, Ty.cs_g2, Ty.cs_take]
        rw [hgc]
        refine ca_pure (by kernel_rfl) (c_RCheckPart p.goal _) ?_
        have hx2 : (p.left ++ [p.goal])[i]? = some p.goal := by rw [List.getElem?_append_right (by omega), show i - p.left.length = 0 by omega]; rfl
        by_cases h0 : p.goal.check = 0
        · simp (disch := first | omega | simp) [iv, h0, hiv]
          exact (hnext p.goal _ hx2 hil (AH.le.put hwM (by omega) (AH.le.put hwM (by omega) (AH.le.up (.refl _)))) (by first | omega | (simp only [up_nx, put_nx, kill_nx]; done) | (simp only [up_nx, put_nx, kill_nx]; omega))).1 h0
        · simp (disch := first | omega | simp) [iv, h0]
          exact (hnext p.goal _ hx2 hil (AH.le.put hwM (by omega) (AH.le.put hwM (by omega) (AH.le.up (.refl _)))) (by first | omega | (simp only [up_nx, put_nx, kill_nx]; done) | (simp only [up_nx, put_nx, kill_nx]; omega))).2 h0
    · have hcz : chkL (p.left ++ [p.goal]) = 0 := by rw [hc, List.drop_eq_nil_iff.2 (by simp; omega), chkL]
      simp (disch := first | omega | simp) [iv, hil, hMg]
      refine loop_st (fun i : Nat => [iv i]) (fun i H' => M = H' ∧ i ≤ p.kids.length ∧ p.chk = Pf.chks (p.kids.drop i)) (fun i => p.kids.length - i) 0 (.refl (Nat.le_refl _)) ⟨rfl, Nat.zero_le _, by rw [List.drop_zero, Pf.chk_eq, if_pos hcz]⟩ ?_
      rintro j _ hn2 ⟨rfl, hj, hcj⟩ k2 hk2
      unfold S_wordhoardref_ProofParts_L2
      have hjv := ivn (i := j) (by omega)
      by_cases hjl : j < p.kids.length
      · obtain ⟨x, hx⟩ : ∃ x, p.kids[j]? = some x := ⟨_, List.getElem?_eq_getElem hjl⟩
        have hxg : ∀ h, p.kids[j]'h = x := fun h => (List.getElem?_eq_some_iff.1 hx).2
        have hxs := Pf.sizes_mem (List.mem_of_getElem? hx)
        rw [Pf.chks_at hx] at hcj
        simp (disch := first | omega | simp) [iv, hjl, hMg, hxg, put_get_ne, Pf.cs_len, Pf.cs_take]
        refine ca_pure (by kernel_rfl) (ih x (by omega) (by omega) (hL.kid x (List.mem_of_getElem? hx)) _) ?_
        by_cases h0 : x.chk = 0
        · rw [if_pos h0] at hcj
          simp (disch := first | omega | simp) [iv, h0, hjv]
          exact hk2 (j + 1) M _ _ (.refl (by first | omega | (simp only [up_nx, put_nx, kill_nx]; done) | (simp only [up_nx, put_nx, kill_nx]; omega))) ⟨rfl, hjl, hcj⟩ (by omega)
        · rw [if_neg h0] at hcj
          simp (disch := first | omega | simp) [iv, h0]
          exact rt_one hw hMl (by repeat (first | exact Cl.p _ | exact Cl.dsl _ _ | exact Cl.any | refine Cl.tup ?_ | refine Cl.agg ?_ | exact Clo.nil | refine Clo.cons ?_ ?_)) ⟨rfl, by rw [hcj]⟩
      · have hcz2 : p.chk = 0 := by rw [hcj, List.drop_eq_nil_iff.2 (by omega), Pf.chks]
        simp (disch := first | omega | simp) [iv, hjl, hMg]
        exact rt_one hw hMl (by repeat (first | exact Cl.p _ | exact Cl.dsl _ _ | exact Cl.any | refine Cl.tup ?_ | refine Cl.agg ?_ | exact Clo.nil | refine Clo.cons ?_ ?_)) ⟨rfl, by rw [hcz2]⟩
set_option maxHeartbeats 1000000 in
theorem c_partsN (N : Nat) : ∀ p : Pf, p.size ≤ N → N ≤ 1000000 → Pf.All Pf.Short p → ∀ H : AH, Tri Try.prog 58 [p.av] H (fun r H' => H' = H ∧ r = iv p.chk) := by
  induction N with
  | zero => intro p h; have := p.size_pos; omega
  | succ N ih =>
    intro p hp hN hL H
    refine tri_wf fun hw => tri_speech_parts ?_
    have hml : maxLen = 9223372036854775807 := by decide
    have hsz := p.size_eq
    have hlk := Pf.len_sizes p.kids
    have hsh : (p.left.length : Int) ≤ 20 := hL.here
    unfold S_speech_parts Pf.av
    have hgc : AV.agg [iv p.goal.kind, iv p.goal.num, AV.dsl 3 (List.map Ty.cs p.goal.kids)] = p.goal.av := by unfold Ty.av; rw [Ty.cs_eq]
    rw [Pf.cs_pC]
    unfold pC
    simp (disch := first | omega | simp) [put_get_ne]
    refine car_of 24 3 (p.left.map Ty.cs) (by kernel_rfl) (ty_len _) (fun H2 _ => c_CloneP p.left (by omega)) ?_
    simp (disch := first | omega | simp) [put_get_ne]
    rw [show [iv p.goal.kind, iv p.goal.num, AV.dsl 3 (List.map Ty.cs p.goal.kids)] = p.goal.cs by rw [Ty.cs_eq]]
    refine wrf_row rfl (by have h : H.get (H.nx + 2 + 2) = none := wf_none hw (by omega)
                           simp (disch := first | omega | simp) [put_get_ne, h]) (es := p.left.map Ty.cs) (by simp (disch := first | omega | simp) [put_get_ne]) (by simp) (elF_whole (t := 24) (es := [p.goal.cs]) rfl (by simp (disch := first | omega | simp) [put_get_ne]) rfl) (by simp; omega) (by simp; omega) ?_
    have hes : ((p.left.map Ty.cs).drop 0).take p.left.length ++ [p.goal.cs] = (p.left ++ [p.goal]).map Ty.cs := by rw [List.drop_zero, List.take_of_length_le (by simp), List.map_append]; rfl
    have hm1 : p.left.length + [p.goal.cs].length = (p.left ++ [p.goal]).length := by simp
    rw [hm1, hes]
    have hmn : (p.left ++ [p.goal]).length ≤ 21 := by rw [List.length_append]; simp only [List.length_singleton]; omega
    have hpe := p.chk_eq
    generalize p.left ++ [p.goal] = m at *
    generalize hM : AH.put _ _ _ = M
    have hMl : H.le M := by rw [← hM]; exact (by repeat (first | with_reducible assumption | with_reducible exact AH.le.refl _ | with_reducible apply AH.le.up | (with_reducible refine AH.le.put hw ?_ ?_; · first | omega | (simp only [up_nx, put_nx, kill_nx]; done) | (simp only [up_nx, put_nx, kill_nx]; omega)) | (with_reducible refine AH.le.kill hw ?_ ?_; · first | omega | (simp only [up_nx, put_nx, kill_nx]; done) | (simp only [up_nx, put_nx, kill_nx]; omega))))
    have hMn : M.nx = H.nx + 11 := by rw [← hM]; rfl
    have hMg : M.get H.nx = some (.box 27 (pC p (.dsl 8 (p.kids.map Pf.cs)))) := by rw [← hM]; simp (disch := first | omega | simp) [put_get_ne, kill_get_ne, pC]
    have hMr : M.get (H.nx + 2 + 6) = some (.row 24 3 (m.map Ty.cs)) := by rw [← hM]; simp (disch := first | omega | simp) [put_get_ne]
    clear hM
    unfold pC at hMg
    simp (disch := first | omega | simp) []
    refine loop_wf (fun i : Nat => [iv i]) (fun i H' => i ≤ m.length ∧ M.le H' ∧ M.nx ≤ H'.nx ∧ chkL m = chkL (m.drop i)) (fun i => m.length - i) 0 (.refl (by omega)) ⟨Nat.zero_le _, .refl _, Nat.le_refl _, by rw [List.drop_zero]⟩ ?_
    rintro i H1 hn1 hw1 ⟨hi, hle, hnx, hc⟩ k hk
    unfold S_speech_parts_L2
    have hr := hle _ _ hMr
    have hgg := hle _ _ hMg
    have hle2 := hMl.trans hle
    by_cases hil : i < m.length
    · obtain ⟨x, hx⟩ : ∃ x, m[i]? = some x := ⟨_, List.getElem?_eq_getElem hil⟩
      have hxg : ∀ h, m[i]'h = x := fun h => (List.getElem?_eq_some_iff.1 hx).2
      have hiv := ivn (i := i) (by omega)
      rw [chkL_at hx] at hc
      simp (disch := first | omega | simp) [iv, hil, hxg, hr, Ty.av, Ty.cs_len, Ty.cs_g0, Ty.cs_g1, Ty.cs_g2, Ty.cs_take, put_get_ne]
      refine ca_pure (by kernel_rfl) (c_Check x _) ?_
      by_cases hx0 : x.check = 0
      · rw [if_pos hx0] at hc
        simp (disch := first | omega | simp) [iv, hx0, hiv]
        refine hk (i + 1) _ _ _ (.refl (by first | omega | (simp only [up_nx, put_nx, kill_nx]; done) | (simp only [up_nx, put_nx, kill_nx]; omega))) ⟨hil, ?_, (by first | omega | (simp only [up_nx, put_nx, kill_nx]; done) | (simp only [up_nx, put_nx, kill_nx]; omega)), hc⟩ (by omega)
        have hw := hw1
        exact hle.trans (by repeat (first | with_reducible assumption | with_reducible exact AH.le.refl _ | with_reducible apply AH.le.up | (with_reducible refine AH.le.put hw ?_ ?_; · first | omega | (simp only [up_nx, put_nx, kill_nx]; done) | (simp only [up_nx, put_nx, kill_nx]; omega)) | (with_reducible refine AH.le.kill hw ?_ ?_; · first | omega | (simp only [up_nx, put_nx, kill_nx]; done) | (simp only [up_nx, put_nx, kill_nx]; omega))))
      · rw [if_neg hx0] at hc
        simp (disch := first | omega | simp) [iv, hx0]
        exact rt_one hw (by repeat (first | with_reducible assumption | with_reducible exact AH.le.refl _ | with_reducible apply AH.le.up | (with_reducible refine AH.le.put hw ?_ ?_; · first | omega | (simp only [up_nx, put_nx, kill_nx]; done) | (simp only [up_nx, put_nx, kill_nx]; omega)) | (with_reducible refine AH.le.kill hw ?_ ?_; · first | omega | (simp only [up_nx, put_nx, kill_nx]; done) | (simp only [up_nx, put_nx, kill_nx]; omega)))) (by repeat (first | exact Cl.p _ | exact Cl.dsl _ _ | exact Cl.any | refine Cl.tup ?_ | refine Cl.agg ?_ | exact Clo.nil | refine Clo.cons ?_ ?_)) ⟨rfl, by rw [hpe, if_neg (by rw [hc]; exact hx0), hc]⟩
    · have hcz : chkL m = 0 := by rw [hc, List.drop_eq_nil_iff.2 (by omega), chkL]
      simp (disch := first | omega | simp) [iv, hil, hgg]
      refine loop_st (fun i : Nat => [iv i]) (fun i H' => H.le H' ∧ H1.nx ≤ H'.nx ∧ i ≤ p.kids.length ∧ p.chk = Pf.chks (p.kids.drop i)) (fun i => p.kids.length - i) 0 (.refl (Nat.le_refl _)) ⟨hle2, Nat.le_refl _, Nat.zero_le _, by rw [List.drop_zero, hpe, if_pos hcz]⟩ ?_
      rintro j H3 hn2 ⟨hle3, hnx3, hj, hcj⟩ k2 hk2
      unfold S_speech_parts_L1
      have hjv := ivn (i := j) (by omega)
      by_cases hjl : j < p.kids.length
      · obtain ⟨x, hx⟩ : ∃ x, p.kids[j]? = some x := ⟨_, List.getElem?_eq_getElem hjl⟩
        have hxg : ∀ h, p.kids[j]'h = x := fun h => (List.getElem?_eq_some_iff.1 hx).2
        have hxs := Pf.sizes_mem (List.mem_of_getElem? hx)
        rw [Pf.chks_at hx] at hcj
        simp (disch := first | omega | simp) [iv, hjl, hxg, put_get_ne, Pf.cs_len, Pf.cs_take]
        refine ca_pure (by kernel_rfl) (ih x (by omega) (by omega) (hL.kid x (List.mem_of_getElem? hx)) _) ?_
        by_cases h0 : x.chk = 0
        · rw [if_pos h0] at hcj
          simp (disch := first | omega | simp) [iv, h0, hjv]
          exact hk2 (j + 1) _ _ _ (.refl (by first | omega | (simp only [up_nx, put_nx, kill_nx]; done) | (simp only [up_nx, put_nx, kill_nx]; omega))) ⟨(by repeat (first | with_reducible assumption | with_reducible exact AH.le.refl _ | with_reducible apply AH.le.up | (with_reducible refine AH.le.put hw ?_ ?_; · first | omega | (simp only [up_nx, put_nx, kill_nx]; done) | (simp only [up_nx, put_nx, kill_nx]; omega)) | (with_reducible refine AH.le.kill hw ?_ ?_; · first | omega | (simp only [up_nx, put_nx, kill_nx]; done) | (simp only [up_nx, put_nx, kill_nx]; omega)))), (by first | omega | (simp only [up_nx, put_nx, kill_nx]; done) | (simp only [up_nx, put_nx, kill_nx]; omega)), hjl, hcj⟩ (by omega)
        · rw [if_neg h0] at hcj
          simp (disch := first | omega | simp) [iv, h0]
          exact rt_one hw (by repeat (first | with_reducible assumption | with_reducible exact AH.le.refl _ | with_reducible apply AH.le.up | (with_reducible refine AH.le.put hw ?_ ?_; · first | omega | (simp only [up_nx, put_nx, kill_nx]; done) | (simp only [up_nx, put_nx, kill_nx]; omega)) | (with_reducible refine AH.le.kill hw ?_ ?_; · first | omega | (simp only [up_nx, put_nx, kill_nx]; done) | (simp only [up_nx, put_nx, kill_nx]; omega)))) (by repeat (first | exact Cl.p _ | exact Cl.dsl _ _ | exact Cl.any | refine Cl.tup ?_ | refine Cl.agg ?_ | exact Clo.nil | refine Clo.cons ?_ ?_)) ⟨rfl, by rw [hcj]⟩
      · have hcz2 : p.chk = 0 := by rw [hcj, List.drop_eq_nil_iff.2 (by omega), Pf.chks]
        simp (disch := first | omega | simp) [iv, hjl]
        exact rt_one hw (by repeat (first | with_reducible assumption | with_reducible exact AH.le.refl _ | with_reducible apply AH.le.up | (with_reducible refine AH.le.put hw ?_ ?_; · first | omega | (simp only [up_nx, put_nx, kill_nx]; done) | (simp only [up_nx, put_nx, kill_nx]; omega)) | (with_reducible refine AH.le.kill hw ?_ ?_; · first | omega | (simp only [up_nx, put_nx, kill_nx]; done) | (simp only [up_nx, put_nx, kill_nx]; omega)))) (by repeat (first | exact Cl.p _ | exact Cl.dsl _ _ | exact Cl.any | refine Cl.tup ?_ | refine Cl.agg ?_ | exact Clo.nil | refine Clo.cons ?_ ?_)) ⟨rfl, by rw [hcz2]⟩
end Go.Proofs.Ytpmnlikgldacaaa
