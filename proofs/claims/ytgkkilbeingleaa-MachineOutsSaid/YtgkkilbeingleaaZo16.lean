/- Texts that the proof rests on, part 16: what each holds stands at its head. -/
import Derived.Test.YtgkkilbeingleaaZo15

/- Outs: spots, sets of spots as maps; reading a symbol. -/
namespace Go.Proofs.Ytgkkilbeingleaa
open Go.RowKit Go.Maps
def spA (s : Sp) : List AV := [iv s.1, iv (s.2 : Int)]
def spv (s : Sp) : Value := .agg #[.int .i64 s.1, .int .i64 (s.2 : Int)]
theorem spA_len (s : Sp) : (spA s).length = 2 := rfl
theorem spA_take (s : Sp) : (spA s).take 2 = spA s := rfl
theorem spv_inj {s q : Sp} (h : spv s = spv q) : s = q := by
  unfold spv at h
  injection h with h
  have h2 := congrArg Array.toList h
  simp only [List.cons.injEq, Value.int.injEq, true_and, and_true] at h2
  obtain ⟨s1, s2⟩ := s
  obtain ⟨q1, q2⟩ := q
  simp only at h2
  obtain ⟨rfl, h3⟩ := h2
  rw [Int.ofNat.inj h3]
theorem lawSp : Keyed Try.prog 91 := Keyed.of_law (deep_law_laid laid (m := 3) (by omega) (of_decide_eq_true (by kernel_rfl)) (by kernel_rfl) (by kernel_rfl))
theorem cellsSp : Try.prog.cellsOf 91 = 2 := by kernel_rfl
theorem typeSp : Try.prog.keyType 91 = true := by kernel_rfl
theorem keySp {s : Sp} (h1 : 0 ≤ s.1 ∧ s.1 < 1000000) (h2 : s.2 < 1000000) : (keyOf Try.prog 91 (spv s)).isSome = true := by
  obtain ⟨d, hd⟩ := fuel3
  have w1 := (show I64 s.1 by unfold I64; omega).wf
  have w2 := (show I64 (s.2 : Int) by unfold I64; omega).wf
  unfold keyOf spv
  rw [Try.underlying91, hd]
  simp [typeSp, Value.formed, Value.cells, Program.keyLits, Try.underlying91, Try.underlying3, cellsSp, cellsInt, w1, w2]
theorem spA_val (s : Sp) : (AV.agg (spA s)).val = some (spv s) := rfl
open Classical in
/-- a set of spots -/
noncomputable def sF (L : List Sp) : Value → Option AV := fun u => if ∃ s ∈ L, u = spv s then some (iv 1) else none
theorem sF_nil : sF [] = fun _ => none := by funext u; simp [sF]
theorem sF_snoc (L : List Sp) (s : Sp) : putA (sF L) (spv s) (iv 1) = sF (L ++ [s]) := by
  funext u
  by_cases h : u = spv s
  · subst h
    rw [putA_same]
    unfold sF
    rw [if_pos ⟨s, by simp, rfl⟩]
  · rw [putA_other _ _ h]
    unfold sF
    by_cases hx : ∃ x ∈ L, u = spv x
    · obtain ⟨x, hx, rfl⟩ := hx
      rw [if_pos ⟨x, hx, rfl⟩, if_pos ⟨x, by simp [hx], rfl⟩]
    · rw [if_neg hx, if_neg]
      rintro ⟨x, hxm, rfl⟩
      rcases List.mem_append.1 hxm with hm | hm
      · exact hx ⟨x, hm, rfl⟩
      · rcases List.mem_singleton.1 hm with rfl
        exact h rfl
theorem sF_in {L : List Sp} {s : Sp} (h : s ∈ L) : sF L (spv s) = some (iv 1) := by unfold sF; rw [if_pos ⟨s, h, rfl⟩]
theorem sF_out {L : List Sp} {s : Sp} (h : s ∉ L) : sF L (spv s) = none := by
  unfold sF
  rw [if_neg]
  rintro ⟨x, hx, e⟩
  exact h (spv_inj e ▸ hx)
theorem sF_some {L : List Sp} {u : Value} {a : AV} (h : sF L u = some a) : ∃ s ∈ L, u = spv s ∧ a = iv 1 := by
  unfold sF at h
  split at h
  · rename_i hx
    obtain ⟨s, hs, rfl⟩ := hx
    injection h with h
    exact ⟨s, hs, rfl, h.symm⟩
  · cases h
/-- what is asked -/
structure OutAt (H : AH) (o : Nat) (m : Mac) (I : List Int) (e : Nat) (l : AV) : Prop where
  box : H.get o = some (.box 85 [.dsl 1 (fromE m), .dsl 1 (nE I), .mp e, l])
theorem c_reads {H : AH} {o e : Nat} {m : Mac} {I : List Int} {l : AV} (ho : OutAt H o m I e l) (hI : I.length ≤ 60) (s : Sp) (hs : s.2 ≤ I.length) (a : Arc) :
    Tri Try.prog 52 [.ptr o 0, .agg (spA s), .agg a.cs] H (fun r H' => H' = H ∧ r = .tup [.agg (spA ((rdS I s a).getD (0, 0))), bv (rdS I s a).isSome]) := tri_wf fun hw => tri_outer_reads (by
  have hml : maxLen = 9223372036854775807 := by decide
  have hb := ho.box
  have hbn := (hw _ _ hb).1
  obtain ⟨s1, s2⟩ := s
  dsimp only at hs
  have hiv := ivn (i := s2) (by omega)
  unfold S_outer_reads spA Arc.cs
  by_cases h0 : a.inn = 0
  · have hr : rdS I (s1, s2) a = some (a.to, s2) := by unfold rdS; rw [if_pos h0]
    simp (disch := first | omega | simp) [iv, h0, put_get_ne]
    exact rt_one hw (by repeat (first | with_reducible assumption | with_reducible exact AH.le.refl _ | with_reducible apply AH.le.up | (with_reducible refine AH.le.put hw ?_ ?_; · first | omega | (simp only [up_nx, put_nx, kill_nx]; done) | (simp only [up_nx, put_nx, kill_nx]; omega)) | (with_reducible refine AH.le.kill hw ?_ ?_; · first | omega | (simp only [up_nx, put_nx, kill_nx]; done) | (simp only [up_nx, put_nx, kill_nx]; omega)))) (by repeat (first | exact Cl.p _ | exact Cl.dsl _ _ | exact Cl.any | refine Cl.tup ?_ | refine Cl.agg ?_ | exact Clo.nil | refine Clo.cons ?_ ?_)) ⟨rfl, by rw [hr]; rfl⟩
  · simp (disch := first | omega | simp) [iv, h0, put_get_ne]
    unfold S_outer_reads_C1
    by_cases h1 : s2 < I.length
    · have h1' : (s2 : Int) < (I.length : Int) := by omega
      obtain ⟨x, hx⟩ : ∃ x, I[s2]? = some x := ⟨_, List.getElem?_eq_getElem h1⟩
      have hxn : (nE I)[s2]? = some [iv x] := nE_get hx
      have hxg : ∀ h, (nE I)[s2]'h = [iv x] := fun h => (List.getElem?_eq_some_iff.1 hxn).2
      by_cases h2 : x = a.inn
      · have hr : rdS I (s1, s2) a = some (a.to, s2 + 1) := by unfold rdS; rw [if_neg h0, if_pos (by rw [hx, h2])]
        simp (disch := first | omega | simp) [iv, hb, h1', put_get_ne, hxn, hxg, h2, hiv]
        exact rt_one hw (by repeat (first | with_reducible assumption | with_reducible exact AH.le.refl _ | with_reducible apply AH.le.up | (with_reducible refine AH.le.put hw ?_ ?_; · first | omega | (simp only [up_nx, put_nx, kill_nx]; done) | (simp only [up_nx, put_nx, kill_nx]; omega)) | (with_reducible refine AH.le.kill hw ?_ ?_; · first | omega | (simp only [up_nx, put_nx, kill_nx]; done) | (simp only [up_nx, put_nx, kill_nx]; omega)))) (by repeat (first | exact Cl.p _ | exact Cl.dsl _ _ | exact Cl.any | refine Cl.tup ?_ | refine Cl.agg ?_ | exact Clo.nil | refine Clo.cons ?_ ?_)) ⟨rfl, by rw [hr]; simp [bv]⟩
      · have hr : rdS I (s1, s2) a = none := by unfold rdS; rw [if_neg h0, if_neg (by rw [hx]; intro e; injection e with e; exact h2 e)]
        simp (disch := first | omega | simp) [iv, hb, h1', put_get_ne, hxn, hxg, h2, hiv]
        exact rt_one hw (by repeat (first | with_reducible assumption | with_reducible exact AH.le.refl _ | with_reducible apply AH.le.up | (with_reducible refine AH.le.put hw ?_ ?_; · first | omega | (simp only [up_nx, put_nx, kill_nx]; done) | (simp only [up_nx, put_nx, kill_nx]; omega)) | (with_reducible refine AH.le.kill hw ?_ ?_; · first | omega | (simp only [up_nx, put_nx, kill_nx]; done) | (simp only [up_nx, put_nx, kill_nx]; omega)))) (by repeat (first | exact Cl.p _ | exact Cl.dsl _ _ | exact Cl.any | refine Cl.tup ?_ | refine Cl.agg ?_ | exact Clo.nil | refine Clo.cons ?_ ?_)) ⟨rfl, by rw [hr]; rfl⟩
    · have h1' : ¬ (s2 : Int) < (I.length : Int) := by omega
      have hr : rdS I (s1, s2) a = none := by unfold rdS; rw [if_neg h0, if_neg (by rw [List.getElem?_eq_none (by omega)]; intro e; cases e)]
      simp (disch := first | omega | simp) [iv, hb, h1', put_get_ne, hiv]
      exact rt_one hw (by repeat (first | with_reducible assumption | with_reducible exact AH.le.refl _ | with_reducible apply AH.le.up | (with_reducible refine AH.le.put hw ?_ ?_; · first | omega | (simp only [up_nx, put_nx, kill_nx]; done) | (simp only [up_nx, put_nx, kill_nx]; omega)) | (with_reducible refine AH.le.kill hw ?_ ?_; · first | omega | (simp only [up_nx, put_nx, kill_nx]; done) | (simp only [up_nx, put_nx, kill_nx]; omega)))) (by repeat (first | exact Cl.p _ | exact Cl.dsl _ _ | exact Cl.any | refine Cl.tup ?_ | refine Cl.agg ?_ | exact Clo.nil | refine Clo.cons ?_ ?_)) ⟨rfl, by rw [hr]; rfl⟩)
end Go.Proofs.Ytgkkilbeingleaa

/- Spots that steps that write nothing lead to: by a list of what is still to be looked at. Plain. -/
namespace Go.Proofs.Ytgkkilbeingleaa
def Vs (m : Mac) (I : List Int) (s : Sp) : Prop := 0 ≤ s.1 ∧ s.1 < m.states ∧ s.2 ≤ I.length
def spL (m : Mac) (I : List Int) : List Sp := (List.range m.states.toNat).flatMap fun s : Nat => (List.range (I.length + 1)).map fun i => ((s : Int), i)
theorem spL_len (m : Mac) (I : List Int) : (spL m I).length = m.states.toNat * (I.length + 1) := by simp [spL, List.length_flatMap, List.map_const', List.sum_replicate_nat]
theorem spL_mem {m : Mac} {I : List Int} {s : Sp} (h : Vs m I s) : s ∈ spL m I := by
  obtain ⟨h1, h2, h3⟩ := h
  unfold spL
  exact List.mem_flatMap.2 ⟨s.1.toNat, List.mem_range.2 (by omega), List.mem_map.2 ⟨s.2, List.mem_range.2 (by omega), by rw [Int.toNat_of_nonneg h1]⟩⟩
theorem nodup_le {α : Type} : ∀ {l m : List α}, l.Nodup → (∀ x ∈ l, x ∈ m) → l.length ≤ m.length
  | [], m, _, _ => Nat.zero_le _
  | a :: l, m, h, hs => by
    obtain ⟨h1, h2⟩ := List.nodup_cons.1 h
    obtain ⟨s, t, rfl⟩ := List.append_of_mem (hs a (by simp))
    have := nodup_le (m := s ++ t) h2 fun x hx => by
      have hm := hs x (List.mem_cons_of_mem _ hx)
      have hne : x ≠ a := fun e => h1 (by rw [← e]; exact hx)
      simp only [List.mem_append, List.mem_cons] at hm ⊢
      rcases hm with hm | hm | hm
      · exact .inl hm
      · exact absurd hm hne
      · exact .inr hm
    simp only [List.length_append, List.length_cons] at this ⊢
    omega
theorem vs_le {m : Mac} {I : List Int} (hm : m.Ok) (hI : I.length ≤ 60) {B : List Sp} (h : B.Nodup) (hv : ∀ s ∈ B, Vs m I s) : B.length ≤ 183000 := by
  have h1 := nodup_le h fun s hs => spL_mem (hv s hs)
  rw [spL_len] at h1
  have h2 : m.states.toNat * (I.length + 1) ≤ 3000 * 61 := Nat.mul_le_mul (by have := hm.2.1; omega) (by omega)
  omega
theorem vs_step {m : Mac} {I : List Int} (hm : m.Ok) {s q : Sp} {a : Arc} (ha : a ∈ m.arcs) (hr : rdS I s a = some q) (hs : Vs m I s) : Vs m I q := by
  have hb := hm.2.2.2.2.1 a ha
  obtain ⟨e1, e2, _⟩ := rdS_adv hb.2.2.2.2.1 hr hs.2.2
  exact ⟨by omega, by omega, e2⟩
/-- what is known while spots are looked at -/
structure QI (m : Mac) (I : List Int) (A B W : List Sp) : Prop where
  nd : B.Nodup
  ok : ∀ s ∈ B, Vs m I s
  sub : ∀ s ∈ W, s ∈ B
  src : ∀ s ∈ B, cl m I (· ∈ A) s
  has : ∀ s ∈ A, s ∈ B
  don : ∀ s ∈ B, s ∈ W ∨ ∀ q, qst m I s q → q ∈ B
theorem QI.start {m : Mac} {I : List Int} {A S : List Sp} (h1 : S.Nodup) (h2 : ∀ s ∈ S, s ∈ A) (h3 : ∀ s ∈ A, s ∈ S) (hv : ∀ s ∈ A, Vs m I s) : QI m I A S S :=
  ⟨h1, fun s hs => hv s (h2 s hs), fun _ h => h, fun s hs => ⟨s, h2 s hs, .refl _⟩, h3, fun _ h => .inl h⟩
theorem QI.done {m : Mac} {I : List Int} {A B : List Sp} (h : QI m I A B []) (q : Sp) : q ∈ B ↔ cl m I (· ∈ A) q := by
  refine ⟨h.src q, ?_⟩
  rintro ⟨s, hs, hq⟩
  induction hq with
  | refl => exact h.has s hs
  | snoc _ k ih =>
    rcases h.don _ ih with hw | hw
    · cases hw
    · exact hw _ k
/-- .. and while the arcs of one of them are -/
structure QX (m : Mac) (I : List Int) (A B W : List Sp) (s : Sp) (L : List Arc) : Prop where
  nd : B.Nodup
  ok : ∀ s ∈ B, Vs m I s
  sub : ∀ s ∈ W, s ∈ B
  src : ∀ s ∈ B, cl m I (· ∈ A) s
  has : ∀ s ∈ A, s ∈ B
  cur : s ∈ B
  don : ∀ t ∈ B, t ∈ W ∨ t = s ∨ ∀ q, qst m I t q → q ∈ B
  prt : ∀ a ∈ L, a.out = 0 → ∀ q, rdS I s a = some q → q ∈ B
theorem QX.start {m : Mac} {I : List Int} {A B W : List Sp} {s : Sp} (h : QI m I A B (W ++ [s])) : QX m I A B W s [] :=
  ⟨h.nd, h.ok, fun t ht => h.sub t (by simp [ht]), h.src, h.has, h.sub s (by simp), fun t ht => by
    rcases h.don t ht with h1 | h1
    · rcases List.mem_append.1 h1 with h1 | h1
      · exact .inl h1
      · exact .inr (.inl (List.mem_singleton.1 h1))
    · exact .inr (.inr h1), fun a ha => by cases ha⟩
theorem QX.end_ {m : Mac} {I : List Int} {A B W : List Sp} {s : Sp} {L : List Arc} (h : QX m I A B W s L) (hL : ∀ a ∈ m.arcs, a.fr = s.1 → a ∈ L) : QI m I A B W :=
  ⟨h.nd, h.ok, h.sub, h.src, h.has, fun t ht => by
    rcases h.don t ht with h1 | rfl | h1
    · exact .inl h1
    · exact .inr fun q ⟨a, ha, hf, hr, ho⟩ => h.prt a (hL a ha hf) ho q hr
    · exact .inr h1⟩
theorem QX.skip {m : Mac} {I : List Int} {A B W : List Sp} {s : Sp} {L : List Arc} {a : Arc} (h : QX m I A B W s L) (hs : a.out = 0 → ∀ q, rdS I s a = some q → q ∈ B) : QX m I A B W s (L ++ [a]) :=
  ⟨h.nd, h.ok, h.sub, h.src, h.has, h.cur, h.don, fun x hx => by
    rcases List.mem_append.1 hx with hx | hx
    · exact h.prt x hx
    · rcases List.mem_singleton.1 hx with rfl
      exact hs⟩
theorem QX.more {m : Mac} {I : List Int} (hm : m.Ok) {A B W : List Sp} {s q : Sp} {L : List Arc} {a : Arc} (h : QX m I A B W s L) (ha : a ∈ m.arcs) (hf : a.fr = s.1) (ho : a.out = 0) (hr : rdS I s a = some q) (hq : q ∉ B) : QX m I A (B ++ [q]) (W ++ [q]) s (L ++ [a]) := by
  have hin : ∀ t, t ∈ B → t ∈ B ++ [q] := fun t ht => by simp [ht]
  refine ⟨List.nodup_append.2 ⟨h.nd, by simp, fun x hx y hy => ?_⟩, fun t ht => ?_, fun t ht => ?_, fun t ht => ?_, fun t ht => hin t (h.has t ht), hin _ h.cur, fun t ht => ?_, fun x hx => ?_⟩
  · rcases List.mem_singleton.1 hy with rfl
    exact fun e => hq (e ▸ hx)
  · rcases List.mem_append.1 ht with ht | ht
    · exact h.ok t ht
    · rcases List.mem_singleton.1 ht with rfl
      exact vs_step hm ha hr (h.ok s h.cur)
  · rcases List.mem_append.1 ht with ht | ht
    · exact hin t (h.sub t ht)
    · simp at ht; simp [ht]
  · rcases List.mem_append.1 ht with ht | ht
    · exact h.src t ht
    · rcases List.mem_singleton.1 ht with rfl
      obtain ⟨x, hx, k⟩ := h.src s h.cur
      exact ⟨x, hx, .snoc k ⟨a, ha, hf, hr, ho⟩⟩
  · rcases List.mem_append.1 ht with ht | ht
    · rcases h.don t ht with h1 | h1 | h1
      · exact .inl (by simp [h1])
      · exact .inr (.inl h1)
      · exact .inr (.inr fun x hx => hin x (h1 x hx))
    · exact .inl (by simp at ht; simp [ht])
  · rcases List.mem_append.1 hx with hx | hx
    · exact fun h1 y h2 => hin y (h.prt x hx h1 y h2)
    · rcases List.mem_singleton.1 hx with rfl
      intro _ y hy
      rw [hr] at hy; injection hy with hy
      simp [hy]
end Go.Proofs.Ytgkkilbeingleaa

/- Outs: what silent steps lead to. -/
namespace Go.Proofs.Ytgkkilbeingleaa
open Go.RowKit Go.Maps
theorem avSp (s : Sp) : avOfV (spv s) = .agg (spA s) := by simp [avOfV, spv, spA, iv, Value.oneCell']
theorem vals_sp (s : Sp) : (vals (spA s)).map (fun vs => Value.agg vs.toArray) = some (spv s) := rfl
/-- what is handed back -/
def QuietQ (m : Mac) (I : List Int) (A : List Sp) (H : AH) (r : AV) (H' : AH) : Prop := ∃ d B, r = .mp d ∧ H.nx ≤ d ∧ d < H'.nx ∧ H'.get d = some (.map 91 B.length (sF B)) ∧ B.Nodup ∧ (∀ s ∈ B, Vs m I s) ∧ (∀ q, q ∈ B ↔ cl m I (· ∈ A) q) ∧ H.le H' ∧ H.nx ≤ H'.nx
theorem dt_sp (l : List Sp) : DtR (l.map spA) := by
  intro e he a ha
  obtain ⟨c, _, rfl⟩ := List.mem_map.1 he
  simp only [spA, iv, List.mem_cons, List.not_mem_nil, or_false] at ha
  rcases ha with rfl | rfl <;> exact Dt.p _
theorem Vs.key {m : Mac} (hm : m.Ok) {I : List Int} (hI : I.length ≤ 60) {s : Sp} (h : Vs m I s) : (keyOf Try.prog 91 (spv s)).isSome = true := by
  obtain ⟨h1, h2, h3⟩ := h
  have := hm.2.1
  exact keySp ⟨h1, by omega⟩ (by omega)
set_option maxHeartbeats 2000000 in
theorem c_quiet {H : AH} {o e k : Nat} {m : Mac} {I : List Int} {l : AV} (hm : m.Ok) (hI : I.length ≤ 60) (ho : OutAt H o m I e l) {A : List Sp} (hk : H.get k = some (.map 91 A.length (sF A))) (hA : A.length ≤ 1000000000) (hv : ∀ s ∈ A, Vs m I s) :
    Tri Try.prog 53 [.ptr o 0, .mp k] H (QuietQ m I A H) := tri_wf fun hw => tri_outer_quiet (by
  have hml : maxLen = 9223372036854775807 := by decide
  have hkn := (hw _ _ hk).1
  have hon := (hw _ _ ho.box).1
  have hok : o ≠ k := fun q => by subst q; rw [ho.box] at hk; cases hk
  unfold S_outer_quiet
  simp (disch := first | omega | simp) [put_get_ne]
  refine nd_rng (n := A.length) (f := sF A) (by simp (disch := first | omega | simp) [hk, mapOf, put_get_ne]) lawSp fun st c => ?_
  generalize hMe : AH.put _ _ _ = M
  have hcl : ClO H.nx (.smap 91 A.length (sF A) st c) := fun x a h => by
    obtain ⟨s, _, _, rfl⟩ := sF_some h
    exact Cl.p _
  have hwM : ∀ _ : Unit, WF (H.put k (.smap 91 A.length (sF A) st c)) := fun _ => hw.put hkn hcl
  have hMl : (H.put k (.smap 91 A.length (sF A) st c)).le M := by
    rw [← hMe]
    intro j u hj
    by_cases q : j = k
    · subst q
      rw [put_get] at hj
      rw [AH.get_put_ne (by omega), put_get]; exact hj
    · rw [AH.get_put_ne q] at hj
      have := (hw _ _ hj).1
      rw [AH.get_put_ne (by omega), AH.get_put_ne q, up_get, AH.get_put_ne (by omega), up_get]; exact hj
  have hMn : M.nx = H.nx + 4 := by rw [← hMe]; rfl
  have hMd : M.get H.nx = some (.map 91 0 (sF [])) := by rw [← hMe, sF_nil]; simp (disch := first | omega | simp) [put_get_ne]
  have hMi : M.get (H.nx + 2 + 1) = some (.miter k st c []) := by rw [← hMe, put_get]
  clear hMe
  generalize hKe : H.put k (.smap 91 A.length (sF A) st c) = K at hwM hMl
  have hKn : K.nx = H.nx := by rw [← hKe]; rfl
  have hKk : K.get k = some (.smap 91 A.length (sF A) st c) := by rw [← hKe, put_get]
  have hKo : ∀ j u, j ≠ k → H.get j = some u → K.get j = some u := fun j u h1 h2 => by rw [← hKe, AH.get_put_ne h1]; exact h2
  clear hKe
  have hwH := hw
  have hw := hwM ()
  refine loop_wf (fun x : List Sp × AV => [x.2]) (fun x H' => K.le H' ∧ M.nx ≤ H'.nx ∧ H'.get H.nx = some (.map 91 x.1.length (sF x.1)) ∧ H'.get (H.nx + 2 + 1) = some (.miter k st c (x.1.map spv)) ∧ x.1.Nodup ∧ (∀ s ∈ x.1, s ∈ A) ∧ Grows 91 2 K H' x.2 (x.1.map spA)) (fun x => A.length - x.1.length) ([], .p (.slice none 0 0)) (.refl (by omega)) ⟨hMl, Nat.le_refl _, hMd, hMi, .nil, (fun _ h => by cases h), .nil _ _ _ _⟩ ?_
  rintro ⟨S, v⟩ H2 hn2 hw2 ⟨hle, hnx, hd, hi, hnd, hsA, hgr⟩ kk hkk
  dsimp only at hd hi hnd hsA hgr hkk ⊢
  have hSl : S.length ≤ A.length := nodup_le hnd hsA
  have hkS : H2.get k = some (.smap 91 A.length (sF A) st c) := hle _ _ hKk
  unfold S_outer_quiet_L4
  simp (disch := first | omega | simp) []
  refine nd_nxt (vis := S.map spv) (by exact hi) (by exact hkS) lawSp (fun x hx => ?_) ?_ (fun hall => ?_) (fun x a hkx hfx hnv hlt => ?_)
  · obtain ⟨s, hs, rfl⟩ := List.mem_map.1 hx
    exact ⟨by rw [sF_in (hsA s hs)]; rfl, (hv s (hsA s hs)).key hm hI⟩
  · exact List.Pairwise.map spv (fun a b h e => h (spv_inj e)) hnd
  · simp (disch := first | omega | simp) []
    have hq0 : QI m I A S S := .start hnd hsA (fun s hs => by
      obtain ⟨q, hq, hqe⟩ := List.mem_map.1 (hall (spv s) ((hv s hs).key hm hI) (by rw [sF_in hs]; rfl))
      rw [← spv_inj hqe]; exact hq) hv
    refine loop_wf (fun x : List Sp × List Sp × AV => [x.2.2]) (fun x H' => K.le H' ∧ H2.nx ≤ H'.nx ∧ H'.get H.nx = some (.map 91 x.1.length (sF x.1)) ∧ QI m I A x.1 x.2.1 ∧ x.2.1.length ≤ x.1.length ∧ Grows 91 2 K H' x.2.2 (x.2.1.map spA)) (fun x => 2 * (183000 - x.1.length) + x.2.1.length) (S, S, v) (.refl (by simp only [up_nx]; omega)) ⟨hle.up, by simp only [up_nx]; omega, hd, hq0, Nat.le_refl _, hgr.same (by simp only [up_nx]; omega) fun j hj _ => rfl⟩ ?_
    rintro ⟨B, W, u⟩ H3 hn3 hw3 ⟨jle, jnx, jd, jq, jw, jg⟩ k3 hk3
    dsimp only at jd jq jw jg hk3 ⊢
    have hBl := vs_le hm hI jq.nd jq.ok
    have hWl : W.length ≤ 1000000000 := by omega
    unfold S_outer_quiet_L3
    simp only [List.getD_cons_zero]
    rw [jg.len, List.length_map]
    by_cases hW : W = []
    · subst hW
      simp (disch := first | omega | simp) []
      refine Gh.step (GW.st (Gst.unstamp (jle _ _ hKk)) (by omega)) (rt_refl ⟨H.nx, B, rfl, Nat.le_refl _, by simp only [put_nx]; omega, ?_, jq.nd, jq.ok, jq.done, ?_, by simp only [put_nx]; omega⟩ (by simp only [put_nx]; omega))
      · rw [AH.get_put_ne (by omega)]; exact jd
      · intro j w hj
        by_cases q : j = k
        · subst q; rw [hk] at hj; injection hj with hj; subst hj; rw [put_get]
        · rw [AH.get_put_ne q]; exact jle _ _ (hKo j w q hj)
    · obtain ⟨W', s, rfl⟩ : ∃ W' s, W = W' ++ [s] := ⟨W.dropLast, W.getLast hW, (List.dropLast_concat_getLast hW).symm⟩
      have hl : (W' ++ [s]).length = W'.length + 1 := by rw [List.length_append]; rfl
      have hlm : ((W' ++ [s]).map spA).length = W'.length + 1 := by rw [List.length_map, hl]
      obtain ⟨R, xs, hu, hRn, hRg, hxs⟩ := jg.at_ (by omega)
      have hxl := hxs W'.length (by omega)
      rw [List.map_append, List.getElem?_append_right (by simp), List.length_map, Nat.sub_self] at hxl
      have hxl : xs[W'.length]? = some (spA s) := hxl
      have hxn := (List.getElem?_eq_some_iff.1 hxl).1
      have hxg : ∀ h, xs[W'.length]'h = spA s := fun h => (List.getElem?_eq_some_iff.1 hxl).2
      have hvs := jq.ok s (jq.sub s (by simp))
      rw [hlm] at hu
      subst hu
      obtain ⟨s1, s2⟩ := s
      obtain ⟨q1, q2, q3⟩ := hvs
      dsimp only at q1 q2 q3
      obtain ⟨n1, rfl⟩ := Int.eq_ofNat_of_zero_le q1
      have hmw : m.states ≤ 3000 := hm.2.1
      have hfr : (fromE m)[n1]? = some [.dsl 5 ((outs m.arcs n1).map Arc.cs)] := oV_get (by omega)
      have hfn := (List.getElem?_eq_some_iff.1 hfr).1
      have hfg : ∀ h, (fromE m)[n1]'h = [.dsl 5 ((outs m.arcs n1).map Arc.cs)] := fun h => (List.getElem?_eq_some_iff.1 hfr).2
      have hob : H3.get o = some (.box 85 [.dsl 1 (fromE m), .dsl 1 (nE I), .mp e, l]) := jle _ _ (hKo _ _ hok ho.box)
      have hw1 : IntKind.i64.wrap (((W'.length + 1 : Nat) : Int) - 1) = (W'.length : Int) := by rw [IntKind.wrap_i64]; omega
      have hpos : (0 : Int) < ((W'.length + 1 : Nat) : Int) := by omega
      rw [hl]
      simp only [Int.natCast_add, Int.natCast_one] at hw1 hpos ⊢
      have hw2 : IntKind.i64.wrap (W'.length : Int) = (W'.length : Int) := by rw [IntKind.wrap_i64]; omega
      have hle1 : (W'.length : Int) ≤ (W'.length : Int) + 1 := by omega
      simp (disch := first | omega | simp) [hpos, hw1, hw2, hle1, hRg, hxl, hxn, hxg, put_get_ne, spA, iv, hob, hfr, hfn, hfg]
      refine ⟨by omega, ?_⟩
      generalize hN : AH.put _ (H3.nx + 6) (.box 91 [.p (.int .i64 (n1 : Int)), _]) = N
      have hNl : K.le N := by rw [← hN]; exact (by repeat (first | with_reducible assumption | with_reducible exact AH.le.refl _ | with_reducible apply AH.le.up | (with_reducible refine AH.le.put hw ?_ ?_; · first | omega | (simp only [up_nx, put_nx, kill_nx]; done) | (simp only [up_nx, put_nx, kill_nx]; omega)) | (with_reducible refine AH.le.kill hw ?_ ?_; · first | omega | (simp only [up_nx, put_nx, kill_nx]; done) | (simp only [up_nx, put_nx, kill_nx]; omega))))
      have hNn : N.nx = H3.nx + 8 := by rw [← hN]; rfl
      have hNd : N.get H.nx = some (.map 91 B.length (sF B)) := by rw [← hN]; simp (disch := first | omega | simp) [put_get_ne, jd]
      have hNs : N.get (H3.nx + 6) = some (.box 91 (spA ((n1 : Int), s2))) := by rw [← hN, put_get]; rfl
      have hNR : N.get R = some (.row 91 2 xs) := by rw [← hN]; simp (disch := first | omega | simp) [put_get_ne, hRg]
      clear hN
      have hgW : Grows 91 2 K N (.osl R 2 0 W'.length) (W'.map spA) := by
        rcases jg with ⟨h, _⟩ | ⟨r, ys, h1, h2, h3, h4, h5, h6⟩
        · cases h
        · have hrR : r = R := (AV.osl.inj h1).1.symm
          subst hrR
          rw [hRg] at h4
          injection h4 with h4
          injection h4 with _ _ h4
          subst h4
          refine .inr ⟨r, xs, by rw [List.length_map], h2, by omega, hNR, ?_, h6⟩
          rw [hlm] at h5
          have e5 := congrArg (List.take W'.length) h5
          rw [List.take_take, Nat.min_eq_left (by omega)] at e5
          rw [List.length_map, e5, List.map_append, List.take_append_of_le_length (by rw [List.length_map]; exact Nat.le_refl _), List.take_of_length_le (by rw [List.length_map]; exact Nat.le_refl _)]
      have hLm : ∀ a ∈ outs m.arcs n1, a ∈ m.arcs ∧ a.fr = (n1 : Int) := fun a ha => by
        unfold outs at ha
        rw [List.mem_filter] at ha
        exact ⟨ha.1, by simpa using ha.2⟩
      have hLa : ∀ a ∈ m.arcs, a.fr = (((n1 : Int), s2) : Sp).1 → a ∈ outs m.arcs n1 := fun a ha hf => by
        unfold outs
        rw [List.mem_filter]
        exact ⟨ha, by simpa using hf⟩
      have hLl : (outs m.arcs n1).length ≤ 20000 := by
        have := outs_le m.arcs n1
        have := hm.2.2.1
        omega
      generalize outs m.arcs n1 = L at hLm hLa hLl
      rw [hl] at jw hWl
      refine loop_wf (fun x : List Sp × List Sp × AV × Nat => [x.2.2.1, iv (x.2.2.2 : Int)]) (fun x H' => K.le H' ∧ N.nx ≤ H'.nx ∧ H'.get H.nx = some (.map 91 x.1.length (sF x.1)) ∧ H'.get (H3.nx + 6) = some (.box 91 (spA ((n1 : Int), s2))) ∧ QX m I A x.1 x.2.1 ((n1 : Int), s2) (L.take x.2.2.2) ∧ x.2.1.length + 1 ≤ x.1.length ∧ Grows 91 2 K H' x.2.2.1 (x.2.1.map spA) ∧ x.2.2.2 ≤ L.length ∧ 2 * (183000 - x.1.length) + x.2.1.length < 2 * (183000 - B.length) + (W' ++ [((n1 : Int), s2)]).length) (fun x => L.length - x.2.2.2) (B, W', .osl R 2 0 W'.length, 0) (.refl (by omega)) ⟨hNl, Nat.le_refl _, hNd, hNs, by dsimp only; rw [List.take_zero]; exact .start jq, jw, hgW, Nat.zero_le _, by dsimp only; rw [hl]; omega⟩ ?_
      rintro ⟨B2, W2, u2, x⟩ H4 hn4 hw4 ⟨yle, ynx, yd, ys, yq, yw, yg, yx, ym⟩ k4 hk4
      dsimp only at yd ys yq yw yg yx ym hk4 ⊢
      have hB2 := vs_le hm hI yq.nd yq.ok
      unfold S_outer_quiet_L2
      by_cases hxl2 : x < L.length
      · obtain ⟨a, ha⟩ : ∃ a, L[x]? = some a := ⟨_, List.getElem?_eq_getElem hxl2⟩
        have hag : ∀ h, L[x]'h = a := fun h => (List.getElem?_eq_some_iff.1 ha).2
        obtain ⟨ham, haf⟩ := hLm a (List.mem_of_getElem? ha)
        have hiv := ivn (i := x) (by omega)
        have hxi : (x : Int) < (L.length : Int) := by omega
        have htk : L.take (x + 1) = L.take x ++ [a] := by rw [List.take_add_one, ha]; rfl
        unfold S_outer_quiet_C1
        have hal : a.cs.length = 5 := rfl
        have hat : a.cs.take 5 = a.cs := rfl
        simp (disch := first | omega | simp) [iv, hxi, hxl2, hag, ha, put_get_ne, ys, spA_len, spA_take, hal, hat]
        generalize hP : AH.up _ 10 = P
        have hPl : K.le P := by rw [← hP]; exact (by repeat (first | with_reducible assumption | with_reducible exact AH.le.refl _ | with_reducible apply AH.le.up | (with_reducible refine AH.le.put hw ?_ ?_; · first | omega | (simp only [up_nx, put_nx, kill_nx]; done) | (simp only [up_nx, put_nx, kill_nx]; omega)) | (with_reducible refine AH.le.kill hw ?_ ?_; · first | omega | (simp only [up_nx, put_nx, kill_nx]; done) | (simp only [up_nx, put_nx, kill_nx]; omega))))
        have hPn : P.nx = H4.nx + 14 := by rw [← hP]; rfl
        have hPd : P.get H.nx = some (.map 91 B2.length (sF B2)) := by rw [← hP]; simp (disch := first | omega | simp) [put_get_ne, yd]
        have hPs : P.get (H3.nx + 6) = some (.box 91 (spA ((n1 : Int), s2))) := by rw [← hP]; simp (disch := first | omega | simp) [put_get_ne, ys]
        have hPa : P.get (H4.nx + 2) = some (.box 53 a.cs) := by rw [← hP]; simp (disch := first | omega | simp) [put_get_ne]
        have hPk : ∀ j, j < H4.nx → P.get j = H4.get j := fun j hj => by rw [← hP, up_get, AH.get_put_ne (by omega), AH.get_put_ne (by omega), up_get]
        clear hP
        have hoP : OutAt P o m I e l := ⟨hPl _ _ (hKo _ _ hok ho.box)⟩
        refine ca_of (by kernel_rfl) (c_reads hoP hI ((n1 : Int), s2) q3 a) ?_
        rintro _ P ⟨rfl, rfl⟩
        have hPa : P.get (H4.nx + 2) = some (.box 53 [iv a.fr, iv a.to, iv a.inn, iv a.out, iv a.w]) := hPa
        have hfin : ∀ Z : AH, K.le Z → H4.nx ≤ Z.nx → (∀ j, j < H4.nx → Z.get j = H4.get j) → (a.out = 0 → ∀ q, rdS I ((n1 : Int), s2) a = some q → q ∈ B2) → k4 [u2, .p (.int .i64 ((x : Int) + 1))] Z := fun Z z1 z2 z3 z4 =>
          hk4 (B2, W2, u2, x + 1) _ _ Z (.refl (by omega)) ⟨z1, by omega, by rw [z3 _ (by omega)]; exact yd, by rw [z3 _ (by omega)]; exact ys, by dsimp only; rw [htk]; exact yq.skip z4, yw, yg.same z2 fun j hj _ => z3 j hj, hxl2, ym⟩ (by show L.length - (x + 1) < L.length - x; omega)
        cases hr : rdS I ((n1 : Int), s2) a with
        | none =>
          simp (disch := first | omega | simp) [bv, put_get_ne, spA_len, spA_take, hiv]
          exact hfin _ (by repeat (first | with_reducible assumption | with_reducible exact AH.le.refl _ | with_reducible apply AH.le.up | (with_reducible refine AH.le.put hw ?_ ?_; · first | omega | (simp only [up_nx, put_nx, kill_nx]; done) | (simp only [up_nx, put_nx, kill_nx]; omega)) | (with_reducible refine AH.le.kill hw ?_ ?_; · first | omega | (simp only [up_nx, put_nx, kill_nx]; done) | (simp only [up_nx, put_nx, kill_nx]; omega)))) (by first | omega | (simp only [up_nx, put_nx, kill_nx]; done) | (simp only [up_nx, put_nx, kill_nx]; omega)) (fun j hj => by rw [AH.get_put_ne (by omega), AH.get_put_ne (by omega)]; exact hPk j hj) (fun _ q h => by rw [hr] at h; cases h)
        | some q =>
          have hvq := vs_step hm ham hr (yq.ok _ yq.cur)
          have hkq := hvq.key hm hI
          by_cases ho0 : a.out = 0
          · by_cases hqB : q ∈ B2
            · have hsf := sF_in hqB
              simp (disch := first | omega | simp) [bv, iv, put_get_ne, spA_len, spA_take, hiv, hPa, hPd, ho0, lawSp, vals_sp, hkq, hsf]
              exact hfin _ (by repeat (first | with_reducible assumption | with_reducible exact AH.le.refl _ | with_reducible apply AH.le.up | (with_reducible refine AH.le.put hw ?_ ?_; · first | omega | (simp only [up_nx, put_nx, kill_nx]; done) | (simp only [up_nx, put_nx, kill_nx]; omega)) | (with_reducible refine AH.le.kill hw ?_ ?_; · first | omega | (simp only [up_nx, put_nx, kill_nx]; done) | (simp only [up_nx, put_nx, kill_nx]; omega)))) (by first | omega | (simp only [up_nx, put_nx, kill_nx]; done) | (simp only [up_nx, put_nx, kill_nx]; omega)) (fun j hj => by rw [AH.get_put_ne (by omega), AH.get_put_ne (by omega)]; exact hPk j hj) (fun _ y h => by rw [hr] at h; injection h with h; exact h ▸ hqB)
            · have hsf := sF_out hqB
              simp (disch := first | omega | simp) [bv, iv, put_get_ne, spA_len, spA_take, hiv, hPa, hPd, ho0, lawSp, vals_sp, hkq, hsf]
              rw [show putA (sF B2) (spv q) (.p (.int .i64 1)) = sF (B2 ++ [q]) from sF_snoc B2 q]
              refine ⟨by omega, ?_⟩
              have hmore := yq.more hm ham haf ho0 hr hqB
              have hmB := vs_le hm hI hmore.nd hmore.ok
              rw [List.length_append, List.length_singleton] at hmB
              have hn0 := yg.not (j := H.nx) fun ys h => by rw [yd] at h; cases h
              have hn1 := yg.not (j := H3.nx + 6) fun zs h => by rw [ys] at h; cases h
              generalize hZ : AH.put _ (P.nx + 3 + 2) _ = Z
              have hZk : ∀ j, j < H4.nx → j ≠ H.nx → Z.get j = H4.get j := fun j h1 h2 => by
                rw [← hZ, AH.get_put_ne (by omega), up_get, AH.get_put_ne h2, up_get, AH.get_put_ne (by omega), AH.get_put_ne (by omega)]; exact hPk j h1
              have hZd : Z.get H.nx = some (.map 91 (B2.length + 1) (sF (B2 ++ [q]))) := by rw [← hZ, AH.get_put_ne (by omega), up_get, put_get]
              have hZr : Z.get (P.nx + 3 + 2) = some (.row 91 2 [spA q]) := by rw [← hZ, put_get]
              have hZn : Z.nx = P.nx + 8 := by rw [← hZ]; simp only [put_nx, up_nx]
              clear hZ
              have hZl : K.le Z := fun j w hj => by
                have hj2 := yle _ _ hj
                have hjn : j < K.nx := (hw _ _ hj).1
                rw [hZk j (by omega) (by omega)]; exact hj2
              refine Grows.app (t := 91) (H0 := K) hw (yg.same (by omega) fun j hj ⟨n, hvj⟩ => hZk j hj (fun e => hn0 n (e ▸ hvj))) hZl (by omega) (by omega) (ys := [spA q]) (by rw [elF_osl, hZr]; rfl) (dt_sp [q]) (by simp only [List.length_map, List.length_singleton]; omega) (by simp only [List.length_map, List.length_singleton]; omega) fun v' H5 g5 l5 n5 k5 _ => ?_
              simp (disch := first | omega | simp) [hiv]
              refine hk4 (B2 ++ [q], W2 ++ [q], v', x + 1) _ _ _ (.refl (by omega)) ⟨l5, by omega, ?_, ?_, ?_, ?_, ?_, hxl2, ?_⟩ (by dsimp only; omega)
              · dsimp only
                rw [k5 _ (by omega) hn0, hZd, List.length_append]; rfl
              · rw [k5 _ (by omega) hn1, hZk _ (by omega) (by omega)]; exact ys
              · dsimp only
                rw [htk]; exact hmore
              · dsimp only
                rw [List.length_append, List.length_append, List.length_singleton]; omega
              · dsimp only
                rw [List.map_append]; exact g5
              · dsimp only
                rw [List.length_append, List.length_append, List.length_singleton]; omega
          · simp (disch := first | omega | simp) [bv, iv, put_get_ne, spA_len, spA_take, hiv, hPa, ho0]
            exact hfin _ (by repeat (first | with_reducible assumption | with_reducible exact AH.le.refl _ | with_reducible apply AH.le.up | (with_reducible refine AH.le.put hw ?_ ?_; · first | omega | (simp only [up_nx, put_nx, kill_nx]; done) | (simp only [up_nx, put_nx, kill_nx]; omega)) | (with_reducible refine AH.le.kill hw ?_ ?_; · first | omega | (simp only [up_nx, put_nx, kill_nx]; done) | (simp only [up_nx, put_nx, kill_nx]; omega)))) (by first | omega | (simp only [up_nx, put_nx, kill_nx]; done) | (simp only [up_nx, put_nx, kill_nx]; omega)) (fun j hj => by rw [AH.get_put_ne (by omega), AH.get_put_ne (by omega)]; exact hPk j hj) (fun h => absurd h ho0)
      · have hxi : ¬ (x : Int) < (L.length : Int) := by omega
        have hxe : x = L.length := by omega
        simp (disch := first | omega | simp) [iv, hxi]
        rw [hxe, List.take_length] at yq
        exact hk3 (B2, W2, u2) _ _ _ (.refl (by omega)) ⟨yle, by omega, yd, yq.end_ hLa, by dsimp only; omega, yg⟩ ym
  · obtain ⟨s, hsm, rfl, rfl⟩ := sF_some hfx
    have hsS : s ∉ S := fun h => hnv (List.mem_map.2 ⟨s, h, rfl⟩)
    have hks := (hv s hsm).key hm hI
    have hkne : k ≠ H.nx + 2 + 1 := by omega
    simp (disch := first | omega | simp) [put_get_ne]
    refine nd_ent (x := spv s) (v := iv 1) (by rw [up_get, put_get]) (by rw [up_get, AH.get_put_ne hkne]; exact hkS) lawSp (sF_in hsm) hks ?_
    rw [avSp]
    simp (disch := first | omega | simp) [put_get_ne, spA_len, spA_take, hd, lawSp, vals_sp, hks]
    rw [show putA (sF S) (spv s) (.p (.int .i64 1)) = sF (S ++ [s]) from sF_snoc S s]
    refine ⟨by omega, ?_⟩
    generalize hN : AH.put _ (H2.nx + 2 + 4 + 3 + 2) _ = N
    have hNk : ∀ j, j < H2.nx → j ≠ H.nx → j ≠ H.nx + 2 + 1 → N.get j = H2.get j := fun j h1 h2 h3 => by
      rw [← hN, AH.get_put_ne (by omega), up_get, AH.get_put_ne h2, up_get, AH.get_put_ne (by omega), AH.get_put_ne (by omega), up_get, AH.get_put_ne h3, up_get]
    have hNd : N.get H.nx = some (.map 91 (S.length + 1) (sF (S ++ [s]))) := by
      rw [← hN, AH.get_put_ne (by omega), up_get, put_get]
    have hNi : N.get (H.nx + 2 + 1) = some (.miter k st c (S.map spv ++ [spv s])) := by
      rw [← hN, AH.get_put_ne (by omega), up_get, AH.get_put_ne (by omega), up_get, AH.get_put_ne (by omega), AH.get_put_ne (by omega), up_get, put_get]
    have hNr : N.get (H2.nx + 2 + 4 + 3 + 2) = some (.row 91 2 [spA s]) := by rw [← hN, put_get]
    have hNn : N.nx = H2.nx + 14 := by rw [← hN]; simp only [put_nx, up_nx]
    clear hN
    have hNl : K.le N := fun j u hj => by
      have hj2 := hle _ _ hj
      have hjn : j < K.nx := (hw _ _ hj).1
      rw [hNk j (by omega) (by omega) (by omega)]; exact hj2
    have hn0 := hgr.not (j := H.nx) fun xs h => by rw [hd] at h; cases h
    have hn1 := hgr.not (j := H.nx + 2 + 1) fun xs h => by rw [hi] at h; cases h
    have hnd2 : (S ++ [s]).Nodup := List.nodup_append.2 ⟨hnd, by simp, fun a ha b hb => by simp at hb; subst hb; exact fun q => hsS (q ▸ ha)⟩
    have hsA2 : ∀ x ∈ S ++ [s], x ∈ A := fun x hx => by
      rcases List.mem_append.1 hx with hx | hx
      · exact hsA x hx
      · rcases List.mem_singleton.1 hx with rfl; exact hsm
    refine Grows.app (t := 91) (H0 := K) hw (hgr.same (by omega) fun j hj ⟨n, hvj⟩ => hNk j hj (fun q => hn0 n (q ▸ hvj)) (fun q => hn1 n (q ▸ hvj))) hNl (by omega) (by omega) (ys := [spA s]) (by rw [elF_osl, hNr]; rfl) (dt_sp [s]) (by simp only [List.length_map, List.length_singleton]; omega) (by simp only [List.length_map, List.length_singleton]; omega) fun v' H3 g3 l3 n3 k3 hfr => ?_
    refine hkk (S ++ [s], v') _ _ _ (.refl (by omega)) ⟨l3, by omega, ?_, ?_, hnd2, hsA2, ?_⟩ ?_
    · dsimp only
      rw [k3 _ (by omega) hn0, hNd, List.length_append]; rfl
    · dsimp only
      rw [k3 _ (by omega) hn1, hNi, List.map_append]; rfl
    · dsimp only
      rw [List.map_append]; exact g3
    · have := nodup_le hnd2 hsA2
      dsimp only
      rw [List.length_append] at this ⊢
      simp only [List.length_singleton] at this ⊢
      omega)
end Go.Proofs.Ytgkkilbeingleaa

/- From where so many symbols may be written: backwards, step by step. Plain. -/
namespace Go.Proofs.Ytgkkilbeingleaa
/-- steps of any kind -/
inductive Rts (R : Sp → Sp → Prop) : Sp → Sp → Prop
  | refl (s : Sp) : Rts R s s
  | snoc {s q r : Sp} : Rts R s q → R q r → Rts R s r
/-- what is known while spots are looked at -/
structure GI (R : Sp → Sp → Prop) (V : Sp → Prop) (A : Sp → Prop) (B W : List Sp) : Prop where
  nd : B.Nodup
  ok : ∀ s ∈ B, V s
  sub : ∀ s ∈ W, s ∈ B
  src : ∀ s ∈ B, ∃ x, A x ∧ Rts R x s
  has : ∀ s, A s → s ∈ B
  don : ∀ s ∈ B, s ∈ W ∨ ∀ q, R s q → q ∈ B
theorem GI.start {R : Sp → Sp → Prop} {V A : Sp → Prop} {S : List Sp} (h1 : S.Nodup) (h2 : ∀ s, s ∈ S ↔ A s) (hv : ∀ s, A s → V s) : GI R V A S S :=
  ⟨h1, fun s hs => hv s ((h2 s).1 hs), fun _ h => h, fun s hs => ⟨s, (h2 s).1 hs, .refl _⟩, fun s hs => (h2 s).2 hs, fun _ h => .inl h⟩
theorem GI.done {R : Sp → Sp → Prop} {V A : Sp → Prop} {B : List Sp} (h : GI R V A B []) (q : Sp) : q ∈ B ↔ ∃ x, A x ∧ Rts R x q := by
  refine ⟨h.src q, ?_⟩
  rintro ⟨s, hs, hq⟩
  induction hq with
  | refl => exact h.has s hs
  | snoc _ k ih =>
    rcases h.don _ ih with hw | hw
    · cases hw
    · exact hw _ k
/-- .. and while the next ones of one of them are -/
structure GX (R : Sp → Sp → Prop) (V : Sp → Prop) (A : Sp → Prop) (B W : List Sp) (s : Sp) (L : List Sp) : Prop where
  nd : B.Nodup
  ok : ∀ s ∈ B, V s
  sub : ∀ s ∈ W, s ∈ B
  src : ∀ s ∈ B, ∃ x, A x ∧ Rts R x s
  has : ∀ s, A s → s ∈ B
  cur : s ∈ B
  don : ∀ t ∈ B, t ∈ W ∨ t = s ∨ ∀ q, R t q → q ∈ B
  prt : ∀ q ∈ L, q ∈ B
theorem GX.start {R : Sp → Sp → Prop} {V A : Sp → Prop} {B W : List Sp} {s : Sp} (h : GI R V A B (W ++ [s])) : GX R V A B W s [] :=
  ⟨h.nd, h.ok, fun t ht => h.sub t (by simp [ht]), h.src, h.has, h.sub s (by simp), fun t ht => by
    rcases h.don t ht with h1 | h1
    · rcases List.mem_append.1 h1 with h1 | h1
      · exact .inl h1
      · exact .inr (.inl (List.mem_singleton.1 h1))
    · exact .inr (.inr h1), fun a ha => by cases ha⟩
theorem GX.end_ {R : Sp → Sp → Prop} {V A : Sp → Prop} {B W : List Sp} {s : Sp} {L : List Sp} (h : GX R V A B W s L) (hL : ∀ q, R s q → q ∈ L) : GI R V A B W :=
  ⟨h.nd, h.ok, h.sub, h.src, h.has, fun t ht => by
    rcases h.don t ht with h1 | rfl | h1
    · exact .inl h1
    · exact .inr fun q hq => h.prt q (hL q hq)
    · exact .inr h1⟩
theorem GX.skip {R : Sp → Sp → Prop} {V A : Sp → Prop} {B W : List Sp} {s q : Sp} {L : List Sp} (h : GX R V A B W s L) (hq : q ∈ B) : GX R V A B W s (L ++ [q]) :=
  ⟨h.nd, h.ok, h.sub, h.src, h.has, h.cur, h.don, fun x hx => by
    rcases List.mem_append.1 hx with hx | hx
    · exact h.prt x hx
    · rcases List.mem_singleton.1 hx with rfl
      exact hq⟩
theorem GX.more {R : Sp → Sp → Prop} {V A : Sp → Prop} {B W : List Sp} {s q : Sp} {L : List Sp} (h : GX R V A B W s L) (hr : R s q) (hv : V q) (hq : q ∉ B) : GX R V A (B ++ [q]) (W ++ [q]) s (L ++ [q]) := by
  have hin : ∀ t, t ∈ B → t ∈ B ++ [q] := fun t ht => by simp [ht]
  refine ⟨List.nodup_append.2 ⟨h.nd, by simp, fun x hx y hy => ?_⟩, fun t ht => ?_, fun t ht => ?_, fun t ht => ?_, fun t ht => hin t (h.has t ht), hin _ h.cur, fun t ht => ?_, fun x hx => ?_⟩
  · rcases List.mem_singleton.1 hy with rfl
    exact fun e => hq (e ▸ hx)
  · rcases List.mem_append.1 ht with ht | ht
    · exact h.ok t ht
    · rcases List.mem_singleton.1 ht with rfl
      exact hv
  · rcases List.mem_append.1 ht with ht | ht
    · exact hin t (h.sub t ht)
    · simp at ht; simp [ht]
  · rcases List.mem_append.1 ht with ht | ht
    · exact h.src t ht
    · rcases List.mem_singleton.1 ht with rfl
      obtain ⟨x, hx, k⟩ := h.src s h.cur
      exact ⟨x, hx, .snoc k hr⟩
  · rcases List.mem_append.1 ht with ht | ht
    · rcases h.don t ht with h1 | h1 | h1
      · exact .inl (by simp [h1])
      · exact .inr (.inl h1)
      · exact .inr (.inr fun x hx => hin x (h1 x hx))
    · exact .inl (by simp at ht; simp [ht])
  · rcases List.mem_append.1 hx with hx | hx
    · exact hin x (h.prt x hx)
    · simp at hx; simp [hx]
/-- a step that writes nothing, told from its end -/
def bst (m : Mac) (I : List Int) (q p : Sp) : Prop := qst m I p q
/-- a step that writes something, told from its end -/
def bld (m : Mac) (I : List Int) (q p : Sp) : Prop := ∃ c, lst m I c p q
theorem rts_qs {m : Mac} {I : List Int} {s q : Sp} : Rts (bst m I) s q ↔ Qs m I q s := by
  constructor
  · intro h
    induction h with
    | refl => exact .refl _
    | snoc _ k ih => exact .cons k ih
  · intro h
    have key : ∀ {a b : Sp}, Qs m I a b → ∀ {c}, Rts (bst m I) c b → Rts (bst m I) c a := by
      intro a b h
      induction h with
      | refl => exact fun h => h
      | snoc _ k ih => exact fun h => ih (.snoc h k)
    exact key h (.refl _)
theorem rd_vs {m : Mac} (hm : m.Ok) {I : List Int} {p q : Sp} {a : Arc} (ha : a ∈ m.arcs) (hf : a.fr = p.1) (hr : rdS I p a = some q) (hq : Vs m I q) : Vs m I p := by
  have hb := hm.2.2.2.2.1 a ha
  refine ⟨by omega, by omega, ?_⟩
  unfold rdS at hr
  by_cases h1 : a.inn = 0
  · rw [if_pos h1] at hr
    injection hr with hr
    have := hq.2.2
    rw [← hr] at this
    exact this
  · rw [if_neg h1] at hr
    split at hr
    · rename_i h2
      have := (List.getElem?_eq_some_iff.1 h2).1
      omega
    · cases hr
/-- where it may end, nothing more being written -/
def endS (m : Mac) (I : List Int) (s : Sp) : Prop := ∃ f ∈ m.fins, s = (f.st, I.length)
/-- where so many symbols may be written, the first one at once -/
def preS (m : Mac) (I : List Int) : Nat → Sp → Prop
  | 0, s => endS m I s
  | n + 1, s => ∃ r, bld m I r s ∧ leftP m I n r
theorem left_iff {m : Mac} (hm : m.Ok) {I : List Int} : ∀ (n : Nat) (p : Sp), leftP m I n p ↔ ∃ x, preS m I n x ∧ Rts (bst m I) x p
  | 0, p => by
    constructor
    · rintro ⟨w, hw, h⟩
      have := List.eq_nil_of_length_eq_zero hw
      subst this
      obtain ⟨f, hf, hq⟩ := (wrs_nil hm).1 h
      exact ⟨_, ⟨f, hf, rfl⟩, rts_qs.2 hq⟩
    · rintro ⟨_, ⟨f, hf, rfl⟩, hq⟩
      exact ⟨[], rfl, (wrs_nil hm).2 ⟨f, hf, rts_qs.1 hq⟩⟩
  | n + 1, p => by
    constructor
    · rintro ⟨w, hw, h⟩
      cases w with
      | nil => cases hw
      | cons c w =>
        rw [List.length_cons] at hw
        obtain ⟨q, r, h1, h2, h3⟩ := (wrs_cons hm).1 h
        exact ⟨q, ⟨r, ⟨c, h2⟩, w, by omega, h3⟩, rts_qs.2 h1⟩
    · rintro ⟨q, ⟨r, ⟨c, h2⟩, w, hw, h3⟩, h1⟩
      exact ⟨c :: w, by rw [List.length_cons, hw], (wrs_cons hm).2 ⟨q, r, rts_qs.1 h1, h2, h3⟩⟩
end Go.Proofs.Ytgkkilbeingleaa

/- Outs: which spots lead where: maps of rows. -/
namespace Go.Proofs.Ytgkkilbeingleaa
open Go.RowKit Go.Maps
/-- a map from spots to rows of spots, as it lies -/
structure BkAt (B H : AH) (d n : Nat) (bk : Sp → List Sp) (rid : Sp → Nat) : Prop where
  map : ∃ f, H.get d = some (.map 91 n f) ∧ (∀ q, bk q = [] → f (spv q) = none) ∧ ∀ q, bk q ≠ [] → f (spv q) = some (.osl (rid q) 2 0 (bk q).length)
  row : ∀ q, bk q ≠ [] → B.nx ≤ rid q ∧ rid q < H.nx ∧ H.get (rid q) = some (.row 91 2 ((bk q).map spA))
  inj : ∀ q p, bk q ≠ [] → bk p ≠ [] → rid q = rid p → q = p
theorem BkAt.same {B H H' : AH} {d n : Nat} {bk : Sp → List Sp} {rid : Sp → Nat} (h : BkAt B H d n bk rid) (hn : H.nx ≤ H'.nx) (hd : H'.get d = H.get d) (hk : ∀ q, bk q ≠ [] → H'.get (rid q) = H.get (rid q)) : BkAt B H' d n bk rid :=
  ⟨by obtain ⟨f, h1, h2⟩ := h.map; exact ⟨f, by rw [hd]; exact h1, h2⟩, fun q hq => by
    obtain ⟨h1, h2, h3⟩ := h.row q hq
    exact ⟨h1, by omega, by rw [hk q hq]; exact h3⟩, h.inj⟩
theorem BkAt.le {B H H' : AH} {d n : Nat} {bk : Sp → List Sp} {rid : Sp → Nat} (h : BkAt B H d n bk rid) (hn : H.nx ≤ H'.nx) (hl : H.le H') : BkAt B H' d n bk rid :=
  ⟨by obtain ⟨f, h1, h2⟩ := h.map; exact ⟨f, hl _ _ h1, h2⟩, fun q hq => by
    obtain ⟨h1, h2, h3⟩ := h.row q hq
    exact ⟨h1, by omega, hl _ _ h3⟩, h.inj⟩
open Classical in
noncomputable def bkPut (bk : Sp → List Sp) (q p : Sp) : Sp → List Sp := fun x => if x = q then bk q ++ [p] else bk x
open Classical in
noncomputable def ridPut (rid : Sp → Nat) (q : Sp) (r : Nat) : Sp → Nat := fun x => if x = q then r else rid x
theorem bkPut_ne {bk : Sp → List Sp} {q p x : Sp} (h : x ≠ q) : bkPut bk q p x = bk x := by unfold bkPut; rw [if_neg h]
theorem bkPut_self (bk : Sp → List Sp) (q p : Sp) : bkPut bk q p q = bk q ++ [p] := by unfold bkPut; rw [if_pos rfl]
theorem ridPut_ne {rid : Sp → Nat} {q x : Sp} {r : Nat} (h : x ≠ q) : ridPut rid q r x = rid x := by unfold ridPut; rw [if_neg h]
theorem ridPut_self (rid : Sp → Nat) (q : Sp) (r : Nat) : ridPut rid q r q = r := by unfold ridPut; rw [if_pos rfl]
theorem bkPut_mem {bk : Sp → List Sp} {q p x y : Sp} : y ∈ bkPut bk q p x ↔ y ∈ bk x ∨ (x = q ∧ y = p) := by
  by_cases h : x = q
  · subst h; rw [bkPut_self, List.mem_append, List.mem_singleton]; simp
  · rw [bkPut_ne h]; simp [h]
/-- a spot more in the row of q: what the region leaves -/
theorem bk_step {B H : AH} {d n : Nat} {bk : Sp → List Sp} {rid : Sp → Nat} (hb : BkAt B H d n bk rid) (hdn : d < H.nx) {q p : Sp} (hkq : (keyOf Try.prog 91 (spv q)).isSome = true) (hn : n + 1 < maxLen) {src r i1 i2 : Nat} (hs : H.get src = some (.row 91 2 [spA p])) (hsd : src ≠ d) (hsr : ∀ x, bk x ≠ [] → rid x ≠ src)
    (hrB : B.nx ≤ r) (hrn : r < H.nx) (hrd : r ≠ d) (hrx : ∀ x, bk x ≠ [] → rid x ≠ r) (hlen : (bk q).length ≤ 1000000) {k : AV → AH → Prop}
    (hk : ∀ H', BkAt B H' d (n + 2) (bkPut bk q p) (ridPut rid q r) → H'.nx = H.nx → (∀ j, j ≠ d → j ≠ r → (bk q ≠ [] → j ≠ rid q) → H'.get j = H.get j) → k .any H') :
    Nd Try.prog i1 (.ment 91 (.p (.slice none 0 0))) [.mp d, .agg (spA q)] (fun v73 =>
      Pu Try.prog (.ext 0) [v73] fun v70 =>
      WrS Try.prog r (.app 91 2 16) [v70, .osl src 2 0 1] fun v74 =>
      Pu Try.prog (.ext 1) [v73] fun v75 =>
      Nd Try.prog i2 (.est 91) [.mp d, v75, v74] k) H := by
  have hml : maxLen = 9223372036854775807 := by decide
  obtain ⟨f, hf, hf0, hf1⟩ := hb.map
  refine nd_ment (n := n) (f := f) (u := spv q) (by rw [hf]; rfl) lawSp (spA_val q) hkq (by omega) fun st c => ?_
  have hrid : ∀ x, bk x ≠ [] → rid x ≠ d := fun x hx e => by
    have := (hb.row x hx).2.2
    rw [e, hf] at this; cases this
  have hputf : ∀ (v : AV) (x : Sp), x ≠ q → ∀ w, putA (putA f (spv q) v) (spv q) w (spv x) = f (spv x) := fun v x hx w => by
    have hx2 : spv x ≠ spv q := fun e => hx (spv_inj e)
    rw [putA_other _ _ hx2, putA_other _ _ hx2]
  have hfin : ∀ (v : AV) (H1 : AH), H1.get d = some (.smap 91 (n + 1) (putA f (spv q) v) st c) → H1.nx = H.nx → H1.get r = some (.row 91 2 ((bk q ++ [p]).map spA)) → (∀ j, j ≠ d → j ≠ r → (bk q ≠ [] → j ≠ rid q) → H1.get j = H.get j) → k .any (H1.put d (.map 91 (n + 1 + 1) (putA (putA f (spv q) v) (spv q) (.osl r 2 0 (bk q ++ [p]).length)))) := by
    intro v H1 k1 k2 k3 k4
    refine hk _ ⟨⟨_, AH.get_put_self, fun x hx => ?_, fun x hx => ?_⟩, fun x hx => ?_, fun x y hx hy e => ?_⟩ (by rw [put_nx]; exact k2) (fun j h1 h2 h3 => by rw [AH.get_put_ne h1]; exact k4 j h1 h2 h3)
    · by_cases hxq : x = q
      · subst hxq; rw [bkPut_self] at hx; simp at hx
      · rw [bkPut_ne hxq] at hx
        rw [hputf v x hxq]; exact hf0 x hx
    · by_cases hxq : x = q
      · subst hxq; rw [putA_same, ridPut_self, bkPut_self]
      · rw [bkPut_ne hxq] at hx
        rw [hputf v x hxq, ridPut_ne hxq, bkPut_ne hxq]; exact hf1 x hx
    · by_cases hxq : x = q
      · subst hxq
        rw [ridPut_self, bkPut_self]
        exact ⟨hrB, by rw [put_nx, k2]; exact hrn, by rw [AH.get_put_ne hrd]; exact k3⟩
      · rw [bkPut_ne hxq] at hx
        obtain ⟨r1, r2, r3⟩ := hb.row x hx
        rw [ridPut_ne hxq, bkPut_ne hxq]
        refine ⟨r1, by rw [put_nx, k2]; exact r2, ?_⟩
        rw [AH.get_put_ne (hrid x hx), k4 _ (hrid x hx) (hrx x hx) (fun hq e => hxq (hb.inj x q hx hq e))]
        exact r3
    · by_cases hxq : x = q
      · by_cases hyq : y = q
        · rw [hxq, hyq]
        · rw [bkPut_ne hyq] at hy
          rw [hxq, ridPut_self, ridPut_ne hyq] at e
          exact absurd e.symm (hrx y hy)
      · rw [bkPut_ne hxq] at hx
        by_cases hyq : y = q
        · rw [hyq, ridPut_self, ridPut_ne hxq] at e
          exact absurd e (hrx x hx)
        · rw [bkPut_ne hyq] at hy
          rw [ridPut_ne hxq, ridPut_ne hyq] at e
          exact hb.inj x y hx hy e
  by_cases hq : bk q = []
  · rw [hf0 q hq]
    simp (disch := first | omega | simp) [Option.getD_none]
    rw [AH.get_put_ne hsd, hs]
    refine ⟨by show 1 ≤ maxLen; omega, by show 1 * 16 ≤ _; omega, ?_⟩
    refine nd_est (n := n + 1) (f := putA f (spv q) (.p (.slice none 0 0))) (u := spv q) (st := st) (c := c) (by rw [AH.get_put_ne hrd.symm, put_get]) lawSp hkq (by rw [putA_same]; rfl) rfl hn ?_
    have h1 := hfin (.p (.slice none 0 0)) ((H.put d (.smap 91 (n + 1) (putA f (spv q) (.p (.slice none 0 0))) st c)).put r (.row 91 2 ([p].map spA))) (by rw [AH.get_put_ne hrd.symm, put_get]) (by simp only [put_nx]) (by rw [put_get, hq]; rfl) (fun j h1 h2 _ => by rw [AH.get_put_ne h2, AH.get_put_ne h1])
    rw [hq] at h1
    exact h1
  · rw [hf1 q hq]
    obtain ⟨r1, r2, r3⟩ := hb.row q hq
    have hrq := hrid q hq
    have hsq := hsr q hq
    simp (disch := first | omega | simp) [Option.getD_some]
    rw [AH.get_put_ne hsd, hs, AH.get_put_ne hrq, r3]
    refine ⟨rfl, rfl, by rw [List.length_map]; exact Nat.le_refl _, by show _ + 1 ≤ maxLen; omega, by show (_ + 1) * 16 ≤ _; omega, ?_⟩
    refine nd_est (n := n + 1) (f := putA f (spv q) (.osl (rid q) 2 0 (bk q).length)) (u := spv q) (st := st) (c := c) (by rw [AH.get_put_ne hrd.symm, AH.kill, AH.get_put_ne (by omega), put_get]) lawSp hkq (by rw [putA_same]; rfl) rfl hn ?_
    have h1 := hfin (.osl (rid q) 2 0 (bk q).length) (((H.put d (.smap 91 (n + 1) (putA f (spv q) (.osl (rid q) 2 0 (bk q).length)) st c)).kill (rid q)).put r (.row 91 2 ((bk q ++ [p]).map spA))) (by rw [AH.get_put_ne hrd.symm, AH.kill, AH.get_put_ne (by omega), put_get]) (by simp only [put_nx, AH.kill]) (by rw [put_get]) (fun j h1 h2 h3 => by rw [AH.get_put_ne h2, AH.kill, AH.get_put_ne (h3 hq), AH.get_put_ne h1])
    have e1 : List.take (bk q).length ((bk q).map spA) ++ [spA p] = (bk q ++ [p]).map spA := by rw [List.take_of_length_le (by rw [List.length_map]; exact Nat.le_refl _), List.map_append]; rfl
    have e2 : (bk q).length + 1 = (bk q ++ [p]).length := by rw [List.length_append]; rfl
    rw [← e2] at h1
    show k _ ((AH.put (AH.kill _ _) r (.row _ _ (List.take (bk q).length ((bk q).map spA) ++ [spA p]))).put d _)
    rw [e1]
    exact h1
end Go.Proofs.Ytgkkilbeingleaa

/- prepare: what leads to what, backwards: the work list. -/
namespace Go.Proofs.Ytgkkilbeingleaa
open Go.RowKit Go.Maps
/-- nothing but a mark where new things begin -/
abbrev Em (n : Nat) : AH := ⟨n, []⟩
theorem Em.le (n : Nat) (H : AH) : (Em n).le H := fun _ _ h => by cases h
theorem Em.wf (n : Nat) : WF (Em n) := fun _ _ h => by cases h
/-- what is as it was, below N, but for f -/
def Off (N f : Nat) (H0 H : AH) : Prop := N ≤ H.nx ∧ ∀ j, j < N → j ≠ f → H.get j = H0.get j
theorem Off.same {N f : Nat} {H0 H H' : AH} (h : Off N f H0 H) (hn : N ≤ H'.nx) (hk : ∀ j, j < N → j ≠ f → H'.get j = H.get j) : Off N f H0 H' := ⟨hn, fun j h1 h2 => (hk j h1 h2).trans (h.2 j h1 h2)⟩
def oslV (r : Nat) (sz : Nat) : Nat → AV
  | 0 => .p (.slice none 0 0)
  | n + 1 => .osl r sz 0 (n + 1)
theorem len_oslV {r sz n : Nat} {k : AV → AH → Prop} {H : AH} : Pu Try.prog .len [oslV r sz n] k H = k (.p (.int .i64 n)) H := by
  cases n with
  | zero => rw [oslV, q_len_nil]; rfl
  | succ n => rw [oslV, q_len_osl]
set_option maxHeartbeats 1000000 in
theorem prep_L4 {H0 H1 : AH} {N f rs c : Nat} {s : Sp} {nv : AV} {R : Sp → Sp → Prop} {V A : Sp → Prop} {B W Ls : List Sp} {v : AV} {kB : Nat}
    (hk : ∀ s, V s → (keyOf Try.prog 91 (spv s)).isSome = true) (hVB : ∀ B : List Sp, B.Nodup → (∀ s ∈ B, V s) → B.length ≤ kB) (hkB : kB ≤ 1000000)
    (hR : ∀ q ∈ Ls, R s q ∧ V q) (hLl : Ls.length ≤ 1000000)
    (ho : Off N f H0 H1) (hfN : f < N) (hrN : Ls ≠ [] → rs < N ∧ rs ≠ f ∧ H0.get rs = some (.row 91 2 (Ls.map spA)))
    (hc : c ≤ 1000000000000 + B.length) (hf : H1.get f = some (.map 91 c (sF B))) (hx : GX R V A B W s []) (hg : Grows 91 2 (Em N) H1 v (W.map spA)) (hW : W.length ≤ B.length)
    {k : List AV → AH → Prop} (hkk : ∀ B' W' v' c' H2, H1.nx ≤ H2.nx → Off N f H0 H2 → c' ≤ 1000000000000 + B'.length → H2.get f = some (.map 91 c' (sF B')) → GX R V A B' W' s Ls → Grows 91 2 (Em N) H2 v' (W'.map spA) → W'.length ≤ B'.length → 2 * (kB - B'.length) + W'.length ≤ 2 * (kB - B.length) + W.length → k [v'] H2) :
    LoopA Try.prog 2 (S_outer_prepare_L4 [.mp f, nv] k (oslV rs 2 Ls.length) (.p (.int .i64 Ls.length))) [v, .p (.int .i64 0)] H1 := by
  have hml : maxLen = 9223372036854775807 := by decide
  refine loop_wf (fun x : List Sp × List Sp × AV × Nat × Nat => [x.2.2.1, iv (x.2.2.2.1 : Int)]) (fun x H' => Off N f H0 H' ∧ x.2.2.2.2 ≤ 1000000000000 + x.1.length ∧ H'.get f = some (.map 91 x.2.2.2.2 (sF x.1)) ∧ GX R V A x.1 x.2.1 s (Ls.take x.2.2.2.1) ∧ Grows 91 2 (Em N) H' x.2.2.1 (x.2.1.map spA) ∧ x.2.1.length ≤ x.1.length ∧ 2 * (kB - x.1.length) + x.2.1.length ≤ 2 * (kB - B.length) + W.length ∧ x.2.2.2.1 ≤ Ls.length) (fun x => Ls.length - x.2.2.2.1) (B, W, v, 0, c) (.refl (Nat.le_refl _)) ⟨ho, hc, hf, by dsimp only; rw [List.take_zero]; exact hx, hg, hW, Nat.le_refl _, Nat.zero_le _⟩ ?_
  rintro ⟨B2, W2, u2, x, c2⟩ H2 hn2 hw2 ⟨yo, yc, yf, yx, yg, yw, ym, yl⟩ k2 hk2
  dsimp only at yc yf yx yg yw ym yl hk2 ⊢
  have hB2 := hVB B2 yx.nd yx.ok
  have hiv := ivn (i := x) (by omega)
  have yn := yo.1
  unfold S_outer_prepare_L4
  by_cases hxl : x < Ls.length
  · have hxi : (x : Int) < (Ls.length : Int) := by omega
    obtain ⟨q, hq⟩ : ∃ q, Ls[x]? = some q := ⟨_, List.getElem?_eq_getElem hxl⟩
    obtain ⟨r1, r2, r3⟩ := hrN (fun e => by rw [e] at hxl; exact absurd hxl (Nat.not_lt_zero _))
    have hRg : H2.get rs = some (.row 91 2 (Ls.map spA)) := by rw [yo.2 rs r1 r2]; exact r3
    have hxq : (Ls.map spA)[x]? = some (spA q) := by rw [List.getElem?_map, hq]; rfl
    have hxn := (List.getElem?_eq_some_iff.1 hxq).1
    have hxg : ∀ h, (Ls.map spA)[x]'h = spA q := fun h => (List.getElem?_eq_some_iff.1 hxq).2
    obtain ⟨hRq, hVq⟩ := hR q (List.mem_of_getElem? hq)
    have hkq := hk q hVq
    have hov : oslV rs 2 Ls.length = .osl rs 2 0 Ls.length := by
      cases h : Ls.length with
      | zero => omega
      | succ n => rfl
    rw [hov]
    have htk : Ls.take (x + 1) = Ls.take x ++ [q] := by rw [List.take_add_one, hq]; rfl
    by_cases hqB : q ∈ B2
    · have hsf := sF_in hqB
      simp (disch := first | omega | simp) [iv, hxi, hxl, hRg, hq, hxq, hxn, hxg, put_get_ne, spA_len, spA_take, yf, lawSp, vals_sp, hkq, hsf, hiv]
      have hiv2 : ((x : Int) + 1) = ((x + 1 : Nat) : Int) := rfl
      rw [hiv2]
      refine hk2 (B2, W2, u2, x + 1, c2) _ _ _ (.refl (by simp only [put_nx, up_nx]; omega)) ⟨yo.same (by simp only [put_nx, up_nx]; omega) fun j h1 h2 => by rw [AH.get_put_ne (by omega), AH.get_put_ne (by omega), up_get], yc, ?_, ?_, yg.same (by simp only [put_nx, up_nx]; omega) fun j hj _ => ?_, yw, ym, hxl⟩ (by dsimp only; omega)
      · dsimp only; rw [AH.get_put_ne (by omega), AH.get_put_ne (by omega), up_get]; exact yf
      · dsimp only; rw [htk]; exact yx.skip hqB
      · rw [AH.get_put_ne (by omega), AH.get_put_ne (by omega), up_get]
    · have hsf := sF_out hqB
      simp (disch := first | omega | simp) [iv, hxi, hxl, hRg, hq, hxq, hxn, hxg, put_get_ne, spA_len, spA_take, yf, lawSp, vals_sp, hkq, hsf, hiv]
      rw [show putA (sF B2) (spv q) (.p (.int .i64 1)) = sF (B2 ++ [q]) from sF_snoc B2 q]
      refine ⟨by omega, ?_⟩
      have hmore := yx.more hRq hVq hqB
      have hmB := hVB _ hmore.nd hmore.ok
      rw [List.length_append, List.length_singleton] at hmB
      have hn0 := yg.not (j := f) fun ys h => by rw [yf] at h; cases h
      generalize hZ : AH.put _ (H2.nx + 4 + 3 + 2) _ = Z
      have hZk : ∀ j, j < H2.nx → j ≠ f → Z.get j = H2.get j := fun j h1 h2 => by
        rw [← hZ, AH.get_put_ne (by omega), up_get, AH.get_put_ne h2, up_get, AH.get_put_ne (by omega), AH.get_put_ne (by omega), up_get]
      have hZd : Z.get f = some (.map 91 (c2 + 1) (sF (B2 ++ [q]))) := by rw [← hZ, AH.get_put_ne (by omega), up_get, put_get]
      have hZr : Z.get (H2.nx + 4 + 3 + 2) = some (.row 91 2 [spA q]) := by rw [← hZ, put_get]
      have hZn : Z.nx = H2.nx + 12 := by rw [← hZ]; simp only [put_nx, up_nx]
      clear hZ
      refine Grows.app (t := 91) (H0 := Em N) (Em.wf N) (yg.same (by omega) fun j hj ⟨n, hvj⟩ => hZk j hj (fun e => hn0 n (e ▸ hvj))) (Em.le _ _) (by show N ≤ _; omega) (by omega) (ys := [spA q]) (by rw [elF_osl, hZr]; rfl) (dt_sp [q]) (by simp only [List.length_map, List.length_singleton]; omega) (by simp only [List.length_map, List.length_singleton]; omega) fun v' H5 g5 l5 n5 k5 _ => ?_
      have hvN : ∀ j, j < N → ∀ n, u2 ≠ .osl j 2 0 n := fun j hj n e => by
        have := yg.ge e
        exact absurd (show N ≤ j from this) (by omega)
      simp (disch := first | omega | simp) [hiv]
      refine hk2 (B2 ++ [q], W2 ++ [q], v', x + 1, c2 + 1) _ _ _ (.refl (by omega)) ⟨yo.same (by omega) fun j h1 h2 => by rw [k5 j (by omega) (hvN j h1)]; exact hZk j (by omega) h2, ?_, ?_, ?_, ?_, ?_, ?_, hxl⟩ (by dsimp only; omega)
      · dsimp only; rw [List.length_append, List.length_singleton]; omega
      · dsimp only; rw [k5 _ (by omega) hn0]; exact hZd
      · dsimp only; rw [htk]; exact hmore
      · dsimp only; rw [List.map_append]; exact g5
      · dsimp only; rw [List.length_append, List.length_append, List.length_singleton]; omega
      · dsimp only; rw [List.length_append, List.length_append, List.length_singleton]; omega
  · have hxi : ¬ (x : Int) < (Ls.length : Int) := by omega
    have hxe : x = Ls.length := by omega
    rw [hxe, List.take_length] at yx
    simp (disch := first | omega | simp) [iv, hxi]
    exact hkk B2 W2 u2 c2 H2 hn2 yo yc yf yx yg yw ym
/-- where back and loud lie, and what they hold -/
structure BL (H : AH) (d1 d2 : Nat) (bk ld : Sp → List Sp) (r1 r2 : Sp → Nat) (n1 n2 : Nat) : Prop where
  b : BkAt (Em 0) H d1 n1 bk r1
  l : BkAt (Em 0) H d2 n2 ld r2
theorem BkAt.look {B H : AH} {d n : Nat} {bk : Sp → List Sp} {rid : Sp → Nat} (h : BkAt B H d n bk rid) (s : Sp) : ∃ f, H.get d = some (.map 91 n f) ∧ (f (spv s)).getD (.p (.slice none 0 0)) = oslV (rid s) 2 (bk s).length := by
  obtain ⟨f, h1, h2, h3⟩ := h.map
  refine ⟨f, h1, ?_⟩
  by_cases hs : bk s = []
  · rw [h2 s hs, hs]; rfl
  · rw [h3 s hs]
    cases h : (bk s).length with
    | zero => exact absurd (List.eq_nil_of_length_eq_zero h) hs
    | succ n => rfl
set_option maxHeartbeats 1000000 in
theorem prep_L7 {H0 H1 : AH} {N f c o d1 n1 : Nat} {nv v28 : AV} {R : Sp → Sp → Prop} {V A : Sp → Prop} {S : List Sp} {v : AV} {kB : Nat} {bk : Sp → List Sp} {rid : Sp → Nat}
    (hk : ∀ s, V s → (keyOf Try.prog 91 (spv s)).isSome = true) (hVB : ∀ B : List Sp, B.Nodup → (∀ s ∈ B, V s) → B.length ≤ kB) (hkB : kB ≤ 1000000)
    (hbk : BkAt (Em 0) H0 d1 n1 bk rid) (hd1 : d1 < N) (hd1f : d1 ≠ f) (hbN : ∀ q, bk q ≠ [] → rid q < N ∧ rid q ≠ f) (hR : ∀ s, V s → ∀ q, q ∈ bk s ↔ R s q) (hRV : ∀ s q, V s → R s q → V q) (hbl : ∀ s, (bk s).length ≤ 1000000)
    (ho : Off N f H0 H1) (hfN : f < N) (hc : c ≤ 1000000000000 + S.length) (hf : H1.get f = some (.map 91 c (sF S))) (hx : GI R V A S S) (hg : Grows 91 2 (Em N) H1 v (S.map spA))
    {k_89 k_108 : List AV → AH → Prop} {B0 : Nat} (hB0 : B0 ≤ H1.nx) {vs0 : List AV} {Hs : AH} (h0 : GW Try.prog Hs.nx vs0 Hs [v] H1)
    (hkk : ∀ B' c' H2, H1.nx ≤ H2.nx → Off N f H0 H2 → c' ≤ 2000000000000 → H2.get f = some (.map 91 c' (sF B')) → GI R V A B' [] → S_outer_prepare_L7 (.ptr o 0) (.mp d1) v28 k_89 [.mp f, nv] [.p (.slice none 0 0)] k_108 H2) :
    LoopA Try.prog 1 (S_outer_prepare_L7 (.ptr o 0) (.mp d1) v28 k_89 [.mp f, nv]) vs0 Hs := by
  have hml : maxLen = 9223372036854775807 := by decide
  refine loop_wf (fun x : List Sp × List Sp × AV × Nat => [x.2.2.1]) (fun x H' => Off N f H0 H' ∧ H1.nx ≤ H'.nx ∧ x.2.2.2 ≤ 1000000000000 + x.1.length ∧ H'.get f = some (.map 91 x.2.2.2 (sF x.1)) ∧ GI R V A x.1 x.2.1 ∧ Grows 91 2 (Em N) H' x.2.2.1 (x.2.1.map spA) ∧ x.2.1.length ≤ x.1.length) (fun x => 2 * (kB - x.1.length) + x.2.1.length) (S, S, v, c) h0 ⟨ho, Nat.le_refl _, hc, hf, hx, hg, Nat.le_refl _⟩ ?_
  rintro ⟨B, W, u, c2⟩ H2 hn2 hw2 ⟨jo, jn, jc, jf, jq, jg, jw⟩ k3 hk3
  dsimp only at jc jf jq jg jw hk3 ⊢
  have hBl := hVB B jq.nd jq.ok
  have yn := jo.1
  unfold S_outer_prepare_L7
  simp only [List.getD_cons_zero]
  rw [jg.len, List.length_map]
  by_cases hW : W = []
  · subst hW
    have := hkk B c2 H2 jn jo (by omega) jf jq
    unfold S_outer_prepare_L7 at this
    simp (disch := first | omega | simp) [] at this ⊢
    exact this
  · obtain ⟨W', s, rfl⟩ : ∃ W' s, W = W' ++ [s] := ⟨W.dropLast, W.getLast hW, (List.dropLast_concat_getLast hW).symm⟩
    have hl : (W' ++ [s]).length = W'.length + 1 := by rw [List.length_append]; rfl
    have hlm : ((W' ++ [s]).map spA).length = W'.length + 1 := by rw [List.length_map, hl]
    obtain ⟨r, xs, hu, hRn, hRg, hxs⟩ := jg.at_ (by omega)
    have hxl := hxs W'.length (by omega)
    rw [List.map_append, List.getElem?_append_right (by simp), List.length_map, Nat.sub_self] at hxl
    have hxl : xs[W'.length]? = some (spA s) := hxl
    have hxn := (List.getElem?_eq_some_iff.1 hxl).1
    have hxg : ∀ h, xs[W'.length]'h = spA s := fun h => (List.getElem?_eq_some_iff.1 hxl).2
    have hvs := jq.ok s (jq.sub s (by simp))
    have hks := hk s hvs
    rw [hlm] at hu
    subst hu
    have hw1 : IntKind.i64.wrap (((W'.length + 1 : Nat) : Int) - 1) = (W'.length : Int) := by rw [IntKind.wrap_i64]; omega
    have hpos : (0 : Int) < ((W'.length + 1 : Nat) : Int) := by omega
    rw [hl]
    simp only [Int.natCast_add, Int.natCast_one] at hw1 hpos ⊢
    have hw2 : IntKind.i64.wrap (W'.length : Int) = (W'.length : Int) := by rw [IntKind.wrap_i64]; omega
    have hle1 : (W'.length : Int) ≤ (W'.length : Int) + 1 := by omega
    obtain ⟨fb, hfb, hfs⟩ := hbk.look s
    have hfb2 : H2.get d1 = some (.map 91 n1 fb) := by rw [jo.2 d1 hd1 hd1f]; exact hfb
    simp (disch := first | omega | simp) [hpos, hw1, hw2, hle1, hRg, hxl, hxn, hxg, put_get_ne, spA_len, spA_take, hfb2, lawSp, vals_sp, hks]
    refine ⟨by omega, ?_⟩
    suffices key : ∀ (y : AV), y = oslV (rid s) 2 (bk s).length → Pu Try.prog .len [y] (fun v136 => LoopA Try.prog 2 (S_outer_prepare_L4 [.mp f, nv] k3 y v136) [.osl r 2 0 W'.length, .p (.int .i64 0)]) (((H2.up 8).put (H2.nx + 6) (.box 91 [.p (.int .i64 0), .p (.int .i64 0)])).put (H2.nx + 6) (.box 91 (spA s))) by
      cases hv : fb (spv s) with
      | none => rw [hv] at hfs; exact key _ hfs
      | some b => rw [hv] at hfs; exact key _ hfs
    rintro y rfl
    rw [len_oslV]
    generalize hZ : AH.put _ (H2.nx + 6) _ = Z
    have hZk : ∀ j, j < H2.nx → Z.get j = H2.get j := fun j h1 => by
      rw [← hZ, AH.get_put_ne (by omega), AH.get_put_ne (by omega), up_get]
    have hZn : Z.nx = H2.nx + 8 := by rw [← hZ]; simp only [put_nx, up_nx]
    clear hZ
    have hoZ : Off N f H0 Z := jo.same (by omega) fun j h1 h2 => hZk j (by omega)
    have hgW : Grows 91 2 (Em N) Z (.osl r 2 0 W'.length) (W'.map spA) := by
      rcases jg with ⟨h, _⟩ | ⟨r', ys, h1, h2, h3, h4, h5, h6⟩
      · cases h
      · have hrR : r' = r := (AV.osl.inj h1).1.symm
        subst hrR
        rw [hRg] at h4
        injection h4 with h4
        injection h4 with _ _ h4
        subst h4
        refine .inr ⟨r', xs, by rw [List.length_map], h2, by omega, by rw [hZk _ h3]; exact hRg, ?_, h6⟩
        rw [hlm] at h5
        have e5 := congrArg (List.take W'.length) h5
        rw [List.take_take, Nat.min_eq_left (by omega)] at e5
        rw [List.length_map, e5, List.map_append, List.take_append_of_le_length (by rw [List.length_map]; exact Nat.le_refl _), List.take_of_length_le (by rw [List.length_map]; exact Nat.le_refl _)]
    rw [hl] at jw
    refine prep_L4 (H0 := H0) (N := N) (kB := kB) (V := V) (A := A) (R := R) (B := B) (W := W') (s := s) (c := c2) hk hVB hkB (fun q hq => by
      have := (hR s hvs q).1 hq
      exact ⟨this, hRV s q hvs this⟩) (hbl s) hoZ hfN (fun h => ⟨(hbN s h).1, (hbN s h).2, (hbk.row s h).2.2⟩) jc (by rw [hZk _ (by omega)]; exact jf) (.start jq) hgW (by omega) ?_
    intro B' W'' v' c' H3 m1 m2 m3 m4 m5 m6 m7 m8
    exact hk3 (B', W'', v', c') _ _ _ (.refl (by omega)) ⟨m2, by omega, m3, m4, m5.end_ fun q hq => (hR s hvs q).2 hq, m6, m7⟩ (by dsimp only; rw [hl]; omega)
end Go.Proofs.Ytgkkilbeingleaa

/- prepare: what comes ahead, one symbol before. -/
namespace Go.Proofs.Ytgkkilbeingleaa
open Go.RowKit Go.Maps
set_option maxHeartbeats 1000000 in
theorem prep_L5 {H1 : AH} {g c rs : Nat} {X Ls : List Sp} {k : List AV → AH → Prop}
    (hkey : ∀ q ∈ Ls, (keyOf Try.prog 91 (spv q)).isSome = true) (hLl : Ls.length ≤ 1000000) (hc : c ≤ 1000000000000000)
    (hg : H1.get g = some (.map 91 c (sF X))) (hgn : g < H1.nx) (hrN : Ls ≠ [] → rs < H1.nx ∧ H1.get rs = some (.row 91 2 (Ls.map spA)))
    (hkk : ∀ H2, Off H1.nx g H1 H2 → H2.get g = some (.map 91 (c + Ls.length) (sF (X ++ Ls))) → k [] H2) :
    LoopA Try.prog 1 (S_outer_prepare_L5 (.mp g) k (oslV rs 2 Ls.length) (.p (.int .i64 Ls.length))) [.p (.int .i64 0)] H1 := by
  have hml : maxLen = 9223372036854775807 := by decide
  refine loop_wf (fun x : Nat => [iv (x : Int)]) (fun x H' => Off H1.nx g H1 H' ∧ H'.get g = some (.map 91 (c + x) (sF (X ++ Ls.take x))) ∧ x ≤ Ls.length) (fun x => Ls.length - x) 0 (.refl (Nat.le_refl _)) ⟨⟨Nat.le_refl _, fun _ _ _ => rfl⟩, by rw [List.take_zero, List.append_nil]; exact hg, Nat.zero_le _⟩ ?_
  rintro x H2 hn2 hw2 ⟨yo, yg, yl⟩ k2 hk2
  have hiv := ivn (i := x) (by omega)
  have yn := yo.1
  unfold S_outer_prepare_L5
  by_cases hxl : x < Ls.length
  · have hxi : (x : Int) < (Ls.length : Int) := by omega
    obtain ⟨q, hq⟩ : ∃ q, Ls[x]? = some q := ⟨_, List.getElem?_eq_getElem hxl⟩
    obtain ⟨r1, r3⟩ := hrN (fun e => by rw [e] at hxl; exact absurd hxl (Nat.not_lt_zero _))
    have r2 : rs ≠ g := fun e => by rw [e, hg] at r3; cases r3
    have hRg : H2.get rs = some (.row 91 2 (Ls.map spA)) := by rw [yo.2 rs r1 r2]; exact r3
    have hxq : (Ls.map spA)[x]? = some (spA q) := by rw [List.getElem?_map, hq]; rfl
    have hxn := (List.getElem?_eq_some_iff.1 hxq).1
    have hxg : ∀ h, (Ls.map spA)[x]'h = spA q := fun h => (List.getElem?_eq_some_iff.1 hxq).2
    have hkq := hkey q (List.mem_of_getElem? hq)
    have hov : oslV rs 2 Ls.length = .osl rs 2 0 Ls.length := by
      cases h : Ls.length with
      | zero => omega
      | succ n => rfl
    rw [hov]
    have htk : Ls.take (x + 1) = Ls.take x ++ [q] := by rw [List.take_add_one, hq]; rfl
    simp (disch := first | omega | simp) [iv, hxi, hxl, hRg, hq, hxq, hxn, hxg, put_get_ne, spA_len, spA_take, yg, lawSp, vals_sp, hkq, hiv]
    rw [show putA (sF (X ++ Ls.take x)) (spv q) (.p (.int .i64 1)) = sF (X ++ Ls.take x ++ [q]) from sF_snoc _ q]
    refine ⟨by omega, ?_⟩
    have hiv2 : ((x : Int) + 1) = ((x + 1 : Nat) : Int) := rfl
    rw [hiv2]
    refine hk2 (x + 1) _ _ _ (.refl (by simp only [put_nx, up_nx]; omega)) ⟨yo.same (by simp only [put_nx, up_nx]; omega) fun j h1 h2 => by rw [AH.get_put_ne h2, up_get, AH.get_put_ne (by omega), AH.get_put_ne (by omega), up_get], ?_, hxl⟩ (by omega)
    rw [put_get, htk, List.append_assoc]; rfl
  · have hxi : ¬ (x : Int) < (Ls.length : Int) := by omega
    have hxe : x = Ls.length := by omega
    rw [hxe, List.take_length] at yg
    simp (disch := first | omega | simp) [iv, hxi]
    exact hkk H2 yo yg
set_option maxHeartbeats 1000000 in
theorem prep_L6 {H1 : AH} {f g it cF cc d2 n2 : Nat} {st : Value → Nat} {B : List Sp} {ld : Sp → List Sp} {rid : Sp → Nat} {V : Sp → Prop} {nv : AV} {n : Nat} {k_89 : List AV → AH → Prop}
    (hk : ∀ s, V s → (keyOf Try.prog 91 (spv s)).isSome = true) (hB : ∀ s ∈ B, V s) (hnd : B.Nodup) (hBl : B.length ≤ 1000000) (hld : BkAt (Em 0) H1 d2 n2 ld rid) (hV : ∀ s q, V s → q ∈ ld s → V q) (hlen : ∀ s, (ld s).length ≤ 1000000)
    (hd2 : d2 < H1.nx) (hf : H1.get f = some (.smap 91 cF (sF B) st cc)) (hi : H1.get it = some (.miter f st cc [])) (hg : H1.get g = some (.map 91 0 (sF []))) (hgd : g ≠ d2) (hgn : g < H1.nx) (hfn : f < H1.nx) (hin : it < H1.nx) (hn : n < 1000000)
    (hkk : ∀ X c H2, H1.nx ≤ H2.nx → (∀ j, j < H1.nx → j ≠ g → j ≠ it → H2.get j = H1.get j) → H2.get g = some (.map 91 c (sF X)) → c ≤ 1000000000000 → (∀ q, q ∈ X ↔ ∃ r ∈ B, q ∈ ld r) → k_89 [.mp g, iv ((n + 1 : Nat) : Int)] H2) :
    LoopA Try.prog 0 (S_outer_prepare_L6 (.mp d2) k_89 [nv, iv (n : Int)] (.mp g) (.ptr it 0)) [] H1 := by
  have hml : maxLen = 9223372036854775807 := by decide
  have hfg : f ≠ g := fun e => by rw [e, hg] at hf; cases hf
  have hfi : f ≠ it := fun e => by rw [e, hi] at hf; cases hf
  have hgi : g ≠ it := fun e => by rw [e, hi] at hg; cases hg
  have hdi : d2 ≠ it := fun e => by obtain ⟨u, h1, _⟩ := hld.map; rw [e, hi] at h1; cases h1
  refine loop_wf (fun _ : List Sp × List Sp => []) (fun x H' => H1.nx ≤ H'.nx ∧ (∀ j, j < H1.nx → j ≠ g → j ≠ it → H'.get j = H1.get j) ∧ H'.get g = some (.map 91 x.2.length (sF x.2)) ∧ x.2.length ≤ x.1.length * 1000000 ∧ H'.get it = some (.miter f st cc (x.1.map spv)) ∧ x.1.Nodup ∧ (∀ s ∈ x.1, s ∈ B) ∧ ∀ q, q ∈ x.2 ↔ ∃ r ∈ x.1, q ∈ ld r) (fun x => B.length - x.1.length) ([], []) (.refl (Nat.le_refl _)) ⟨Nat.le_refl _, fun _ _ _ _ => rfl, hg, Nat.zero_le _, hi, .nil, (fun _ h => by cases h), fun q => by simp⟩ ?_
  rintro ⟨S, X⟩ H2 hn2 hw2 ⟨jn, jk, jg, jl, ji, jnd, jsB, jX⟩ k3 hk3
  dsimp only at jg jl ji jnd jsB jX hk3 ⊢
  have hSl : S.length ≤ B.length := nodup_le jnd jsB
  have jf : H2.get f = some (.smap 91 cF (sF B) st cc) := by rw [jk f hfn hfg hfi]; exact hf
  unfold S_outer_prepare_L6
  simp (disch := first | omega | simp) []
  refine nd_nxt (vis := S.map spv) (by exact ji) (by exact jf) lawSp (fun x hx => ?_) ?_ (fun hall => ?_) (fun x a hkx hfx hnv hlt => ?_)
  · obtain ⟨s, hs, rfl⟩ := List.mem_map.1 hx
    exact ⟨by rw [sF_in (jsB s hs)]; rfl, hk s (hB s (jsB s hs))⟩
  · exact List.Pairwise.map spv (fun a b h e => h (spv_inj e)) jnd
  · have hiv := ivn (i := n) (by omega)
    simp (disch := first | omega | simp) [iv, hiv]
    have hal : ∀ s ∈ B, s ∈ S := fun s hs => by
      obtain ⟨q, hq, hqe⟩ := List.mem_map.1 (hall (spv s) (hk s (hB s hs)) (by rw [sF_in hs]; rfl))
      rw [← spv_inj hqe]; exact hq
    refine hkk X X.length _ (by simp only [up_nx]; omega) (fun j h1 h2 h3 => by rw [up_get]; exact jk j h1 h2 h3) jg (by omega) fun q => ?_
    rw [jX q]
    exact ⟨fun ⟨r, h1, h2⟩ => ⟨r, jsB r h1, h2⟩, fun ⟨r, h1, h2⟩ => ⟨r, hal r h1, h2⟩⟩
  · obtain ⟨s, hsm, rfl, rfl⟩ := sF_some hfx
    have hsS : s ∉ S := fun h => hnv (List.mem_map.2 ⟨s, h, rfl⟩)
    have hvs := hB s hsm
    have hks := hk s hvs
    simp (disch := first | omega | simp) [put_get_ne]
    refine nd_ent (x := spv s) (v := iv 1) (by rw [up_get, put_get]) (by rw [up_get, AH.get_put_ne hfi]; exact jf) lawSp (sF_in hsm) hks ?_
    rw [avSp]
    obtain ⟨fb, hfb, hfs⟩ := hld.look s
    have hgd2 : d2 ≠ g := hgd.symm
    have hfb2 : H2.get d2 = some (.map 91 n2 fb) := by rw [jk d2 hd2 hgd2 hdi]; exact hfb
    simp (disch := first | omega | simp) [put_get_ne, spA_len, spA_take, hfb2, lawSp, vals_sp, hks]
    generalize hZ : AH.put _ (H2.nx + 2 + 2) _ = Z
    have hZk : ∀ j, j < H2.nx → j ≠ it → Z.get j = H2.get j := fun j h1 h2 => by
      rw [← hZ, AH.get_put_ne (by omega), AH.get_put_ne (by omega), up_get, AH.get_put_ne h2, up_get]
    have hZi : Z.get it = some (.miter f st cc (S.map spv ++ [spv s])) := by
      rw [← hZ, AH.get_put_ne (by omega), AH.get_put_ne (by omega), up_get, put_get]
    have hZn : Z.nx = H2.nx + 6 := by rw [← hZ]; simp only [put_nx, up_nx]
    clear hZ
    suffices key : ∀ (y : AV), y = oslV (rid s) 2 (ld s).length → Pu Try.prog .len [y] (fun v172 => LoopA Try.prog 1 (S_outer_prepare_L5 (.mp g) k3 y v172) [.p (.int .i64 0)]) Z by
      cases hv : fb (spv s) with
      | none => rw [hv] at hfs; exact key _ hfs
      | some b => rw [hv] at hfs; exact key _ hfs
    rintro y rfl
    rw [len_oslV]
    have hll := hlen s
    refine prep_L5 (c := X.length) (X := X) (fun q hq => hk q (hV s q hvs hq)) (hlen s) (by omega) (by rw [hZk _ (by omega) hgi]; exact jg) (by omega) (fun h => ?_) fun H3 m1 m2 => ?_
    · obtain ⟨_, r2, r3⟩ := hld.row s h
      have e1 : rid s ≠ g := fun e => by rw [e, hg] at r3; cases r3
      have e2 : rid s ≠ it := fun e => by rw [e, hi] at r3; cases r3
      exact ⟨by omega, by rw [hZk _ (by omega) e2, jk _ r2 e1 e2]; exact r3⟩
    · have mn := m1.1
      have hnd2 : (S ++ [s]).Nodup := List.nodup_append.2 ⟨jnd, by simp, fun a ha b hb => by simp at hb; subst hb; exact fun q => hsS (q ▸ ha)⟩
      have hsB2 : ∀ x ∈ S ++ [s], x ∈ B := fun x hx => by
        rcases List.mem_append.1 hx with hx | hx
        · exact jsB x hx
        · rcases List.mem_singleton.1 hx with rfl; exact hsm
      refine hk3 (S ++ [s], X ++ ld s) _ _ _ (.refl (by omega)) ⟨by omega, fun j h1 h2 h3 => ?_, ?_, ?_, ?_, hnd2, hsB2, fun q => ?_⟩ ?_
      · rw [m1.2 j (by omega) h2, hZk j (by omega) h3]; exact jk j h1 h2 h3
      · dsimp only; rw [List.length_append]; exact m2
      · dsimp only; rw [List.length_append, List.length_append, List.length_singleton]; omega
      · dsimp only; rw [m1.2 it (by omega) hgi.symm, hZi, List.map_append]; rfl
      · dsimp only
        rw [List.mem_append, jX q]
        constructor
        · rintro (⟨r, h1, h2⟩ | h)
          · exact ⟨r, by simp [h1], h2⟩
          · exact ⟨s, by simp, h⟩
        · rintro ⟨r, h1, h2⟩
          rcases List.mem_append.1 h1 with h1 | h1
          · exact .inl ⟨r, h1, h2⟩
          · rcases List.mem_singleton.1 h1 with rfl; exact .inr h2
      · have := nodup_le hnd2 hsB2
        dsimp only
        rw [List.length_append] at this ⊢
        simp only [List.length_singleton] at this ⊢
        omega
end Go.Proofs.Ytgkkilbeingleaa

/- prepare: length by length. -/
namespace Go.Proofs.Ytgkkilbeingleaa
open Go.RowKit Go.Maps
theorem wrs_vs {m : Mac} (hm : m.Ok) {I : List Int} {s : Sp} {w : List Int} (h : Wrs m I s w) : Vs m I s := by
  induction h with
  | fin hf =>
    have := hm.2.2.2.2.2.1 _ hf
    exact ⟨by dsimp only; omega, by dsimp only; omega, Nat.le_refl _⟩
  | arc ha hfr hr _ ih => exact rd_vs hm ha hfr hr ih
theorem pre_vs {m : Mac} (hm : m.Ok) {I : List Int} : ∀ (n : Nat) (s : Sp), preS m I n s → Vs m I s
  | 0, s, ⟨f, hf, e⟩ => by rw [e]; exact wrs_vs hm (.fin hf)
  | n + 1, s, ⟨r, ⟨c, a, ha, hfr, hr, _, _⟩, w, _, hw⟩ => rd_vs hm ha hfr hr (wrs_vs hm hw)
theorem sF_congr {L K : List Sp} (h : ∀ s, s ∈ L ↔ s ∈ K) : sF K = sF L := by
  funext u
  unfold sF
  congr 1
  exact propext ⟨fun ⟨s, h1, h2⟩ => ⟨s, (h s).2 h1, h2⟩, fun ⟨s, h1, h2⟩ => ⟨s, (h s).1 h1, h2⟩⟩
/-- the sets for each length, as they lie -/
def LeftAt (N0 : Nat) (m : Mac) (I : List Int) (H : AH) (lv : AV) (ds : List Nat) : Prop :=
  ∃ r, lv = oslV r 1 ds.length ∧ (ds ≠ [] → N0 ≤ r ∧ r < H.nx ∧ H.get r = some (.row 87 1 (ds.map fun d => [.mp d]))) ∧ ∀ i d, ds[i]? = some d → N0 ≤ d ∧ d < H.nx ∧ ∃ c B, H.get d = some (.map 91 c (sF B)) ∧ ∀ q, q ∈ B ↔ leftP m I i q
theorem LeftAt.same {N0 : Nat} {m : Mac} {I : List Int} {H H' : AH} {lv : AV} {ds : List Nat} (h : LeftAt N0 m I H lv ds) (hn : H.nx ≤ H'.nx) (hk : ∀ j, N0 ≤ j → j < H.nx → (∃ d ∈ ds, j = d) ∨ (∃ xs, H.get j = some (.row 87 1 xs)) → H'.get j = H.get j) : LeftAt N0 m I H' lv ds := by
  obtain ⟨r, h1, h2, h3⟩ := h
  refine ⟨r, h1, fun hd => ?_, fun i d hd => ?_⟩
  · obtain ⟨a, b, c⟩ := h2 hd
    exact ⟨a, by omega, by rw [hk r a b (.inr ⟨_, c⟩)]; exact c⟩
  · obtain ⟨a, b, c, B, e, f⟩ := h3 i d hd
    exact ⟨a, by omega, c, B, by rw [hk d a b (.inl ⟨d, List.mem_of_getElem? hd, rfl⟩)]; exact e, f⟩
theorem app_left {M : AH} {lv : AV} {ds : List Nat} {f r src id : Nat} (hlv : lv = oslV r 1 ds.length) {k : AV → AH → AH → Prop} (hs : M.get src = some (.row 87 1 [[.mp f]])) (hr : ds ≠ [] → M.get r = some (.row 87 1 (ds.map fun d => [.mp d])) ∧ r ≠ id) (hd : ds.length ≤ 1000)
    (hk : ∀ M1, M1.nx = M.nx → M1.get id = some (.row 87 1 ((ds ++ [f]).map fun d => [.mp d])) → (∀ j, j ≠ id → (ds ≠ [] → j ≠ r) → M1.get j = M.get j) → k (oslV id 1 (ds.length + 1)) M1 M1) :
    Wr Try.prog id (.app 87 1 8) [lv, .osl src 1 0 1] k M := by
  have hml : maxLen = 9223372036854775807 := by decide
  subst hlv
  cases ds with
  | nil =>
    rw [List.length_nil, oslV, wr_app_nil, elF_osl, hs]
    refine ⟨by show 1 ≤ maxLen; omega, by show 1 * 8 ≤ _; omega, ?_⟩
    exact hk _ (by simp only [put_nx]) (by rw [put_get]; rfl) fun j h1 _ => AH.get_put_ne h1
  | cons d ds =>
    obtain ⟨h1, h2⟩ := hr (by simp)
    rw [List.length_cons, oslV, wr_app_osl, elF_osl, hs, h1]
    rw [List.length_cons] at hd
    refine ⟨rfl, rfl, by rw [List.length_map, List.length_cons]; omega, by show _ + 1 ≤ maxLen; omega, by show (_ + 1) * 8 ≤ _; omega, ?_⟩
    refine hk _ (by simp only [put_nx, AH.kill]) (by rw [put_get, List.drop_zero, List.take_of_length_le (by rw [List.length_map, List.length_cons]; omega), List.map_append]; rfl) fun j h3 h4 => ?_
    rw [AH.get_put_ne h3, AH.kill, AH.get_put_ne (h4 (by simp))]
set_option maxHeartbeats 2000000 in
theorem prep_L9 {H H1 : AH} {N0 o d1 d2 n1 n2 e : Nat} {m : Mac} {I : List Int} {bk ld : Sp → List Sp} {r1 r2 : Sp → Nat} {Q : AV → AH → Prop} {long f0 c0 : Nat} {A0 : List Sp} {Hs : AH} {vs0 : List AV}
    (hm : m.Ok) (hI : I.length ≤ 60) (hlong : long ≤ 8)
    (hb : BkAt (Em 0) H1 d1 n1 bk r1) (hl : BkAt (Em 0) H1 d2 n2 ld r2) (hbN : ∀ q, bk q ≠ [] → r1 q < N0) (hlN : ∀ q, ld q ≠ [] → r2 q < N0) (hd1 : d1 < N0) (hd2 : d2 < N0) (hoN : o < N0) (hod1 : o ≠ d1) (hod2 : o ≠ d2)
    (hbR : ∀ s, Vs m I s → ∀ q, q ∈ bk s ↔ bst m I s q) (hlR : ∀ s, Vs m I s → ∀ q, q ∈ ld s ↔ bld m I s q) (hbl : ∀ s, (bk s).length ≤ 1000000) (hll : ∀ s, (ld s).length ≤ 1000000)
    (ho : OutAt H1 o m I e (.p (.slice none 0 0))) (hf0 : N0 ≤ f0) (hf1 : f0 < H1.nx) (hf : H1.get f0 = some (.map 91 c0 (sF A0))) (hc0 : c0 ≤ 1000000000000) (hA0 : ∀ q, q ∈ A0 ↔ preS m I 0 q)
    (h0 : GW Try.prog Hs.nx vs0 Hs [.mp f0, iv 0] H1)
    (hkk : ∀ H2 lv ds, H1.nx ≤ H2.nx → (∀ j, j < N0 → j ≠ o → H2.get j = H1.get j) → OutAt H2 o m I e lv → LeftAt N0 m I H2 lv ds → ds.length = long + 1 → Rt Try.prog H.nx (.tup []) Q H2) :
    LoopA Try.prog 2 (S_outer_prepare_L9 (.ptr o 0) (iv (long : Int)) Q H (.mp d1) (.mp d2)) vs0 Hs := by
  have hml : maxLen = 9223372036854775807 := by decide
  have hN0 : N0 ≤ H1.nx := by omega
  refine loop_wf (fun x : Nat × List Nat × Nat × List Sp × Nat × AV => [.mp x.1, iv (x.2.2.1 : Int)]) (fun x H' => H1.nx ≤ H'.nx ∧ (∀ j, j < N0 → j ≠ o → H'.get j = H1.get j) ∧ OutAt H' o m I e x.2.2.2.2.2 ∧ LeftAt N0 m I H' x.2.2.2.2.2 x.2.1 ∧ x.2.1.length = x.2.2.1 ∧ x.2.2.1 ≤ long + 1 ∧ N0 ≤ x.1 ∧ x.1 < H'.nx ∧ x.1 ∉ x.2.1 ∧ H'.get x.1 = some (.map 91 x.2.2.2.2.1 (sF x.2.2.2.1)) ∧ x.2.2.2.2.1 ≤ 1000000000000 ∧ ∀ q, q ∈ x.2.2.2.1 ↔ preS m I x.2.2.1 q) (fun x => long + 1 - x.2.2.1) (f0, [], 0, A0, c0, .p (.slice none 0 0)) h0 ⟨Nat.le_refl _, fun _ _ _ => rfl, ho, ⟨0, rfl, (fun h => absurd rfl h), (fun i d h => by cases h)⟩, rfl, Nat.zero_le _, hf0, hf1, List.not_mem_nil, hf, hc0, hA0⟩ ?_
  rintro ⟨f, ds, n, A, c, lv⟩ H2 hn2 hw2 ⟨jn, jk, jo, jl, jds, jnl, jf0, jfn, jfd, jf, jc, jA⟩ k3 hk3
  dsimp only at jo jl jds jnl jf0 jfn jfd jf jc jA hk3 ⊢
  unfold S_outer_prepare_L9
  by_cases hnl : n ≤ long
  · have hni : (n : Int) ≤ (long : Int) := by omega
    simp (disch := first | omega | simp) [iv, hni]
    refine nd_rng (n := c) (f := sF A) (by simp (disch := first | omega | simp) [jf, mapOf, put_get_ne]) lawSp fun st cc => ?_
    generalize hM : AH.put _ (H2.nx + 1) _ = M
    have hMk : ∀ j, j < H2.nx → j ≠ f → M.get j = H2.get j := fun j h1 h2 => by
      rw [← hM, AH.get_put_ne (by omega), AH.get_put_ne h2, up_get]
    have hMf : M.get f = some (.smap 91 c (sF A) st cc) := by
      rw [← hM, AH.get_put_ne (by omega), put_get]
    have hMi : M.get (H2.nx + 1) = some (.miter f st cc []) := by rw [← hM, put_get]
    have hMn : M.nx = H2.nx + 2 := by rw [← hM]; simp only [put_nx, up_nx]
    clear hM
    refine loop_wf (fun x : List Sp × AV => [x.2]) (fun x H' => Off H2.nx f H2 H' ∧ H2.nx + 2 ≤ H'.nx ∧ H'.get f = some (.smap 91 c (sF A) st cc) ∧ H'.get (H2.nx + 1) = some (.miter f st cc (x.1.map spv)) ∧ x.1.Nodup ∧ (∀ s ∈ x.1, s ∈ A) ∧ Grows 91 2 (Em H2.nx) H' x.2 (x.1.map spA)) (fun x => 1000000 - x.1.length) ([], .p (.slice none 0 0)) (.refl (Nat.le_refl _)) ⟨⟨by omega, hMk⟩, by omega, hMf, hMi, .nil, (fun _ h => by cases h), .nil _ _ _ _⟩ ?_
    rintro ⟨S, v⟩ H3 hn3 hw3 ⟨yo, yn, yf, yi, ynd, ysA, yg⟩ k4 hk4
    dsimp only at yf yi ynd ysA yg hk4 ⊢
    have hSv : ∀ s ∈ S, Vs m I s := fun s hs => pre_vs hm n s ((jA s).1 (ysA s hs))
    have hSl := vs_le hm hI ynd hSv
    unfold S_outer_prepare_L8
    simp (disch := first | omega | simp) []
    refine nd_nxt (vis := S.map spv) (by exact yi) (by exact yf) lawSp (fun x hx => ?_) ?_ (fun hall => ?_) (fun x a hkx hfx hnv hlt => ?_)
    · obtain ⟨s, hs, rfl⟩ := List.mem_map.1 hx
      exact ⟨by rw [sF_in (ysA s hs)]; rfl, (hSv s hs).key hm hI⟩
    · exact List.Pairwise.map spv (fun a b h e => h (spv_inj e)) ynd
    · simp (disch := first | omega | simp) []
      have hSA : ∀ s, s ∈ S ↔ s ∈ A := fun s => ⟨ysA s, fun hs => by
        have hvs := pre_vs hm n s ((jA s).1 hs)
        obtain ⟨q, hq, hqe⟩ := List.mem_map.1 (hall (spv s) (hvs.key hm hI) (by rw [sF_in hs]; rfl))
        rw [← spv_inj hqe]; exact hq⟩
      have y0 := yo.1
      have hb2 : BkAt (Em 0) H2 d1 n1 bk r1 := hb.same (by omega) (jk d1 hd1 hod1.symm) fun q hq => jk _ (hbN q hq) fun e => by
        have h1 := (hb.row q hq).2.2
        rw [e, ho.box] at h1; cases h1
      have hl2 : BkAt (Em 0) H2 d2 n2 ld r2 := hl.same (by omega) (jk d2 hd2 hod2.symm) fun q hq => jk _ (hlN q hq) fun e => by
        have h1 := (hl.row q hq).2.2
        rw [e, ho.box] at h1; cases h1
      have hRV : ∀ s q, Vs m I s → bst m I s q → Vs m I q := fun s q hs ⟨a, ha, hfr, hr, _⟩ => rd_vs hm ha hfr hr hs
      refine prep_L7 (H0 := H2) (H1 := (H3.up 2).put f (.map 91 c (sF A))) (N := H2.nx) (kB := 183000) (c := c) (V := Vs m I) (A := preS m I n) (R := bst m I) (S := S) (v := v) (k_108 := fun _ _ => True) (B0 := 0) (fun s hs => hs.key hm hI) (fun B h1 h2 => vs_le hm hI h1 h2) (by omega) hb2 (by omega) (by omega) (fun q hq => ⟨by have := hbN q hq; omega, by have := hbN q hq; omega⟩) hbR hRV hbl ⟨by simp only [put_nx, up_nx]; omega, fun j h1 h2 => by rw [AH.get_put_ne h2, up_get]; exact yo.2 j h1 h2⟩ (by omega) (by omega) (by rw [put_get, sF_congr hSA]) (.start ynd (fun s => by rw [hSA, jA]) (fun s hs => pre_vs hm n s hs)) (yg.same (by simp only [put_nx, up_nx]; omega) fun j hj ⟨n', hv⟩ => ?_) (Nat.zero_le _) (.st (Gst.unstamp (by rw [up_get]; exact yf)) (Nat.le_refl _)) ?_
      · have : H2.nx ≤ j := yg.ge hv
        rw [AH.get_put_ne (by omega), up_get]
      intro B' c' H4 m1 m2 m3 m4 m5
      simp only [put_nx, up_nx] at m1
      have m0 := m2.1
      have hB' : ∀ q, q ∈ B' ↔ leftP m I n q := fun q => by rw [m5.done q, left_iff hm]
      have hob : H4.get o = some (.box 85 [.dsl 1 (fromE m), .dsl 1 (nE I), .mp e, lv]) := by rw [m2.2 o (by omega) (by omega)]; exact jo.box
      unfold S_outer_prepare_L7
      simp (disch := first | omega | simp) [hob, put_get_ne]
      obtain ⟨r, hlv, hrow, hds⟩ := jl
      have hrH4 : ds ≠ [] → H4.get r = H2.get r ∧ r < H2.nx ∧ N0 ≤ r ∧ r ≠ f := fun h => by
        obtain ⟨h1, h2, h3⟩ := hrow h
        have h4 : r ≠ f := fun e => by rw [e, jf] at h3; cases h3
        exact ⟨m2.2 r h2 h4, h2, h1, h4⟩
      have hro : ds ≠ [] → r ≠ o := fun h e => by
        obtain ⟨h1, h2, h3⟩ := hrow h
        rw [e, jo.box] at h3; cases h3
      refine app_left hlv (src := H4.nx + 6) (f := f) (by rw [put_get]) (fun h => ⟨by rw [AH.get_put_ne (by have := (hrH4 h).2.1; omega), up_get, (hrH4 h).1]; exact (hrow h).2.2, by have := (hrH4 h).2.1; omega⟩) (by omega) fun M1 w1 w2 w3 => ?_
      simp only [put_nx, up_nx] at w1
      have hob1 : M1.get o = some (.box 85 [.dsl 1 (fromE m), .dsl 1 (nE I), .mp e, lv]) := by
        rw [w3 o (by omega) (fun h e => hro h e.symm), AH.get_put_ne (by omega), up_get]; exact hob
      have hf1 : M1.get f = some (.map 91 c' (sF B')) := by
        rw [w3 f (by omega) (fun h e => (hrH4 h).2.2.2 e.symm), AH.get_put_ne (by omega), up_get]; exact m4
      simp (disch := first | omega | simp) [hob1, oslV, put_get_ne]
      refine nd_rng (n := c') (f := sF B') (by simp (disch := first | omega | simp) [hf1, mapOf, put_get_ne]) lawSp fun st2 cc2 => ?_
      generalize hM : AH.put _ (M1.nx + 2 + 1) _ = M
      have hMk : ∀ j, j < H4.nx → j ≠ f → j ≠ o → (ds ≠ [] → j ≠ r) → M.get j = H4.get j := fun j h1 h2 h3 h4 => by
        rw [← hM, AH.get_put_ne (by omega), AH.get_put_ne h2, up_get, AH.get_put_ne (by omega), up_get, AH.get_put_ne h3, w3 j (by omega) h4, AH.get_put_ne (by omega), up_get]
      have hMf : M.get f = some (.smap 91 c' (sF B') st2 cc2) := by rw [← hM, AH.get_put_ne (by omega), put_get]
      have hMi : M.get (M1.nx + 2 + 1) = some (.miter f st2 cc2 []) := by rw [← hM, put_get]
      have hMg : M.get M1.nx = some (.map 91 0 (sF [])) := by rw [← hM, sF_nil, AH.get_put_ne (by omega), AH.get_put_ne (by omega), up_get, put_get]
      have hMo : M.get o = some (.box 85 [.dsl 1 (fromE m), .dsl 1 (nE I), .mp e, oslV (H4.nx + 7) 1 (ds ++ [f]).length]) := by
        rw [← hM, AH.get_put_ne (by omega), AH.get_put_ne (by omega), up_get, AH.get_put_ne (by omega), up_get, put_get, List.length_append]; rfl
      have hMr : M.get (H4.nx + 7) = some (.row 87 1 ((ds ++ [f]).map fun d => [.mp d])) := by
        rw [← hM, AH.get_put_ne (by omega), AH.get_put_ne (by omega), up_get, AH.get_put_ne (by omega), up_get, AH.get_put_ne (by omega)]; exact w2
      have hMn : M.nx = M1.nx + 4 := by rw [← hM]; simp only [put_nx, up_nx]
      clear hM
      have hkd : ∀ j, j < N0 → j ≠ o → M.get j = H1.get j := fun j h1 h2 => by
        rw [hMk j (by omega) (by omega) h2 (fun h => by have := (hrH4 h).2.2.1; omega), m2.2 j (by omega) (by omega)]; exact jk j h1 h2
      have hld2 : BkAt (Em 0) M d2 n2 ld r2 := hl.same (by omega) (hkd d2 hd2 hod2.symm) fun q hq => hkd _ (hlN q hq) fun e => by
        have h1 := (hl.row q hq).2.2
        rw [e, ho.box] at h1; cases h1
      refine prep_L6 (H1 := M) (g := M1.nx) (it := M1.nx + 2 + 1) (V := Vs m I) (B := B') (f := f) (n := n) (fun s hs => hs.key hm hI) m5.ok m5.nd (by have := vs_le hm hI m5.nd m5.ok; omega) hld2 (fun s q hs hq => ?_) hll (by omega) hMf hMi hMg (by omega) (by omega) (by omega) (by omega) (by omega) fun X c2 H5 x1 x2 x3 x4 x5 => ?_
      · obtain ⟨c3, a, ha, hfr, hr, _⟩ := (hlR s hs q).1 hq
        exact rd_vs hm ha hfr hr hs
      · have hf5 : H5.get f = some (.smap 91 c' (sF B') st2 cc2) := by rw [x2 f (by omega) (by omega) (by omega)]; exact hMf
        have hdl : (ds ++ [f]).length = n + 1 := by rw [List.length_append, List.length_singleton]; omega
        refine hk3 (M1.nx, ds ++ [f], n + 1, X, c2, oslV (H4.nx + 7) 1 (ds ++ [f]).length) (H5.put f (.map 91 c' (sF B'))) _ _ (.st (Gst.unstamp hf5) (by omega)) ⟨by simp only [put_nx]; omega, fun j h1 h2 => ?_, ⟨?_⟩, ⟨H4.nx + 7, rfl, fun _ => ⟨by omega, by simp only [put_nx]; omega, ?_⟩, fun i d hid => ?_⟩, hdl, by dsimp only; omega, by dsimp only; omega, by simp only [put_nx]; omega, fun hmem => ?_, ?_, x4, fun q => ?_⟩ (by dsimp only; omega)
        · rw [AH.get_put_ne (by omega), x2 j (by omega) (by omega) (by omega)]; exact hkd j h1 h2
        · rw [AH.get_put_ne (by omega), x2 o (by omega) (by omega) (by omega)]; exact hMo
        · rw [AH.get_put_ne (by omega), x2 _ (by omega) (by omega) (by omega)]; exact hMr
        · by_cases hi2 : i < ds.length
          · rw [List.getElem?_append_left hi2] at hid
            obtain ⟨a1, a2, a3, a4, a5, a6⟩ := hds i d hid
            have hdf : d ≠ f := fun e => jfd (e ▸ List.mem_of_getElem? hid)
            have hdo : d ≠ o := fun e => by rw [e, jo.box] at a5; cases a5
            have hdr : ds ≠ [] → d ≠ r := fun h e => by
              have := (hrow h).2.2
              rw [← e, a5] at this; cases this
            refine ⟨a1, by simp only [put_nx]; omega, a3, a4, ?_, a6⟩
            rw [AH.get_put_ne hdf, x2 d (by omega) (by omega) (by omega), hMk d (by omega) hdf hdo hdr, m2.2 d a2 hdf]; exact a5
          · have hi3 : i = ds.length := by
              have := (List.getElem?_eq_some_iff.1 hid).1
              rw [hdl] at this; omega
            subst hi3
            rw [List.getElem?_append_right (Nat.le_refl _), Nat.sub_self] at hid
            injection hid with hid
            subst hid
            exact ⟨jf0, by simp only [put_nx]; omega, c', B', by rw [put_get], by rw [jds]; exact hB'⟩
        · rcases List.mem_append.1 hmem with h | h
          · obtain ⟨i, hi⟩ := List.mem_iff_getElem?.1 h
            have := (hds i _ hi).2.1
            omega
          · have := List.mem_singleton.1 h
            omega
        · dsimp only
          rw [AH.get_put_ne (by omega)]; exact x3
        · dsimp only
          rw [x5 q]
          constructor
          · rintro ⟨r, h1, h2⟩
            have hrl := (hB' r).1 h1
            exact ⟨r, (hlR r (m5.ok r h1) q).1 h2, hrl⟩
          · rintro ⟨r, h1, h2⟩
            have := (hB' r).2 h2
            exact ⟨r, this, (hlR r (m5.ok r this) q).2 h1⟩
    · obtain ⟨s, hsm, rfl, rfl⟩ := sF_some hfx
      have hsS : s ∉ S := fun h => hnv (List.mem_map.2 ⟨s, h, rfl⟩)
      have hvs := pre_vs hm n s ((jA s).1 hsm)
      have hks := hvs.key hm hI
      have hkne : f ≠ H2.nx + 1 := by omega
      simp (disch := first | omega | simp) [put_get_ne]
      refine nd_ent (x := spv s) (v := iv 1) (by rw [up_get, put_get]) (by rw [up_get, AH.get_put_ne hkne]; exact yf) lawSp (sF_in hsm) hks ?_
      rw [avSp]
      simp (disch := first | omega | simp) [put_get_ne, spA_len, spA_take]
      have y0 := yo.1
      generalize hZ : AH.put _ (H3.nx + 2 + 4 + 2) _ = Z
      have hZk : ∀ j, j < H3.nx → j ≠ H2.nx + 1 → Z.get j = H3.get j := fun j h1 h2 => by
        rw [← hZ, AH.get_put_ne (by omega), up_get, AH.get_put_ne (by omega), AH.get_put_ne (by omega), up_get, AH.get_put_ne h2, up_get]
      have hZi : Z.get (H2.nx + 1) = some (.miter f st cc (S.map spv ++ [spv s])) := by
        rw [← hZ, AH.get_put_ne (by omega), up_get, AH.get_put_ne (by omega), AH.get_put_ne (by omega), up_get, put_get]
      have hZr : Z.get (H3.nx + 2 + 4 + 2) = some (.row 91 2 [spA s]) := by rw [← hZ, put_get]
      have hZn : Z.nx = H3.nx + 11 := by rw [← hZ]; simp only [put_nx, up_nx]
      clear hZ
      have hn1 := yg.not (j := H2.nx + 1) fun xs h => by rw [yi] at h; cases h
      have hn0 := yg.not (j := f) fun xs h => by rw [yf] at h; cases h
      have hvN : ∀ j, j < H2.nx → ∀ n, v ≠ .osl j 2 0 n := fun j hj n e => by
        have : H2.nx ≤ j := yg.ge e
        omega
      have hnd2 : (S ++ [s]).Nodup := List.nodup_append.2 ⟨ynd, by simp, fun a ha b hb => by simp at hb; subst hb; exact fun q => hsS (q ▸ ha)⟩
      have hsA2 : ∀ x ∈ S ++ [s], x ∈ A := fun x hx => by
        rcases List.mem_append.1 hx with hx | hx
        · exact ysA x hx
        · rcases List.mem_singleton.1 hx with rfl; exact hsm
      refine Grows.app (t := 91) (H0 := Em H2.nx) (Em.wf _) (yg.same (by omega) fun j hj ⟨n, hvj⟩ => hZk j hj (fun q => hn1 n (q ▸ hvj))) (Em.le _ _) (by show H2.nx ≤ _; omega) (by omega) (ys := [spA s]) (by rw [elF_osl, hZr]; rfl) (dt_sp [s]) (by simp only [List.length_map, List.length_singleton]; omega) (by simp only [List.length_map, List.length_singleton]; omega) fun v' H5 g5 l5 n5 k5 _ => ?_
      refine hk4 (S ++ [s], v') _ _ _ (.refl (by omega)) ⟨yo.same (by omega) fun j h1 h2 => by rw [k5 j (by omega) (hvN j h1)]; exact hZk j (by omega) (by omega), by omega, ?_, ?_, hnd2, hsA2, ?_⟩ ?_
      · rw [k5 f (by omega) hn0, hZk f (by omega) (by omega)]; exact yf
      · dsimp only; rw [k5 _ (by omega) hn1, hZi, List.map_append]; rfl
      · dsimp only; rw [List.map_append]; exact g5
      · dsimp only; rw [List.length_append, List.length_singleton]; omega
  · have hni : ¬ (n : Int) ≤ (long : Int) := by omega
    simp (disch := first | omega | simp) [iv, hni]
    exact hkk H2 lv ds jn jk jo jl (by omega)
end Go.Proofs.Ytgkkilbeingleaa
