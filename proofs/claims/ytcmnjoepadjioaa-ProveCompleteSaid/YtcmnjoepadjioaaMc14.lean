/- Texts that the proof rests on, part 14: what each holds stands at its head. -/
import Derived.Test.YtcmnjoepadjioaaMc13
import Derived.Laws.StructEq

/- The reference: is a line right. -/
namespace Go.Proofs.Ytcmnjoepadjioaa
open Go.RowKit Go.Maps
theorem pickC_snoc {l : List Clm} {n : Nat} (k : Int) : ∀ s : List Int, pickC l n (s ++ [k]) = match pickC l n s, (if 0 ≤ k ∧ k < n then l[k.toNat]? else none) with
    | some a, some b => some (a ++ [b])
    | _, _ => none
  | [] => by
    rw [List.nil_append, pickC, pickC]
    split
    · cases l[k.toNat]? <;> rfl
    · rfl
  | x :: s => by
    rw [List.cons_append, pickC, pickC, pickC_snoc k s]
    split
    · cases l[x.toNat]? with
      | none => rfl
      | some c =>
        cases pickC l n s with
        | none => rfl
        | some cs => cases (if 0 ≤ k ∧ k < (n : Int) then l[k.toNat]? else none) <;> rfl
    · rfl
theorem pickC_none {l : List Clm} {n : Nat} : ∀ (t : List Int) {s : List Int}, pickC l n s = none → pickC l n (s ++ t) = none
  | [], s, h => by rw [List.append_nil]; exact h
  | k :: t, s, h => by
    rw [show s ++ k :: t = (s ++ [k]) ++ t by simp]
    exact pickC_none t (by rw [pickC_snoc, h])
theorem pickC_len {l : List Clm} {n : Nat} : ∀ {s : List Int} {of : List Clm}, pickC l n s = some of → of.length = s.length
  | [], of, h => by simp only [pickC, Option.some.injEq] at h; subst h; rfl
  | k :: r, of, h => by
    rw [pickC] at h
    split at h
    · cases h1 : l[k.toNat]? with
      | none => rw [h1] at h; cases h
      | some c =>
        cases h2 : pickC l n r with
        | none => rw [h1, h2] at h; cases h
        | some cs => rw [h1, h2] at h; injection h with h; subst h; simp [pickC_len h2]
    · cases h
theorem pickC_next {l : List Clm} {n : Nat} {s : List Int} {i : Nat} {k : Int} {of : List Clm} {c : Clm} (h : pickC l n (s.take i) = some of) (hk : s[i]? = some k) (h0 : 0 ≤ k) (h1 : k < n) (hc : l[k.toNat]? = some c) : pickC l n (s.take (i + 1)) = some (of ++ [c]) := by
  rw [List.take_add_one, hk, Option.toList_some, pickC_snoc, h, if_pos ⟨h0, h1⟩, hc]
theorem pickC_fail {l : List Clm} {n : Nat} {s : List Int} {i : Nat} {k : Int} (hk : s[i]? = some k) (h : ¬ (0 ≤ k ∧ k < (n : Int))) : pickC l n s = none := by
  have : s = s.take (i + 1) ++ s.drop (i + 1) := (List.take_append_drop _ _).symm
  rw [this]
  refine pickC_none _ ?_
  rw [List.take_add_one, hk, Option.toList_some, pickC_snoc, if_neg h]
  cases pickC l n (s.take i) <;> rfl
def countR (r : Int) : Nat := if r = 2 then 0 else if r = 3 ∨ r = 9 ∨ r = 10 then 2 else 1
theorem ruleB_count {r : Int} {c : Clm} {of : List Clm} (h : ¬ (1 ≤ r ∧ r ≤ 10 ∧ of.length = countR r)) : ruleB r c of = false := by
  by_cases hr : 1 ≤ r ∧ r ≤ 10
  · have : r = 1 ∨ r = 2 ∨ r = 3 ∨ r = 4 ∨ r = 5 ∨ r = 6 ∨ r = 7 ∨ r = 8 ∨ r = 9 ∨ r = 10 := by omega
    have hl : of.length ≠ countR r := fun e => h ⟨hr.1, hr.2, e⟩
    match of with
    | [] => rcases this with rfl | rfl | rfl | rfl | rfl | rfl | rfl | rfl | rfl | rfl <;> first | rfl | exact absurd rfl hl
    | [p] => rcases this with rfl | rfl | rfl | rfl | rfl | rfl | rfl | rfl | rfl | rfl <;> first | rfl | exact absurd rfl hl
    | [p, q] => rcases this with rfl | rfl | rfl | rfl | rfl | rfl | rfl | rfl | rfl | rfl <;> first | rfl | exact absurd rfl hl | simp [ruleB]
    | p :: q :: s :: r => rcases this with rfl | rfl | rfl | rfl | rfl | rfl | rfl | rfl | rfl | rfl <;> first | rfl | simp [ruleB]
  · unfold ruleB
    repeat (rw [if_neg (by omega)])
theorem dt_clm (l : List Clm) : DtR (l.map Clm.cs) := dt_cs l
theorem run_eqClm (c d : Clm) (w : World) : (Op.equal 24 (cv c) (cv d)).run Try.prog w = .ok (decide (c = d)) w := by
  unfold cv
  rw [Op.equal, Op.maxDepth, show (10000 : Nat) = 9999 + 1 from rfl, run_equalIn_agg w 9999 _ _ _ (by kernel_rfl) (by kernel_rfl)]
  rw [show Try.prog.fieldsOf 24 = _ from rfl]
  simp [go_sem]
  by_cases h1 : c.so = d.so <;> by_cases h2 : c.a = d.a <;> by_cases h3 : c.b = d.b <;> simp [h1, h2, h3]
  · exact clm_ext h1 h2 h3
  · intro e; subst e; exact h3 rfl
  · intro e; subst e; exact h2 rfl
  · intro e; subst e; exact h2 rfl
  · intro e; subst e; exact h1 rfl
  · intro e; subst e; exact h1 rfl
  · intro e; subst e; exact h1 rfl
  · intro e; subst e; exact h1 rfl
theorem q_eqClm {c d : Clm} {k : AV → AH → Prop} {H : AH} (h : k (.p (.bool (decide (c = d)))) H) : Pu Try.prog (.bin .eql 24) [.agg [.p (.bool c.so), .p (.int .i64 c.a), .p (.int .i64 c.b)], .agg [.p (.bool d.so), .p (.int .i64 d.a), .p (.int .i64 d.b)]] k H :=
  q_eql_v _ _ _ _ _ _ rfl rfl (by kernel_rfl) (fun w => run_eqClm c d w) h
theorem q_neClm {c d : Clm} {k : AV → AH → Prop} {H : AH} (h : k (.p (.bool (!decide (c = d)))) H) : Pu Try.prog (.bin .neq 24) [.agg [.p (.bool c.so), .p (.int .i64 c.a), .p (.int .i64 c.b)], .agg [.p (.bool d.so), .p (.int .i64 d.a), .p (.int .i64 d.b)]] k H :=
  q_neq_v _ _ _ _ _ _ rfl rfl (by kernel_rfl) (fun w => run_eqClm c d w) h
theorem len2 {α : Type} {l : List α} (h : l.length = 2) : ∃ a b, l = [a, b] := by
  match l, h with
  | [a, b], _ => exact ⟨a, b, rfl⟩
def pz (of : List Clm) (i : Nat) : Clm := of.getD i ⟨false, 0, 0⟩
theorem wneg_ok {x : Int} (h : litOk x) : IntKind.i64.wrap (-x) = -x := by unfold litOk at h; rw [IntKind.wrap_i64]; omega
set_option maxHeartbeats 1000000 in
theorem fin_SoundLine {H H2 : AH} {x : Lin} {of : List Clm} {b12 b13 : Nat} {vs : List AV} (hw : WF H) (hle : H.le H2) (_hn : H.nx ≤ H2.nx) (hlb : H2.get (H.nx + 4) = some (.box 36 x.cs)) (hcb : H2.get (H.nx + 8) = some (.box 24 x.c.cs)) (h12 : H2.get b12 = some (.box 24 (pz of 0).cs)) (h13 : H2.get b13 = some (.box 24 (pz of 1).cs))
    (hr1 : 1 ≤ x.rule) (hr2 : x.rule ≤ 10) (hc : of.length = countR x.rule) (_hok : x.c.ok) (hofo : ∀ q ∈ of, q.ok) : S_wordhoardref_SoundLine_K11 (fun r H' => H' = H ∧ r = bv (ruleB x.rule x.c of)) H (.ptr (H.nx + 4) 0) (.ptr (H.nx + 8) 0) (.ptr b12 0) (.ptr b13 0) vs H2 := by
  unfold Lin.cs at hlb
  unfold Clm.cs at hcb h12 h13
  unfold S_wordhoardref_SoundLine_K11
  have : x.rule = 1 ∨ x.rule = 2 ∨ x.rule = 3 ∨ x.rule = 4 ∨ x.rule = 5 ∨ x.rule = 6 ∨ x.rule = 7 ∨ x.rule = 8 ∨ x.rule = 9 ∨ x.rule = 10 := by omega
  rcases this with hr | hr | hr | hr | hr | hr | hr | hr | hr | hr <;> rw [hr] at hc ⊢ <;> (have hc2 := hc; simp [countR] at hc2)
  · obtain ⟨p, rfl⟩ := List.length_eq_one_iff.1 hc2
    have hp := hofo p (by simp)
    have hpa := wneg_ok hp.1
    have hpb := wneg_ok hp.2
    simp only [pz, List.getD_cons_zero] at h12
    simp (disch := first | omega | simp) [iv, hlb, hcb, h12, hr, S_wordhoardref_SoundLine_C2, S_wordhoardref_SoundLine_C3, S_wordhoardref_SoundLine_C4, S_wordhoardref_SoundLine_C5, S_wordhoardref_SoundLine_C6, S_wordhoardref_SoundLine_C7, S_wordhoardref_SoundLine_C8, S_wordhoardref_SoundLine_C9, S_wordhoardref_SoundLine_C10]
    refine q_eqClm (c := x.c) (d := p) (rt_one hw hle (by repeat (first | exact Cl.p _ | exact Cl.dsl _ _ | exact Cl.any | refine Cl.tup ?_ | refine Cl.agg ?_ | exact Clo.nil | refine Clo.cons ?_ ?_)) ⟨rfl, ?_⟩)
    simp [ruleB, bv]; exact Bool.eq_iff_iff.2 (by simp; exact eq_comm)
  · subst hc2
    simp +contextual (disch := first | omega | simp) [iv, hlb, hcb, hr, S_wordhoardref_SoundLine_C2, S_wordhoardref_SoundLine_C3, S_wordhoardref_SoundLine_C4, S_wordhoardref_SoundLine_C5, S_wordhoardref_SoundLine_C6, S_wordhoardref_SoundLine_C7, S_wordhoardref_SoundLine_C8, S_wordhoardref_SoundLine_C9, S_wordhoardref_SoundLine_C10]
    repeat' (first | intro _ | apply And.intro)
    all_goals exact rt_one hw hle (by repeat (first | exact Cl.p _ | exact Cl.dsl _ _ | exact Cl.any | refine Cl.tup ?_ | refine Cl.agg ?_ | exact Clo.nil | refine Clo.cons ?_ ?_)) ⟨rfl, by first | (simp_all [ruleB, bv]; done) | (simp_all [ruleB, bv]; exact Bool.eq_iff_iff.2 (by simp))⟩
  · obtain ⟨p, q, rfl⟩ := len2 hc2
    have hp := hofo p (by simp)
    have hpa := wneg_ok hp.1
    have hpb := wneg_ok hp.2
    simp only [pz, List.getD_cons_zero, List.getD_cons_succ] at h12 h13
    simp +contextual (disch := first | omega | simp) [iv, hlb, hcb, h12, h13, hr, S_wordhoardref_SoundLine_C2, S_wordhoardref_SoundLine_C3, S_wordhoardref_SoundLine_C4, S_wordhoardref_SoundLine_C5, S_wordhoardref_SoundLine_C6, S_wordhoardref_SoundLine_C7, S_wordhoardref_SoundLine_C8, S_wordhoardref_SoundLine_C9, S_wordhoardref_SoundLine_C10]
    repeat' (first | intro _ | apply And.intro)
    all_goals exact rt_one hw hle (by repeat (first | exact Cl.p _ | exact Cl.dsl _ _ | exact Cl.any | refine Cl.tup ?_ | refine Cl.agg ?_ | exact Clo.nil | refine Clo.cons ?_ ?_)) ⟨rfl, by first | (simp_all [ruleB, bv]; done) | (simp_all [ruleB, bv]; exact Bool.eq_iff_iff.2 (by simp))⟩
  · obtain ⟨p, rfl⟩ := List.length_eq_one_iff.1 hc2
    have hp := hofo p (by simp)
    have hpa := wneg_ok hp.1
    have hpb := wneg_ok hp.2
    simp only [pz, List.getD_cons_zero] at h12
    simp +contextual (disch := first | omega | simp) [iv, hlb, hcb, h12, hr, S_wordhoardref_SoundLine_C2, S_wordhoardref_SoundLine_C3, S_wordhoardref_SoundLine_C4, S_wordhoardref_SoundLine_C5, S_wordhoardref_SoundLine_C6, S_wordhoardref_SoundLine_C7, S_wordhoardref_SoundLine_C8, S_wordhoardref_SoundLine_C9, S_wordhoardref_SoundLine_C10, hpa, hpb]
    repeat' (first | intro _ | apply And.intro)
    all_goals exact rt_one hw hle (by repeat (first | exact Cl.p _ | exact Cl.dsl _ _ | exact Cl.any | refine Cl.tup ?_ | refine Cl.agg ?_ | exact Clo.nil | refine Clo.cons ?_ ?_)) ⟨rfl, by first | (simp_all [ruleB, bv]; done) | (simp_all [ruleB, bv]; exact Bool.eq_iff_iff.2 (by simp))⟩
  · obtain ⟨p, rfl⟩ := List.length_eq_one_iff.1 hc2
    have hp := hofo p (by simp)
    have hpa := wneg_ok hp.1
    have hpb := wneg_ok hp.2
    simp only [pz, List.getD_cons_zero] at h12
    simp +contextual (disch := first | omega | simp) [iv, hlb, hcb, h12, hr, S_wordhoardref_SoundLine_C2, S_wordhoardref_SoundLine_C3, S_wordhoardref_SoundLine_C4, S_wordhoardref_SoundLine_C5, S_wordhoardref_SoundLine_C6, S_wordhoardref_SoundLine_C7, S_wordhoardref_SoundLine_C8, S_wordhoardref_SoundLine_C9, S_wordhoardref_SoundLine_C10, hpa]
    repeat' (first | intro _ | apply And.intro)
    all_goals exact rt_one hw hle (by repeat (first | exact Cl.p _ | exact Cl.dsl _ _ | exact Cl.any | refine Cl.tup ?_ | refine Cl.agg ?_ | exact Clo.nil | refine Clo.cons ?_ ?_)) ⟨rfl, by first | (simp_all [ruleB, bv]; done) | (simp_all [ruleB, bv]; exact Bool.eq_iff_iff.2 (by simp))⟩
  · obtain ⟨p, rfl⟩ := List.length_eq_one_iff.1 hc2
    have hp := hofo p (by simp)
    have hpa := wneg_ok hp.1
    have hpb := wneg_ok hp.2
    simp only [pz, List.getD_cons_zero] at h12
    simp +contextual (disch := first | omega | simp) [iv, hlb, hcb, h12, hr, S_wordhoardref_SoundLine_C2, S_wordhoardref_SoundLine_C3, S_wordhoardref_SoundLine_C4, S_wordhoardref_SoundLine_C5, S_wordhoardref_SoundLine_C6, S_wordhoardref_SoundLine_C7, S_wordhoardref_SoundLine_C8, S_wordhoardref_SoundLine_C9, S_wordhoardref_SoundLine_C10, hpb]
    repeat' (first | intro _ | apply And.intro)
    all_goals exact rt_one hw hle (by repeat (first | exact Cl.p _ | exact Cl.dsl _ _ | exact Cl.any | refine Cl.tup ?_ | refine Cl.agg ?_ | exact Clo.nil | refine Clo.cons ?_ ?_)) ⟨rfl, by first | (simp_all [ruleB, bv]; done) | (simp_all [ruleB, bv]; exact Bool.eq_iff_iff.2 (by simp))⟩
  · obtain ⟨p, rfl⟩ := List.length_eq_one_iff.1 hc2
    have hp := hofo p (by simp)
    have hpa := wneg_ok hp.1
    have hpb := wneg_ok hp.2
    simp only [pz, List.getD_cons_zero] at h12
    simp +contextual (disch := first | omega | simp) [iv, hlb, hcb, h12, hr, S_wordhoardref_SoundLine_C2, S_wordhoardref_SoundLine_C3, S_wordhoardref_SoundLine_C4, S_wordhoardref_SoundLine_C5, S_wordhoardref_SoundLine_C6, S_wordhoardref_SoundLine_C7, S_wordhoardref_SoundLine_C8, S_wordhoardref_SoundLine_C9, S_wordhoardref_SoundLine_C10]
    repeat' (first | intro _ | apply And.intro)
    all_goals exact rt_one hw hle (by repeat (first | exact Cl.p _ | exact Cl.dsl _ _ | exact Cl.any | refine Cl.tup ?_ | refine Cl.agg ?_ | exact Clo.nil | refine Clo.cons ?_ ?_)) ⟨rfl, by first | (simp_all [ruleB, bv]; done) | (simp_all [ruleB, bv]; exact Bool.eq_iff_iff.2 (by simp))⟩
  · obtain ⟨p, rfl⟩ := List.length_eq_one_iff.1 hc2
    have hp := hofo p (by simp)
    have hpa := wneg_ok hp.1
    have hpb := wneg_ok hp.2
    simp only [pz, List.getD_cons_zero] at h12
    simp +contextual (disch := first | omega | simp) [iv, hlb, hcb, h12, hr, S_wordhoardref_SoundLine_C2, S_wordhoardref_SoundLine_C3, S_wordhoardref_SoundLine_C4, S_wordhoardref_SoundLine_C5, S_wordhoardref_SoundLine_C6, S_wordhoardref_SoundLine_C7, S_wordhoardref_SoundLine_C8, S_wordhoardref_SoundLine_C9, S_wordhoardref_SoundLine_C10]
    repeat' (first | intro _ | apply And.intro)
    all_goals exact rt_one hw hle (by repeat (first | exact Cl.p _ | exact Cl.dsl _ _ | exact Cl.any | refine Cl.tup ?_ | refine Cl.agg ?_ | exact Clo.nil | refine Clo.cons ?_ ?_)) ⟨rfl, by first | (simp_all [ruleB, bv]; done) | (simp_all [ruleB, bv]; exact Bool.eq_iff_iff.2 (by simp))⟩
  · obtain ⟨p, q, rfl⟩ := len2 hc2
    have hp := hofo p (by simp)
    have hpa := wneg_ok hp.1
    have hpb := wneg_ok hp.2
    simp only [pz, List.getD_cons_zero, List.getD_cons_succ] at h12 h13
    simp +contextual (disch := first | omega | simp) [iv, hlb, hcb, h12, h13, hr, S_wordhoardref_SoundLine_C2, S_wordhoardref_SoundLine_C3, S_wordhoardref_SoundLine_C4, S_wordhoardref_SoundLine_C5, S_wordhoardref_SoundLine_C6, S_wordhoardref_SoundLine_C7, S_wordhoardref_SoundLine_C8, S_wordhoardref_SoundLine_C9, S_wordhoardref_SoundLine_C10]
    repeat' (first | intro _ | apply And.intro)
    all_goals exact rt_one hw hle (by repeat (first | exact Cl.p _ | exact Cl.dsl _ _ | exact Cl.any | refine Cl.tup ?_ | refine Cl.agg ?_ | exact Clo.nil | refine Clo.cons ?_ ?_)) ⟨rfl, by first | (simp_all [ruleB, bv]; done) | (simp_all [ruleB, bv]; exact Bool.eq_iff_iff.2 (by simp))⟩
  · obtain ⟨p, q, rfl⟩ := len2 hc2
    have hp := hofo p (by simp)
    have hpa := wneg_ok hp.1
    have hpb := wneg_ok hp.2
    simp only [pz, List.getD_cons_zero, List.getD_cons_succ] at h12 h13
    simp +contextual (disch := first | omega | simp) [iv, hlb, h12, h13, hr, S_wordhoardref_SoundLine_C2, S_wordhoardref_SoundLine_C3, S_wordhoardref_SoundLine_C4, S_wordhoardref_SoundLine_C5, S_wordhoardref_SoundLine_C6, S_wordhoardref_SoundLine_C7, S_wordhoardref_SoundLine_C8, S_wordhoardref_SoundLine_C9, S_wordhoardref_SoundLine_C10, hpb]
    repeat' (first | intro _ | apply And.intro)
    all_goals exact rt_one hw hle (by repeat (first | exact Cl.p _ | exact Cl.dsl _ _ | exact Cl.any | refine Cl.tup ?_ | refine Cl.agg ?_ | exact Clo.nil | refine Clo.cons ?_ ?_)) ⟨rfl, by first | (simp_all [ruleB, bv]; done) | (simp_all [ruleB, bv]; exact Bool.eq_iff_iff.2 (by simp))⟩
theorem mid_SoundLine {H H2 : AH} {x : Lin} {of : List Clm} {b12 b13 : Nat} {v i : AV} {rr : Int} (hrr : x.rule = rr) (hw : WF H) (hle : H.le H2) (hn : H.nx ≤ H2.nx) (hlb : H2.get (H.nx + 4) = some (.box 36 x.cs)) (hcb : H2.get (H.nx + 8) = some (.box 24 x.c.cs)) (hv : Grows 24 3 H H2 v (of.map Clm.cs)) (h12 : H2.get b12 = some (.box 24 (pz [] 0).cs)) (h13 : H2.get b13 = some (.box 24 (pz [] 0).cs))
    (hb1 : H.nx + 9 ≤ b12) (hb2 : H.nx + 9 ≤ b13) (hb3 : b12 ≠ b13) (hr1 : 1 ≤ x.rule) (hr2 : x.rule ≤ 10) (hc : of.length = countR x.rule) (hok : x.c.ok) (hofo : ∀ q ∈ of, q.ok) :
    CutA Try.prog 0 (fun k => Pu Try.prog .len [v] fun v85 => Pu Try.prog (.bin .gtr 3) [v85, .p (.int .i64 0)] fun v86 => CdA v86 (Rg 4 fun b => Pu Try.prog (.idx 3) [v, .p (.int .i64 0)] fun v88 => RdS Try.prog (.ld 3 true) [v88] fun v89 => WrS Try.prog (b + 3) (.st 3) [.ptr b12 0, v89] fun _ => k []) (k []))
      (S_wordhoardref_SoundLine_K12 (fun r H' => H' = H ∧ r = bv (ruleB rr x.c of)) H (.ptr (H.nx + 4) 0) (.ptr (H.nx + 8) 0) [v, i] (.ptr b12 0) (.ptr b13 0)) H2 := by
  subst hrr
  have hgl : ∀ (k : AV → AH → Prop) (H' : AH), Pu Try.prog .len [v] k H' = k (.p (.int .i64 (of.length : Int))) H' := fun k H' => by rw [hv.len, List.length_map]
  have ho2 : of.length ≤ 2 := by
    rw [hc]; unfold countR
    split
    · omega
    · split <;> omega
  refine cut_st (fun _ : Unit => []) (fun _ H3 => H.le H3 ∧ H.nx ≤ H3.nx ∧ H3.get (H.nx + 4) = some (.box 36 x.cs) ∧ H3.get (H.nx + 8) = some (.box 24 x.c.cs) ∧ Grows 24 3 H H3 v (of.map Clm.cs) ∧ H3.get b12 = some (.box 24 (pz of 0).cs) ∧ H3.get b13 = some (.box 24 (pz [] 0).cs)) (fun k hk => ?_) ?_
  · cases of with
    | nil => simp (disch := first | omega | simp) [hgl]; exact hk () _ _ _ (.refl (Nat.le_refl _)) ⟨hle, hn, hlb, hcb, hv, h12, h13⟩
    | cons q r =>
      have hpos : (0 : Int) < (((q :: r).length : Nat) : Int) := by rw [List.length_cons]; omega
      obtain ⟨a, e1, e2, e3⟩ := elF_acc (by decide) (hv.kp (H2 := H2.up 4) (Kp.refl H2).up).el (i := 0) (e := q.cs) rfl
      unfold Clm.cs at e3
      have h12' := h12
      unfold Clm.cs at h12'
      have hvb : ∀ n, v ≠ .osl b12 3 0 n := hv.not fun xs e => by rw [h12] at e; cases e
      have e4 := e1 Try.prog .i64
      simp only [Int.natCast_zero] at e4
      simp (disch := first | omega | simp) [hgl, e4, e3, h12']
      refine hk () _ _ _ (.refl (by first | omega | (simp only [up_nx, put_nx]; done) | (simp only [up_nx, put_nx]; omega))) ⟨(by repeat (first | with_reducible assumption | with_reducible exact AH.le.refl _ | with_reducible apply AH.le.up | (with_reducible refine AH.le.put hw ?_ ?_; · first | omega | (simp only [up_nx, put_nx, kill_nx]; done) | (simp only [up_nx, put_nx, kill_nx]; omega)) | (with_reducible refine AH.le.kill hw ?_ ?_; · first | omega | (simp only [up_nx, put_nx, kill_nx]; done) | (simp only [up_nx, put_nx, kill_nx]; omega)))), (by first | omega | (simp only [up_nx, put_nx]; done) | (simp only [up_nx, put_nx]; omega)), by rw [put_get_ne _ _ _ (by omega)]; exact hlb, by rw [put_get_ne _ _ _ (by omega)]; exact hcb, hv.up_ (by first | omega | (simp only [up_nx, put_nx]; done) | (simp only [up_nx, put_nx]; omega)) fun j o hj ⟨n, hn⟩ ho => by rw [put_get_ne _ _ _ (fun e => by subst e; exact hvb n hn)]; exact ho, by rw [put_get]; rfl, by rw [put_get_ne _ _ _ hb3.symm]; exact h13⟩
  · rintro _ H3 hn3 ⟨g1, g2, g3, g4, g5, g6, g7⟩
    unfold S_wordhoardref_SoundLine_K12
    simp only [List.getD_cons_zero]
    refine cut_st (fun _ : Unit => []) (fun _ H4 => H.le H4 ∧ H.nx ≤ H4.nx ∧ H4.get (H.nx + 4) = some (.box 36 x.cs) ∧ H4.get (H.nx + 8) = some (.box 24 x.c.cs) ∧ H4.get b12 = some (.box 24 (pz of 0).cs) ∧ H4.get b13 = some (.box 24 (pz of 1).cs)) (fun k hk => ?_) ?_
    · match of, ho2, hgl, g5, g6, hk with
      | [], _, hgl, _, g6, hk => simp (disch := first | omega | simp) [hgl]; exact hk () _ _ _ (.refl (Nat.le_refl _)) ⟨g1, g2, g3, g4, g6, g7⟩
      | [q], _, hgl, _, g6, hk => simp (disch := first | omega | simp) [hgl]; exact hk () _ _ _ (.refl (Nat.le_refl _)) ⟨g1, g2, g3, g4, g6, g7⟩
      | [q, s], _, hgl, g5, g6, hk =>
        obtain ⟨a, e1, e2, e3⟩ := elF_acc (by decide) (g5.kp (H2 := H3.up 4) (Kp.refl H3).up).el (i := 1) (e := s.cs) rfl
        unfold Clm.cs at e3
        have h13' := g7
        unfold Clm.cs at h13'
        have hvb : ∀ n, v ≠ .osl b13 3 0 n := g5.not fun xs e => by rw [g7] at e; cases e
        have e4 := e1 Try.prog .i64
        simp only [Int.natCast_one] at e4
        simp (disch := first | omega | simp) [hgl, e4, e3, h13']
        refine hk () _ _ _ (.refl (by first | omega | (simp only [up_nx, put_nx]; done) | (simp only [up_nx, put_nx]; omega))) ⟨(by repeat (first | with_reducible assumption | with_reducible exact AH.le.refl _ | with_reducible apply AH.le.up | (with_reducible refine AH.le.put hw ?_ ?_; · first | omega | (simp only [up_nx, put_nx, kill_nx]; done) | (simp only [up_nx, put_nx, kill_nx]; omega)) | (with_reducible refine AH.le.kill hw ?_ ?_; · first | omega | (simp only [up_nx, put_nx, kill_nx]; done) | (simp only [up_nx, put_nx, kill_nx]; omega)))), (by first | omega | (simp only [up_nx, put_nx]; done) | (simp only [up_nx, put_nx]; omega)), by rw [put_get_ne _ _ _ (by omega)]; exact g3, by rw [put_get_ne _ _ _ (by omega)]; exact g4, by rw [put_get_ne _ _ _ hb3]; exact g6, by rw [put_get]; rfl⟩
      | q :: s :: u :: r, h, _, _, _, _ => simp at h
    · rintro _ H4 hn4 ⟨f1, f2, f3, f4, f5, f6⟩
      exact fin_SoundLine hw f1 f2 f3 f4 f5 f6 hr1 hr2 hc hok hofo
set_option maxHeartbeats 1000000 in
theorem c_SoundLine (p : List Clm) (l : List Lin) (n : Nat) {x : Lin} (hx : l[n]? = some x) (hpo : ∀ q ∈ p, q.ok) (hlo : ∀ y ∈ l, y.c.ok) (hb : x.src.length * 24 ≤ 140737488355328) (_hn : n < 900000000) (H : AH) :
    Tri Try.prog 15 [cE p, .dsl 5 (l.map Lin.cs), iv n] H (fun r H' => H' = H ∧ r = bv (rightB p (l.map (·.c)) n x)) := tri_wf fun hw => tri_wordhoardref_SoundLine (by
  unfold S_wordhoardref_SoundLine
  have hmx : maxLen = 9223372036854775807 := by decide
  have hnl := (List.getElem?_eq_some_iff.1 hx).1
  have hlg : ∀ h, l[n]'h = x := fun h => (List.getElem?_eq_some_iff.1 hx).2
  simp (disch := first | omega | simp) [cE, iv, hnl, hlg, Lin.cs]
  obtain ⟨PC, hPC⟩ : ∃ PC, PC = (if x.rule = 1 then pickC p p.length else pickC (l.map (·.c)) n) := ⟨_, rfl⟩
  have hright : rightB p (l.map (·.c)) n x = match PC x.src with | some of => ruleB x.rule x.c of | none => false := by
    unfold rightB; rw [hPC]
    by_cases h : x.rule = 1
    · rw [if_pos h, if_pos h]; rfl
    · rw [if_neg h, if_neg h]; rfl
  rw [hright]
  refine loop_st (fun s : (AV × Nat) × List Clm => [s.1.1, iv s.1.2]) (fun s H' => s.1.2 ≤ x.src.length ∧ H.le H' ∧ H.nx + 10 ≤ H'.nx ∧ H'.get (H.nx + 4) = some (.box 36 x.cs) ∧ H'.get (H.nx + 8) = some (.box 24 x.c.cs) ∧ Grows 24 3 H H' s.1.1 (s.2.map Clm.cs) ∧ PC (x.src.take s.1.2) = some s.2) (fun s => x.src.length - s.1.2) ((.p (.slice none 0 0), 0), []) (.refl (Nat.le_refl _)) ⟨Nat.zero_le _, (by repeat (first | with_reducible assumption | with_reducible exact AH.le.refl _ | with_reducible apply AH.le.up | (with_reducible refine AH.le.put hw ?_ ?_; · first | omega | (simp only [up_nx, put_nx, kill_nx]; done) | (simp only [up_nx, put_nx, kill_nx]; omega)) | (with_reducible refine AH.le.kill hw ?_ ?_; · first | omega | (simp only [up_nx, put_nx, kill_nx]; done) | (simp only [up_nx, put_nx, kill_nx]; omega)))), (by first | omega | (simp only [up_nx, put_nx]; done) | (simp only [up_nx, put_nx]; omega)), by simp (disch := first | omega | simp) [put_get_ne]; rfl, put_get _ _, .nil _ _ _ _, by rw [hPC]; split <;> rfl⟩ ?_
  rintro ⟨⟨v, i⟩, of⟩ H1 hn1 ⟨hi, hle, hnx, hlb, hcb, hv, hpk⟩ k hk
  dsimp only at hi hv hpk hk
  unfold S_wordhoardref_SoundLine_L14
  have hlb' := hlb
  unfold Lin.cs at hlb
  have hsl : (x.src.map fun i => [AV.p (.int .i64 i)]).length = x.src.length := by simp
  by_cases hil : i < x.src.length
  · obtain ⟨z, hz⟩ : ∃ z, x.src[i]? = some z := ⟨_, List.getElem?_eq_getElem hil⟩
    have hzg : ∀ h, (x.src.map fun i => [AV.p (.int .i64 i)])[i]'h = [.p (.int .i64 z)] := fun h => by have := (List.getElem?_eq_some_iff.1 hz).2; simp [this]
    have hiv := ivn (i := i) (by omega)
    have hofl : of.length ≤ x.src.length := by
      have : of.length = (x.src.take i).length := by
        by_cases h : x.rule = 1
        · rw [hPC, if_pos h] at hpk; exact pickC_len hpk
        · rw [hPC, if_neg h] at hpk; exact pickC_len hpk
      rw [List.length_take] at this; omega
    have hlt : of.length < x.src.length := by
      have : of.length = (x.src.take i).length := by
        by_cases h : x.rule = 1
        · rw [hPC, if_pos h] at hpk; exact pickC_len hpk
        · rw [hPC, if_neg h] at hpk; exact pickC_len hpk
      rw [List.length_take] at this; omega
    have hvl : ∀ n, v ≠ .osl (H.nx + 4) 3 0 n := hv.not fun xs e => by rw [hlb] at e; cases e
    have hvc : ∀ n, v ≠ .osl (H.nx + 8) 3 0 n := hv.not fun xs e => by rw [hcb] at e; cases e
    have app : ∀ (H2 : AH) (id : Nat) (y : AV) (q : Clm), Kp H1 H2 → H1.nx ≤ id → id < H2.nx → elF H2 3 y = some [q.cs] → PC (x.src.take (i + 1)) = some (of ++ [q]) → Wr Try.prog id (.app 24 3 24) [v, y] (fun v49 _ => Pu Try.prog (.bin .add 3) [.p (.int .i64 (i : Int)), .p (.int .i64 1)] fun v26 => k [v49, v26]) H2 := fun H2 id y q hk2 hid hid2 hy hpk2 => by
      have hk1 := hk2.1
      refine Grows.app (t := 24) hw (hv.kp hk2) (hk2.le_of hle hw (by omega)) (by omega) hid2 (ys := [q.cs]) hy (dt_clm [q]) (by simp; omega) (by simp; omega) fun v' H3 g3 l3 n3 k3 _ => ?_
      rw [q_add_i, hiv]
      refine hk ((v', i + 1), of ++ [q]) _ _ _ (.refl (by omega)) ⟨hil, l3, by omega, ?_, ?_, by rw [List.map_append]; exact g3, hpk2⟩ (by dsimp only; omega)
      · rw [k3 _ (by omega) hvl]; exact hk2.get_ (by omega) hlb'
      · rw [k3 _ (by omega) hvc]; exact hk2.get_ (by omega) hcb
    simp (disch := first | omega | simp) [iv, hlb, hil]
    unfold S_wordhoardref_SoundLine_C1
    by_cases hr : x.rule = 1
    · rw [if_pos hr] at hPC
      by_cases hzr : 0 ≤ z ∧ z < p.length
      · obtain ⟨zn, rfl⟩ := Int.eq_ofNat_of_zero_le hzr.1
        have hzp : zn < p.length := by omega
        obtain ⟨q, hq⟩ : ∃ q, p[zn]? = some q := ⟨_, List.getElem?_eq_getElem hzp⟩
        have hqg : ∀ h, p[zn]'h = q := fun h => (List.getElem?_eq_some_iff.1 hq).2
        have hneg : ¬ ((zn : Int) < 0) := by omega
        have hnl2 : ¬ (p.length ≤ zn) := by omega
        simp (disch := first | omega | simp) [iv, hlb, hil, hzg, hr, hneg, hnl2, hzp, hqg, Clm.cs]
        refine app _ _ _ q (by repeat (first | with_reducible assumption | with_reducible exact Kp.refl _ | with_reducible apply Kp.up | (with_reducible refine Kp.put ?_ ?_; · first | omega | (simp only [up_nx, put_nx, kill_nx]; done) | (simp only [up_nx, put_nx, kill_nx]; omega)) | (with_reducible refine Kp.kill ?_ ?_; · first | omega | (simp only [up_nx, put_nx, kill_nx]; done) | (simp only [up_nx, put_nx, kill_nx]; omega)))) (by first | omega | (simp only [up_nx, put_nx, kill_nx]; done) | (simp only [up_nx, put_nx, kill_nx]; omega)) (by first | omega | (simp only [up_nx, put_nx]; done) | (simp only [up_nx, put_nx]; omega)) (by simp [Clm.cs]) (by rw [hPC] at hpk ⊢; exact pickC_next hpk hz hzr.1 hzr.2 (by simpa using hq))
      · have hnone : PC x.src = none := by rw [hPC]; exact pickC_fail hz hzr
        rw [hnone]
        by_cases hz0 : z < 0
        · simp (disch := first | omega | simp) [iv, hlb, hil, hzg, hr, hz0]
          exact rt_one hw hle (by repeat (first | exact Cl.p _ | exact Cl.dsl _ _ | exact Cl.any | refine Cl.tup ?_ | refine Cl.agg ?_ | exact Clo.nil | refine Clo.cons ?_ ?_)) ⟨rfl, rfl⟩
        · have hz1 : (p.length : Int) ≤ z := by omega
          simp (disch := first | omega | simp) [iv, hlb, hil, hzg, hr, hz0, hz1]
          exact rt_one hw hle (by repeat (first | exact Cl.p _ | exact Cl.dsl _ _ | exact Cl.any | refine Cl.tup ?_ | refine Cl.agg ?_ | exact Clo.nil | refine Clo.cons ?_ ?_)) ⟨rfl, rfl⟩
    · rw [if_neg hr] at hPC
      by_cases hzr : 0 ≤ z ∧ z < n
      · obtain ⟨zn, rfl⟩ := Int.eq_ofNat_of_zero_le hzr.1
        have hzp : zn < l.length := by omega
        obtain ⟨y, hy⟩ : ∃ y, l[zn]? = some y := ⟨_, List.getElem?_eq_getElem hzp⟩
        have hyg : ∀ h, l[zn]'h = y := fun h => (List.getElem?_eq_some_iff.1 hy).2
        have hneg : ¬ ((zn : Int) < 0) := by omega
        have hnl2 : ¬ (n ≤ zn) := by omega
        simp (disch := first | omega | simp) [iv, hlb, hil, hzg, hr, hneg, hnl2, hzp, hyg, Lin.cs]
        refine app _ _ _ y.c (by repeat (first | with_reducible assumption | with_reducible exact Kp.refl _ | with_reducible apply Kp.up | (with_reducible refine Kp.put ?_ ?_; · first | omega | (simp only [up_nx, put_nx, kill_nx]; done) | (simp only [up_nx, put_nx, kill_nx]; omega)) | (with_reducible refine Kp.kill ?_ ?_; · first | omega | (simp only [up_nx, put_nx, kill_nx]; done) | (simp only [up_nx, put_nx, kill_nx]; omega)))) (by first | omega | (simp only [up_nx, put_nx, kill_nx]; done) | (simp only [up_nx, put_nx, kill_nx]; omega)) (by first | omega | (simp only [up_nx, put_nx]; done) | (simp only [up_nx, put_nx]; omega)) (by simp [Clm.cs]) (by rw [hPC] at hpk ⊢; exact pickC_next hpk hz hzr.1 hzr.2 (by simp [hy]))
      · have hnone : PC x.src = none := by rw [hPC]; exact pickC_fail hz hzr
        rw [hnone]
        by_cases hz0 : z < 0
        · simp (disch := first | omega | simp) [iv, hlb, hil, hzg, hr, hz0]
          exact rt_one hw hle (by repeat (first | exact Cl.p _ | exact Cl.dsl _ _ | exact Cl.any | refine Cl.tup ?_ | refine Cl.agg ?_ | exact Clo.nil | refine Clo.cons ?_ ?_)) ⟨rfl, rfl⟩
        · have hz1 : (n : Int) ≤ z := by omega
          simp (disch := first | omega | simp) [iv, hlb, hil, hzg, hr, hz0, hz1]
          exact rt_one hw hle (by repeat (first | exact Cl.p _ | exact Cl.dsl _ _ | exact Cl.any | refine Cl.tup ?_ | refine Cl.agg ?_ | exact Clo.nil | refine Clo.cons ?_ ?_)) ⟨rfl, rfl⟩
  · have hie : i = x.src.length := by omega
    subst hie
    rw [List.take_length] at hpk
    rw [hpk]
    have hgl : ∀ (k : AV → AH → Prop) (H' : AH), Pu Try.prog .len [v] k H' = k (.p (.int .i64 (of.length : Int))) H' := fun k H' => by rw [hv.len, List.length_map]
    simp (disch := first | omega | simp) [iv, hlb]
    unfold S_wordhoardref_SoundLine_C13
    by_cases hrg : 1 ≤ x.rule ∧ x.rule ≤ 10
    · have : x.rule = 1 ∨ x.rule = 2 ∨ x.rule = 3 ∨ x.rule = 4 ∨ x.rule = 5 ∨ x.rule = 6 ∨ x.rule = 7 ∨ x.rule = 8 ∨ x.rule = 9 ∨ x.rule = 10 := by omega
      have hofo : ∀ q ∈ of, q.ok := fun q hq => by
        by_cases hr : x.rule = 1
        · rw [hPC, if_pos hr] at hpk
          obtain ⟨k, _, hk⟩ := pick_mem hpk q hq
          exact hpo q (List.mem_of_getElem? hk)
        · rw [hPC, if_neg hr] at hpk
          obtain ⟨k, _, hk⟩ := pick_mem hpk q hq
          obtain ⟨y, hy, rfl⟩ := List.mem_map.1 (List.mem_of_getElem? hk)
          exact hlo y hy
      have hok := hlo x (List.mem_of_getElem? hx)
      by_cases hcn : of.length = countR x.rule
      · rcases this with hr | hr | hr | hr | hr | hr | hr | hr | hr | hr <;> (have hcn2 := hcn; rw [hr] at hcn2; simp [countR] at hcn2)
        · simp (disch := first | omega | simp) [iv, hlb, hgl, hr, hcn2, put_get_ne]
          exact mid_SoundLine hr hw (by repeat (first | with_reducible assumption | with_reducible exact AH.le.refl _ | with_reducible apply AH.le.up | (with_reducible refine AH.le.put hw ?_ ?_; · first | omega | (simp only [up_nx, put_nx, kill_nx]; done) | (simp only [up_nx, put_nx, kill_nx]; omega)) | (with_reducible refine AH.le.kill hw ?_ ?_; · first | omega | (simp only [up_nx, put_nx, kill_nx]; done) | (simp only [up_nx, put_nx, kill_nx]; omega)))) (by first | omega | (simp only [up_nx, put_nx]; done) | (simp only [up_nx, put_nx]; omega)) (by simp (disch := first | omega | simp) [put_get_ne]; exact hlb') (by simp (disch := first | omega | simp) [put_get_ne]; exact hcb) (by exact hv.kp (by repeat (first | with_reducible assumption | with_reducible exact Kp.refl _ | with_reducible apply Kp.up | (with_reducible refine Kp.put ?_ ?_; · first | omega | (simp only [up_nx, put_nx, kill_nx]; done) | (simp only [up_nx, put_nx, kill_nx]; omega)) | (with_reducible refine Kp.kill ?_ ?_; · first | omega | (simp only [up_nx, put_nx, kill_nx]; done) | (simp only [up_nx, put_nx, kill_nx]; omega))))) (by simp (disch := first | omega | simp) [put_get_ne]; rfl) (by simp (disch := first | omega | simp); rfl) (by omega) (by omega) (by omega) hrg.1 hrg.2 hcn hok hofo
        · subst hcn2
          simp (disch := first | omega | simp) [iv, hlb, hgl, hr, put_get_ne]
          exact mid_SoundLine hr hw (by repeat (first | with_reducible assumption | with_reducible exact AH.le.refl _ | with_reducible apply AH.le.up | (with_reducible refine AH.le.put hw ?_ ?_; · first | omega | (simp only [up_nx, put_nx, kill_nx]; done) | (simp only [up_nx, put_nx, kill_nx]; omega)) | (with_reducible refine AH.le.kill hw ?_ ?_; · first | omega | (simp only [up_nx, put_nx, kill_nx]; done) | (simp only [up_nx, put_nx, kill_nx]; omega)))) (by first | omega | (simp only [up_nx, put_nx]; done) | (simp only [up_nx, put_nx]; omega)) (by simp (disch := first | omega | simp) [put_get_ne]; exact hlb') (by simp (disch := first | omega | simp) [put_get_ne]; exact hcb) (by exact hv.kp (by repeat (first | with_reducible assumption | with_reducible exact Kp.refl _ | with_reducible apply Kp.up | (with_reducible refine Kp.put ?_ ?_; · first | omega | (simp only [up_nx, put_nx, kill_nx]; done) | (simp only [up_nx, put_nx, kill_nx]; omega)) | (with_reducible refine Kp.kill ?_ ?_; · first | omega | (simp only [up_nx, put_nx, kill_nx]; done) | (simp only [up_nx, put_nx, kill_nx]; omega))))) (by simp (disch := first | omega | simp) [put_get_ne]; rfl) (by simp (disch := first | omega | simp); rfl) (by omega) (by omega) (by omega) hrg.1 hrg.2 hcn hok hofo
        · simp (disch := first | omega | simp) [iv, hlb, hgl, hr, hcn2, put_get_ne]
          exact mid_SoundLine hr hw (by repeat (first | with_reducible assumption | with_reducible exact AH.le.refl _ | with_reducible apply AH.le.up | (with_reducible refine AH.le.put hw ?_ ?_; · first | omega | (simp only [up_nx, put_nx, kill_nx]; done) | (simp only [up_nx, put_nx, kill_nx]; omega)) | (with_reducible refine AH.le.kill hw ?_ ?_; · first | omega | (simp only [up_nx, put_nx, kill_nx]; done) | (simp only [up_nx, put_nx, kill_nx]; omega)))) (by first | omega | (simp only [up_nx, put_nx]; done) | (simp only [up_nx, put_nx]; omega)) (by simp (disch := first | omega | simp) [put_get_ne]; exact hlb') (by simp (disch := first | omega | simp) [put_get_ne]; exact hcb) (by exact hv.kp (by repeat (first | with_reducible assumption | with_reducible exact Kp.refl _ | with_reducible apply Kp.up | (with_reducible refine Kp.put ?_ ?_; · first | omega | (simp only [up_nx, put_nx, kill_nx]; done) | (simp only [up_nx, put_nx, kill_nx]; omega)) | (with_reducible refine Kp.kill ?_ ?_; · first | omega | (simp only [up_nx, put_nx, kill_nx]; done) | (simp only [up_nx, put_nx, kill_nx]; omega))))) (by simp (disch := first | omega | simp) [put_get_ne]; rfl) (by simp (disch := first | omega | simp); rfl) (by omega) (by omega) (by omega) hrg.1 hrg.2 hcn hok hofo
        · simp (disch := first | omega | simp) [iv, hlb, hgl, hr, hcn2, put_get_ne]
          exact mid_SoundLine hr hw (by repeat (first | with_reducible assumption | with_reducible exact AH.le.refl _ | with_reducible apply AH.le.up | (with_reducible refine AH.le.put hw ?_ ?_; · first | omega | (simp only [up_nx, put_nx, kill_nx]; done) | (simp only [up_nx, put_nx, kill_nx]; omega)) | (with_reducible refine AH.le.kill hw ?_ ?_; · first | omega | (simp only [up_nx, put_nx, kill_nx]; done) | (simp only [up_nx, put_nx, kill_nx]; omega)))) (by first | omega | (simp only [up_nx, put_nx]; done) | (simp only [up_nx, put_nx]; omega)) (by simp (disch := first | omega | simp) [put_get_ne]; exact hlb') (by simp (disch := first | omega | simp) [put_get_ne]; exact hcb) (by exact hv.kp (by repeat (first | with_reducible assumption | with_reducible exact Kp.refl _ | with_reducible apply Kp.up | (with_reducible refine Kp.put ?_ ?_; · first | omega | (simp only [up_nx, put_nx, kill_nx]; done) | (simp only [up_nx, put_nx, kill_nx]; omega)) | (with_reducible refine Kp.kill ?_ ?_; · first | omega | (simp only [up_nx, put_nx, kill_nx]; done) | (simp only [up_nx, put_nx, kill_nx]; omega))))) (by simp (disch := first | omega | simp) [put_get_ne]; rfl) (by simp (disch := first | omega | simp); rfl) (by omega) (by omega) (by omega) hrg.1 hrg.2 hcn hok hofo
        · simp (disch := first | omega | simp) [iv, hlb, hgl, hr, hcn2, put_get_ne]
          exact mid_SoundLine hr hw (by repeat (first | with_reducible assumption | with_reducible exact AH.le.refl _ | with_reducible apply AH.le.up | (with_reducible refine AH.le.put hw ?_ ?_; · first | omega | (simp only [up_nx, put_nx, kill_nx]; done) | (simp only [up_nx, put_nx, kill_nx]; omega)) | (with_reducible refine AH.le.kill hw ?_ ?_; · first | omega | (simp only [up_nx, put_nx, kill_nx]; done) | (simp only [up_nx, put_nx, kill_nx]; omega)))) (by first | omega | (simp only [up_nx, put_nx]; done) | (simp only [up_nx, put_nx]; omega)) (by simp (disch := first | omega | simp) [put_get_ne]; exact hlb') (by simp (disch := first | omega | simp) [put_get_ne]; exact hcb) (by exact hv.kp (by repeat (first | with_reducible assumption | with_reducible exact Kp.refl _ | with_reducible apply Kp.up | (with_reducible refine Kp.put ?_ ?_; · first | omega | (simp only [up_nx, put_nx, kill_nx]; done) | (simp only [up_nx, put_nx, kill_nx]; omega)) | (with_reducible refine Kp.kill ?_ ?_; · first | omega | (simp only [up_nx, put_nx, kill_nx]; done) | (simp only [up_nx, put_nx, kill_nx]; omega))))) (by simp (disch := first | omega | simp) [put_get_ne]; rfl) (by simp (disch := first | omega | simp); rfl) (by omega) (by omega) (by omega) hrg.1 hrg.2 hcn hok hofo
        · simp (disch := first | omega | simp) [iv, hlb, hgl, hr, hcn2, put_get_ne]
          exact mid_SoundLine hr hw (by repeat (first | with_reducible assumption | with_reducible exact AH.le.refl _ | with_reducible apply AH.le.up | (with_reducible refine AH.le.put hw ?_ ?_; · first | omega | (simp only [up_nx, put_nx, kill_nx]; done) | (simp only [up_nx, put_nx, kill_nx]; omega)) | (with_reducible refine AH.le.kill hw ?_ ?_; · first | omega | (simp only [up_nx, put_nx, kill_nx]; done) | (simp only [up_nx, put_nx, kill_nx]; omega)))) (by first | omega | (simp only [up_nx, put_nx]; done) | (simp only [up_nx, put_nx]; omega)) (by simp (disch := first | omega | simp) [put_get_ne]; exact hlb') (by simp (disch := first | omega | simp) [put_get_ne]; exact hcb) (by exact hv.kp (by repeat (first | with_reducible assumption | with_reducible exact Kp.refl _ | with_reducible apply Kp.up | (with_reducible refine Kp.put ?_ ?_; · first | omega | (simp only [up_nx, put_nx, kill_nx]; done) | (simp only [up_nx, put_nx, kill_nx]; omega)) | (with_reducible refine Kp.kill ?_ ?_; · first | omega | (simp only [up_nx, put_nx, kill_nx]; done) | (simp only [up_nx, put_nx, kill_nx]; omega))))) (by simp (disch := first | omega | simp) [put_get_ne]; rfl) (by simp (disch := first | omega | simp); rfl) (by omega) (by omega) (by omega) hrg.1 hrg.2 hcn hok hofo
        · simp (disch := first | omega | simp) [iv, hlb, hgl, hr, hcn2, put_get_ne]
          exact mid_SoundLine hr hw (by repeat (first | with_reducible assumption | with_reducible exact AH.le.refl _ | with_reducible apply AH.le.up | (with_reducible refine AH.le.put hw ?_ ?_; · first | omega | (simp only [up_nx, put_nx, kill_nx]; done) | (simp only [up_nx, put_nx, kill_nx]; omega)) | (with_reducible refine AH.le.kill hw ?_ ?_; · first | omega | (simp only [up_nx, put_nx, kill_nx]; done) | (simp only [up_nx, put_nx, kill_nx]; omega)))) (by first | omega | (simp only [up_nx, put_nx]; done) | (simp only [up_nx, put_nx]; omega)) (by simp (disch := first | omega | simp) [put_get_ne]; exact hlb') (by simp (disch := first | omega | simp) [put_get_ne]; exact hcb) (by exact hv.kp (by repeat (first | with_reducible assumption | with_reducible exact Kp.refl _ | with_reducible apply Kp.up | (with_reducible refine Kp.put ?_ ?_; · first | omega | (simp only [up_nx, put_nx, kill_nx]; done) | (simp only [up_nx, put_nx, kill_nx]; omega)) | (with_reducible refine Kp.kill ?_ ?_; · first | omega | (simp only [up_nx, put_nx, kill_nx]; done) | (simp only [up_nx, put_nx, kill_nx]; omega))))) (by simp (disch := first | omega | simp) [put_get_ne]; rfl) (by simp (disch := first | omega | simp); rfl) (by omega) (by omega) (by omega) hrg.1 hrg.2 hcn hok hofo
        · simp (disch := first | omega | simp) [iv, hlb, hgl, hr, hcn2, put_get_ne]
          exact mid_SoundLine hr hw (by repeat (first | with_reducible assumption | with_reducible exact AH.le.refl _ | with_reducible apply AH.le.up | (with_reducible refine AH.le.put hw ?_ ?_; · first | omega | (simp only [up_nx, put_nx, kill_nx]; done) | (simp only [up_nx, put_nx, kill_nx]; omega)) | (with_reducible refine AH.le.kill hw ?_ ?_; · first | omega | (simp only [up_nx, put_nx, kill_nx]; done) | (simp only [up_nx, put_nx, kill_nx]; omega)))) (by first | omega | (simp only [up_nx, put_nx]; done) | (simp only [up_nx, put_nx]; omega)) (by simp (disch := first | omega | simp) [put_get_ne]; exact hlb') (by simp (disch := first | omega | simp) [put_get_ne]; exact hcb) (by exact hv.kp (by repeat (first | with_reducible assumption | with_reducible exact Kp.refl _ | with_reducible apply Kp.up | (with_reducible refine Kp.put ?_ ?_; · first | omega | (simp only [up_nx, put_nx, kill_nx]; done) | (simp only [up_nx, put_nx, kill_nx]; omega)) | (with_reducible refine Kp.kill ?_ ?_; · first | omega | (simp only [up_nx, put_nx, kill_nx]; done) | (simp only [up_nx, put_nx, kill_nx]; omega))))) (by simp (disch := first | omega | simp) [put_get_ne]; rfl) (by simp (disch := first | omega | simp); rfl) (by omega) (by omega) (by omega) hrg.1 hrg.2 hcn hok hofo
        · simp (disch := first | omega | simp) [iv, hlb, hgl, hr, hcn2, put_get_ne]
          exact mid_SoundLine hr hw (by repeat (first | with_reducible assumption | with_reducible exact AH.le.refl _ | with_reducible apply AH.le.up | (with_reducible refine AH.le.put hw ?_ ?_; · first | omega | (simp only [up_nx, put_nx, kill_nx]; done) | (simp only [up_nx, put_nx, kill_nx]; omega)) | (with_reducible refine AH.le.kill hw ?_ ?_; · first | omega | (simp only [up_nx, put_nx, kill_nx]; done) | (simp only [up_nx, put_nx, kill_nx]; omega)))) (by first | omega | (simp only [up_nx, put_nx]; done) | (simp only [up_nx, put_nx]; omega)) (by simp (disch := first | omega | simp) [put_get_ne]; exact hlb') (by simp (disch := first | omega | simp) [put_get_ne]; exact hcb) (by exact hv.kp (by repeat (first | with_reducible assumption | with_reducible exact Kp.refl _ | with_reducible apply Kp.up | (with_reducible refine Kp.put ?_ ?_; · first | omega | (simp only [up_nx, put_nx, kill_nx]; done) | (simp only [up_nx, put_nx, kill_nx]; omega)) | (with_reducible refine Kp.kill ?_ ?_; · first | omega | (simp only [up_nx, put_nx, kill_nx]; done) | (simp only [up_nx, put_nx, kill_nx]; omega))))) (by simp (disch := first | omega | simp) [put_get_ne]; rfl) (by simp (disch := first | omega | simp); rfl) (by omega) (by omega) (by omega) hrg.1 hrg.2 hcn hok hofo
        · simp (disch := first | omega | simp) [iv, hlb, hgl, hr, hcn2, put_get_ne]
          exact mid_SoundLine hr hw (by repeat (first | with_reducible assumption | with_reducible exact AH.le.refl _ | with_reducible apply AH.le.up | (with_reducible refine AH.le.put hw ?_ ?_; · first | omega | (simp only [up_nx, put_nx, kill_nx]; done) | (simp only [up_nx, put_nx, kill_nx]; omega)) | (with_reducible refine AH.le.kill hw ?_ ?_; · first | omega | (simp only [up_nx, put_nx, kill_nx]; done) | (simp only [up_nx, put_nx, kill_nx]; omega)))) (by first | omega | (simp only [up_nx, put_nx]; done) | (simp only [up_nx, put_nx]; omega)) (by simp (disch := first | omega | simp) [put_get_ne]; exact hlb') (by simp (disch := first | omega | simp) [put_get_ne]; exact hcb) (by exact hv.kp (by repeat (first | with_reducible assumption | with_reducible exact Kp.refl _ | with_reducible apply Kp.up | (with_reducible refine Kp.put ?_ ?_; · first | omega | (simp only [up_nx, put_nx, kill_nx]; done) | (simp only [up_nx, put_nx, kill_nx]; omega)) | (with_reducible refine Kp.kill ?_ ?_; · first | omega | (simp only [up_nx, put_nx, kill_nx]; done) | (simp only [up_nx, put_nx, kill_nx]; omega))))) (by simp (disch := first | omega | simp) [put_get_ne]; rfl) (by simp (disch := first | omega | simp); rfl) (by omega) (by omega) (by omega) hrg.1 hrg.2 hcn hok hofo
      · have hf := ruleB_count (c := x.c) (of := of) (r := x.rule) fun h => hcn h.2.2
        rw [hf]
        have hcz : ∀ m : Int, m = (countR x.rule : Int) → ¬ (of.length : Int) = m := fun m h1 h2 => hcn (by omega)
        rcases this with hr | hr | hr | hr | hr | hr | hr | hr | hr | hr <;> (first | (have hz := hcz 1 (by rw [hr]; rfl)) | (have hz := hcz 0 (by rw [hr]; rfl)) | (have hz := hcz 2 (by rw [hr]; rfl))) <;> (simp (disch := first | omega | simp) [iv, hlb, hgl, hr, hz, put_get_ne]; first | exact rt_one hw (by repeat (first | with_reducible assumption | with_reducible exact AH.le.refl _ | with_reducible apply AH.le.up | (with_reducible refine AH.le.put hw ?_ ?_; · first | omega | (simp only [up_nx, put_nx, kill_nx]; done) | (simp only [up_nx, put_nx, kill_nx]; omega)) | (with_reducible refine AH.le.kill hw ?_ ?_; · first | omega | (simp only [up_nx, put_nx, kill_nx]; done) | (simp only [up_nx, put_nx, kill_nx]; omega)))) (by repeat (first | exact Cl.p _ | exact Cl.dsl _ _ | exact Cl.any | refine Cl.tup ?_ | refine Cl.agg ?_ | exact Clo.nil | refine Clo.cons ?_ ?_)) ⟨rfl, rfl⟩ | exact ⟨fun _ => rt_one hw (by repeat (first | with_reducible assumption | with_reducible exact AH.le.refl _ | with_reducible apply AH.le.up | (with_reducible refine AH.le.put hw ?_ ?_; · first | omega | (simp only [up_nx, put_nx, kill_nx]; done) | (simp only [up_nx, put_nx, kill_nx]; omega)) | (with_reducible refine AH.le.kill hw ?_ ?_; · first | omega | (simp only [up_nx, put_nx, kill_nx]; done) | (simp only [up_nx, put_nx, kill_nx]; omega)))) (by repeat (first | exact Cl.p _ | exact Cl.dsl _ _ | exact Cl.any | refine Cl.tup ?_ | refine Cl.agg ?_ | exact Clo.nil | refine Clo.cons ?_ ?_)) ⟨rfl, rfl⟩, fun e => absurd (by rw [e]; rfl) hz⟩)
    · have hf := ruleB_count (c := x.c) (of := of) (r := x.rule) fun h => hrg ⟨h.1, h.2.1⟩
      rw [hf]
      by_cases h1 : x.rule < 1
      · simp (disch := first | omega | simp) [iv, hlb, h1]
        exact rt_one hw (by repeat (first | with_reducible assumption | with_reducible exact AH.le.refl _ | with_reducible apply AH.le.up | (with_reducible refine AH.le.put hw ?_ ?_; · first | omega | (simp only [up_nx, put_nx, kill_nx]; done) | (simp only [up_nx, put_nx, kill_nx]; omega)) | (with_reducible refine AH.le.kill hw ?_ ?_; · first | omega | (simp only [up_nx, put_nx, kill_nx]; done) | (simp only [up_nx, put_nx, kill_nx]; omega)))) (by repeat (first | exact Cl.p _ | exact Cl.dsl _ _ | exact Cl.any | refine Cl.tup ?_ | refine Cl.agg ?_ | exact Clo.nil | refine Clo.cons ?_ ?_)) ⟨rfl, rfl⟩
      · have h2 : x.rule > 10 := by omega
        simp (disch := first | omega | simp) [iv, hlb, h1, h2]
        exact rt_one hw (by repeat (first | with_reducible assumption | with_reducible exact AH.le.refl _ | with_reducible apply AH.le.up | (with_reducible refine AH.le.put hw ?_ ?_; · first | omega | (simp only [up_nx, put_nx, kill_nx]; done) | (simp only [up_nx, put_nx, kill_nx]; omega)) | (with_reducible refine AH.le.kill hw ?_ ?_; · first | omega | (simp only [up_nx, put_nx, kill_nx]; done) | (simp only [up_nx, put_nx, kill_nx]; omega)))) (by repeat (first | exact Cl.p _ | exact Cl.dsl _ _ | exact Cl.any | refine Cl.tup ?_ | refine Cl.agg ?_ | exact Clo.nil | refine Clo.cons ?_ ?_)) ⟨rfl, rfl⟩)
end Go.Proofs.Ytcmnjoepadjioaa

/- Abstract walks of functions, written by a program (wip/aw/aw.py): each equation is checked by the kernel. -/
namespace Go.Proofs.Ytcmnjoepadjioaa
open Go.RowKit

/-! wordhoard/wordhoardlaw.ProveSound -/
def ac_wordhoardlaw_ProveSound : AC := (.seq (.reg 0) (.seq (.reg 1) (.seq (.reg 2) (.seq (.reg 3) (.seq (.seq (.reg 4) (.block 0 (.loop [8, 9] [(18, 32)] (.seq (.seq (.reg 5) (.cond (.tmp 21) .skip (.exit 0))) (.seq (.block 1 (.reg 6)) (.reg 7)))))) (.cut [7] [(32, 38)] (.seq (.reg 8) (.cond (.tmp 34) (.reg 9) (.reg 10))) (.seq (.reg 11) (.seq (.seq (.reg 12) (.block 2 (.loop [10, 11] [(40, 53)] (.seq (.seq (.reg 13) (.cond (.tmp 46) .skip (.exit 2))) (.seq (.block 3 (.reg 14)) (.reg 15)))))) (.seq (.reg 16) .ret)))))))))
def S_wordhoardlaw_ProveSound_L1 (a0 : AV) (a1 : AV) (Q : AV → AH → Prop) (H : AH) (v16 : AV) (v17 : AV) (vs_16 : List AV) (vs_19 : List AV) (k_18 : List AV → AH → Prop) : AH → Prop :=
  Pu Try.prog .len [a1] fun v42 =>
  Pu Try.prog (.bin .lss 3) [(vs_19.getD 1 .any), v42] fun v43 =>
  Gd v43 true (fun k_23 => k_23 (vs_19.getD 0 .any)) fun v45 =>
  Pu Try.prog .pick [v43, v45, (.p (.bool false))] fun v46 =>
  CdA v46
    (
    Ca Try.prog (.fn (.func 15) [] []) [a0, a1, (vs_19.getD 1 .any)] fun v52 =>
    Pu Try.prog (.bin .add 3) [(vs_19.getD 1 .any), (.p (.int .i64 1))] fun v48 =>
    k_18 [v52, v48]
    ) (
    Ca Try.prog (.fn (.func 10) [] []) [] fun v53 =>
    Gd v53 true (fun k_29 => k_29 v17) fun v55 =>
    Gd v53 true (fun k_31 => k_31 (vs_16.getD 0 .any)) fun v56 =>
    Gd v53 true (fun k_33 => Pu Try.prog (.bin .eql 25) [v55, v56] k_33) fun v57 =>
    Pu Try.prog .pick [v53, v57, (.p (.bool false))] fun v58 =>
    Gd v58 true (fun k_36 => k_36 v16) fun v60 =>
    Gd v58 true (fun k_38 => k_38 (vs_19.getD 0 .any)) fun v61 =>
    Gd v58 true (fun k_40 => Pu Try.prog (.bin .eql 4) [v60, v61] k_40) fun v62 =>
    Pu Try.prog .pick [v58, v62, (.p (.bool false))] fun v63 =>
    Rt Try.prog H.nx v63 Q
    )
def S_wordhoardlaw_ProveSound_K2 (a0 : AV) (a1 : AV) (Q : AV → AH → Prop) (H : AH) (v16 : AV) (v17 : AV) (vs_16 : List AV) : AH → Prop :=
  Pu Try.prog (.bin .eql 25) [(vs_16.getD 0 .any), (.p (.int .i64 0))] fun v39 =>
  LoopA Try.prog 2 (S_wordhoardlaw_ProveSound_L1 a0 a1 Q H v16 v17 vs_16) [v39, (.p (.int .i64 0))]
def S_wordhoardlaw_ProveSound_L3 (a0 : AV) (a1 : AV) (Q : AV → AH → Prop) (H : AH) (v16 : AV) (v17 : AV) (vs : List AV) (k : List AV → AH → Prop) : AH → Prop :=
  Pu Try.prog .len [a1] fun v20 =>
  Pu Try.prog (.bin .lss 3) [(vs.getD 1 .any), v20] fun v21 =>
  CdA v21
    (
    Rg 9 fun b =>
    Pu Try.prog (.idx 5) [a1, (vs.getD 1 .any)] fun v27 =>
    Pu Try.prog (.addOff 1) [v27] fun v28 =>
    RdS Try.prog (.ld 3 true) [v28] fun v29 =>
    Al (b + 6) (.bs 24 3 1 [.p (.bool false), .p (.int .i64 0), .p (.int .i64 0)] [(0, 3)]) [v29] fun v30 =>
    WrS Try.prog (b + 7) (.app 24 3 24) [(vs.getD 0 .any), v30] fun v31 =>
    Pu Try.prog (.bin .add 3) [(vs.getD 1 .any), (.p (.int .i64 1))] fun v23 =>
    k [v31, v23]
    ) (
    CutA Try.prog 1 (fun k_15 =>
      Pu Try.prog .len [a1] fun v33 =>
      Pu Try.prog (.bin .gtr 3) [v33, (.p (.int .i64 400))] fun v34 =>
      CdA v34
        (
        k_15 [(.p (.int .i64 7))]
        ) (
        Ca Try.prog (.fn (.func 14) [] []) [a0, (vs.getD 0 .any)] fun v37 =>
        k_15 [v37]
        )
      ) (S_wordhoardlaw_ProveSound_K2 a0 a1 Q H v16 v17)
    )
def S_wordhoardlaw_ProveSound (a0 a1 : AV) (Q : AV → AH → Prop) (H : AH) : Prop := (
    Ca Try.prog (.fn (.func 13) [] []) [a0, a1] fun v15 =>
    Pu Try.prog (.ext 0) [v15] fun v16 =>
    Pu Try.prog (.ext 1) [v15] fun v17 =>
    LoopA Try.prog 2 (S_wordhoardlaw_ProveSound_L3 a0 a1 Q H v16 v17) [(.p (.slice none 0 0)), (.p (.int .i64 0))]
    ) H
theorem eq_wordhoardlaw_ProveSound (a0 a1 : AV) (Q : AV → AH → Prop) (H : AH) : FnA Try.prog 64 (regsF Try.f4) ac_wordhoardlaw_ProveSound [.tm 4] [a0, a1] H Q = S_wordhoardlaw_ProveSound a0 a1 Q H := by kernel_rfl
theorem tri_wordhoardlaw_ProveSound {a0 a1 : AV} {H : AH} {Q : AV → AH → Prop} (h : S_wordhoardlaw_ProveSound a0 a1 Q H) : Tri Try.prog 4 [a0, a1] H Q :=
  tri_of (Ms := [#[], #[], #[], #[], #[], #[], #[], #[], #[], #[], #[], #[], #[], #[], #[], #[], #[]]) mixed Try.func4 rfl (by kernel_rfl) (by kernel_rfl) rfl (of_decide_eq_true rfl : 2 ≤ 64) ((eq_wordhoardlaw_ProveSound a0 a1 Q H).symm ▸ h : FnA Try.prog 64 (regsF Try.f4) ac_wordhoardlaw_ProveSound [.tm 4] [a0, a1] H Q)

/-! wordhoard/wordhoardlaw.ProveArgues -/
def ac_wordhoardlaw_ProveArgues : AC := (.seq (.reg 0) (.seq (.reg 1) (.seq (.reg 2) (.seq (.reg 3) (.seq (.seq (.reg 4) (.cond (.tmp 44) (.seq (.reg 5) .ret) .skip)) (.seq (.seq (.reg 6) (.cond (.tmp 46) (.seq (.reg 7) .ret) .skip)) (.seq (.reg 8) (.seq (.seq (.reg 9) (.cond (.tmp 88) (.seq (.reg 10) .ret) .skip)) (.seq (.seq (.reg 11) (.cond (.tmp 90) (.seq (.seq (.reg 12) (.cond (.tmp 98) (.seq (.reg 13) .ret) .skip)) (.seq (.seq (.reg 14) (.block 0 (.loop [13] [(4, 5), (99, 112)] (.seq (.seq (.reg 15) (.cond (.tmp 102) .skip (.exit 0))) (.seq (.block 1 (.seq (.reg 16) (.cond (.tmp 111) (.seq (.reg 17) .ret) .skip))) (.reg 18)))))) (.seq (.reg 19) .ret))) .skip)) (.seq (.seq (.reg 20) (.cond (.tmp 130) (.seq (.reg 21) .ret) .skip)) (.seq (.seq (.reg 22) (.block 2 (.loop [14] [(4, 5), (131, 151)] (.seq (.seq (.reg 23) (.cond (.tmp 134) .skip (.exit 2))) (.seq (.block 3 (.seq (.reg 24) (.cond (.tmp 150) (.seq (.reg 25) .ret) .skip))) (.reg 26)))))) (.seq (.reg 27) .ret))))))))))))
def S_wordhoardlaw_ProveArgues_L1 (a0 : AV) (Q : AV → AH → Prop) (H : AH) (v26 : AV) (vs : List AV) (k_101 : List AV → AH → Prop) : AH → Prop :=
  Pu Try.prog .len [a0] fun v101 =>
  Pu Try.prog (.bin .lss 3) [(vs.getD 0 .any), v101] fun v102 =>
  CdA v102
    (
    Pu Try.prog (.idx 3) [a0, (vs.getD 0 .any)] fun v108 =>
    RdS Try.prog (.ld 3 true) [v108] fun v109 =>
    Ca Try.prog (.fn (.func 12) [] []) [v26, v109] fun v110 =>
    Pu Try.prog (.un .not) [v110] fun v111 =>
    CdA v111
      (
      Rt Try.prog H.nx (.p (.bool false)) Q
      ) (
      Pu Try.prog (.bin .add 3) [(vs.getD 0 .any), (.p (.int .i64 1))] fun v104 =>
      k_101 [v104]
      )
    ) (
    Rt Try.prog H.nx (.p (.bool true)) Q
    )
def S_wordhoardlaw_ProveArgues_L2 (a0 : AV) (Q : AV → AH → Prop) (H : AH) (v19 : AV) (vs_152 : List AV) (k_151 : List AV → AH → Prop) : AH → Prop :=
  Pu Try.prog .len [v19] fun v133 =>
  Pu Try.prog (.bin .lss 3) [(vs_152.getD 0 .any), v133] fun v134 =>
  CdA v134
    (
    Pu Try.prog (.idx 5) [v19, (vs_152.getD 0 .any)] fun v139 =>
    Pu Try.prog (.addOff 1) [v139] fun v140 =>
    RdS Try.prog (.ld 3 true) [v140] fun v141 =>
    Ca Try.prog (.fn (.func 9) [] []) [v141] fun v142 =>
    Pu Try.prog (.bin .neq 25) [v142, (.p (.int .i64 0))] fun v143 =>
    Gd v143 false (fun k_161 => k_161 a0) fun v145 =>
    Gd v143 false (fun k_163 => k_163 v19) fun v146 =>
    Gd v143 false (fun k_165 => k_165 (vs_152.getD 0 .any)) fun v147 =>
    Gd v143 false (fun k_167 => Ca Try.prog (.fn (.func 15) [] []) [v145, v146, v147] k_167) fun v148 =>
    Gd v143 false (fun k_169 => Pu Try.prog (.un .not) [v148] k_169) fun v149 =>
    Pu Try.prog .pick [v143, (.p (.bool true)), v149] fun v150 =>
    CdA v150
      (
      Rt Try.prog H.nx (.p (.bool false)) Q
      ) (
      Pu Try.prog (.bin .add 3) [(vs_152.getD 0 .any), (.p (.int .i64 1))] fun v136 =>
      k_151 [v136]
      )
    ) (
    Rt Try.prog H.nx (.p (.bool true)) Q
    )
def S_wordhoardlaw_ProveArgues_C3 (a0 : AV) (Q : AV → AH → Prop) (H : AH) (v3 : AV) (v19 : AV) : AH → Prop :=
  Vw fun V =>
  Pu Try.prog .len [v19] fun v113 =>
  Pu Try.prog (.bin .eql 3) [v113, (.p (.int .i64 0))] fun v114 =>
  GdV v114 false (fun k_114 => k_114 v19 V) V fun v116 V_115 =>
  GdV v114 false (fun k_117 => Pu Try.prog .len [v116] (fun a => k_117 a V_115)) V_115 fun v117 V_118 =>
  GdV v114 false (fun k_120 => Pu Try.prog (.bin .gtr 3) [v117, (.p (.int .i64 400))] (fun a => k_120 a V_118)) V_118 fun v118 V_121 =>
  Pu Try.prog .pick [v114, (.p (.bool true)), v118] fun v119 =>
  GdV v119 false (fun k_124 => k_124 v19 V_121) V_121 fun v121 V_125 =>
  GdV v119 false (fun k_127 => k_127 v19 V_125) V_125 fun v122 V_128 =>
  GdV v119 false (fun k_130 => Pu Try.prog .len [v122] (fun a => k_130 a V_128)) V_128 fun v123 V_131 =>
  GdV v119 false (fun k_133 => Pu Try.prog (.bin .sub 3) [v123, (.p (.int .i64 1))] (fun a => k_133 a V_131)) V_131 fun v124 V_134 =>
  GdV v119 false (fun k_136 => Pu Try.prog (.idx 5) [v121, v124] (fun a => k_136 a V_134)) V_134 fun v125 V_137 =>
  GdV v119 false (fun k_139 => Pu Try.prog (.addOff 1) [v125] (fun a => k_139 a V_137)) V_137 fun v126 V_140 =>
  GdV v119 false (fun k_142 => Rd Try.prog V_140 (.ld 3 true) [v126] (fun a => k_142 a V_140)) V_140 fun v127 V_143 =>
  GdV v119 false (fun k_145 => Rd Try.prog V_143 (.ld 3 true) [v3] (fun a => k_145 a V_143)) V_143 fun v128 V_146 =>
  GdV v119 false (fun k_148 => Pu Try.prog (.bin .neq 24) [v127, v128] (fun a => k_148 a V_146)) V_146 fun v129 _ =>
  Pu Try.prog .pick [v119, (.p (.bool true)), v129] fun v130 =>
  CdA v130
    (
    Rt Try.prog H.nx (.p (.bool false)) Q
    ) (
    LoopA Try.prog 1 (S_wordhoardlaw_ProveArgues_L2 a0 Q H v19) [(.p (.int .i64 0))]
    )
def S_wordhoardlaw_ProveArgues_C4 (a0 : AV) (Q : AV → AH → Prop) (H : AH) (v3 : AV) (v19 : AV) (v20 : AV) (v26 : AV) (v27 : AV) : AH → Prop :=
  RdS Try.prog (.ld 3 true) [v3] fun v62 =>
  Ca Try.prog (.fn (.func 18) [] []) [a0, v62] fun v63 =>
  Pu Try.prog (.bin .neq 4) [v20, v63] fun v66 =>
  Gd v66 false (fun k_57 => k_57 v27) fun v68 =>
  Gd v66 false (fun k_59 => k_59 v63) fun v69 =>
  Gd v66 false (fun k_61 => Pu Try.prog (.bin .eql 4) [v68, v69] k_61) fun v70 =>
  Pu Try.prog .pick [v66, (.p (.bool true)), v70] fun v71 =>
  Gd v71 false (fun k_64 => k_64 v63) fun v73 =>
  Gd v71 false (fun k_66 => k_66 v73) fun v74 =>
  Gd v74 true (fun k_68 => k_68 v26) fun v75 =>
  Gd v74 true (fun k_70 => Pu Try.prog .len [v75] k_70) fun v76 =>
  Gd v74 true (fun k_72 => Pu Try.prog (.bin .gtr 3) [v76, (.p (.int .i64 0))] k_72) fun v77 =>
  Gd v71 false (fun k_74 => Pu Try.prog .pick [v74, v77, (.p (.bool false))] k_74) fun v78 =>
  Pu Try.prog .pick [v71, (.p (.bool true)), v78] fun v79 =>
  Gd v79 false (fun k_77 => k_77 v63) fun v81 =>
  Gd v79 false (fun k_79 => Pu Try.prog (.un .not) [v81] k_79) fun v82 =>
  Gd v79 false (fun k_81 => k_81 v82) fun v83 =>
  Gd v83 true (fun k_83 => k_83 v19) fun v84 =>
  Gd v83 true (fun k_85 => Pu Try.prog .len [v84] k_85) fun v85 =>
  Gd v83 true (fun k_87 => Pu Try.prog (.bin .gtr 3) [v85, (.p (.int .i64 0))] k_87) fun v86 =>
  Gd v79 false (fun k_89 => Pu Try.prog .pick [v83, v86, (.p (.bool false))] k_89) fun v87 =>
  Pu Try.prog .pick [v79, (.p (.bool true)), v87] fun v88 =>
  CdA v88
    (
    Rt Try.prog H.nx (.p (.bool false)) Q
    ) (
    Pu Try.prog (.un .not) [v63] fun v90 =>
    CdA v90
      (
      Ca Try.prog (.fn (.func 8) [] []) [v26] fun v92 =>
      Pu Try.prog (.bin .neq 25) [v92, (.p (.int .i64 0))] fun v93 =>
      Gd v93 false (fun k_95 => k_95 v26) fun v95 =>
      Gd v93 false (fun k_97 => RdS Try.prog (.ld 3 true) [v3] k_97) fun v96 =>
      Gd v93 false (fun k_99 => Ca Try.prog (.fn (.func 12) [] []) [v95, v96] k_99) fun v97 =>
      Pu Try.prog .pick [v93, (.p (.bool true)), v97] fun v98 =>
      CdA v98
        (
        Rt Try.prog H.nx (.p (.bool false)) Q
        ) (
        LoopA Try.prog 1 (S_wordhoardlaw_ProveArgues_L1 a0 Q H v26) [(.p (.int .i64 0))]
        )
      ) (S_wordhoardlaw_ProveArgues_C3 a0 Q H v3 v19)
    )
def S_wordhoardlaw_ProveArgues (a0 a1 : AV) (Q : AV → AH → Prop) (H : AH) : Prop := (
    Rg 2 fun b =>
    Al (b + 0) (.bx 24) [a1] fun v3 =>
    RdS Try.prog (.ld 3 true) [v3] fun v17 =>
    Ca Try.prog (.fn (.func 16) [] []) [a0, v17] fun v18 =>
    Pu Try.prog (.ext 0) [v18] fun v19 =>
    Pu Try.prog (.ext 1) [v18] fun v20 =>
    Pu Try.prog (.ext 2) [v18] fun v21 =>
    RdS Try.prog (.ld 3 true) [v3] fun v24 =>
    Ca Try.prog (.fn (.func 17) [] []) [a0, v24] fun v25 =>
    Pu Try.prog (.ext 0) [v25] fun v26 =>
    Pu Try.prog (.ext 1) [v25] fun v27 =>
    Pu Try.prog (.ext 2) [v25] fun v28 =>
    Rg 5 fun b_13 =>
    RdS Try.prog (.ld 3 true) [v3] fun v30 =>
    Al (b_13 + 2) (.bs 24 3 1 [.p (.bool false), .p (.int .i64 0), .p (.int .i64 0)] [(0, 3)]) [v30] fun v31 =>
    Ca Try.prog (.fn (.func 14) [] []) [a0, v31] fun v32 =>
    Ca Try.prog (.fn (.func 10) [] []) [] fun v33 =>
    Pu Try.prog (.un .not) [v33] fun v34 =>
    Gd v34 false (fun k => k v21) fun v36 =>
    Gd v34 false (fun k_22 => k_22 v32) fun v37 =>
    Gd v34 false (fun k_24 => Pu Try.prog (.bin .neq 25) [v36, v37] k_24) fun v38 =>
    Pu Try.prog .pick [v34, (.p (.bool true)), v38] fun v39 =>
    Gd v39 false (fun k_27 => k_27 v28) fun v41 =>
    Gd v39 false (fun k_29 => k_29 v32) fun v42 =>
    Gd v39 false (fun k_31 => Pu Try.prog (.bin .neq 25) [v41, v42] k_31) fun v43 =>
    Pu Try.prog .pick [v39, (.p (.bool true)), v43] fun v44 =>
    CdA v44
      (
      Rt Try.prog H.nx (.p (.bool false)) Q
      ) (
      Pu Try.prog (.bin .neq 25) [v32, (.p (.int .i64 0))] fun v46 =>
      CdA v46
        (
        Pu Try.prog (.un .not) [v20] fun v48 =>
        Gd v48 true (fun k_36 => k_36 v27) fun v50 =>
        Gd v48 true (fun k_38 => Pu Try.prog (.un .not) [v50] k_38) fun v51 =>
        Pu Try.prog .pick [v48, v51, (.p (.bool false))] fun v52 =>
        Gd v52 true (fun k_41 => k_41 v19) fun v54 =>
        Gd v52 true (fun k_43 => Pu Try.prog .len [v54] k_43) fun v55 =>
        Gd v52 true (fun k_45 => k_45 v26) fun v56 =>
        Gd v52 true (fun k_47 => Pu Try.prog .len [v56] k_47) fun v57 =>
        Gd v52 true (fun k_49 => Pu Try.prog (.bin .add 3) [v55, v57] k_49) fun v58 =>
        Gd v52 true (fun k_51 => Pu Try.prog (.bin .eql 3) [v58, (.p (.int .i64 0))] k_51) fun v59 =>
        Pu Try.prog .pick [v52, v59, (.p (.bool false))] fun v60 =>
        Rt Try.prog H.nx v60 Q
        ) (S_wordhoardlaw_ProveArgues_C4 a0 Q H v3 v19 v20 v26 v27)
      )
    ) H
theorem eq_wordhoardlaw_ProveArgues (a0 a1 : AV) (Q : AV → AH → Prop) (H : AH) : FnA Try.prog 151 (regsF Try.f5) ac_wordhoardlaw_ProveArgues [.tm 4] [a0, a1] H Q = S_wordhoardlaw_ProveArgues a0 a1 Q H := by kernel_rfl
theorem tri_wordhoardlaw_ProveArgues {a0 a1 : AV} {H : AH} {Q : AV → AH → Prop} (h : S_wordhoardlaw_ProveArgues a0 a1 Q H) : Tri Try.prog 5 [a0, a1] H Q :=
  tri_of (Ms := [#[], #[], #[], #[], #[], #[], #[], #[], #[], #[], #[], #[], #[], #[], #[], #[], #[], #[], #[], #[], #[0, 1, 3, 7, 15, 31, 63, 127, 255, 511, 511, 1535, 3583, 8191, 16383, 32767, 511, 131071, 262143], #[], #[], #[], #[], #[], #[], #[]]) mixed Try.func5 rfl (by kernel_rfl) (by kernel_rfl) rfl (of_decide_eq_true rfl : 2 ≤ 151) ((eq_wordhoardlaw_ProveArgues a0 a1 Q H).symm ▸ h : FnA Try.prog 151 (regsF Try.f5) ac_wordhoardlaw_ProveArgues [.tm 4] [a0, a1] H Q)

/-! wordhoard/wordhoardlaw.ProveComplete -/
def ac_wordhoardlaw_ProveComplete : AC := (.seq (.reg 0) (.seq (.seq (.reg 1) (.cond (.tmp 26) (.seq (.reg 2) .ret) .skip)) (.seq (.reg 3) (.seq (.reg 4) (.seq (.seq (.reg 5) (.cond (.tmp 42) (.seq (.reg 6) .ret) .skip)) (.seq (.seq (.reg 7) (.cond (.tmp 52) (.seq (.reg 8) .ret) .skip)) (.seq (.reg 9) (.cut [15] [(8, 9), (16, 18), (54, 84)] (.seq (.reg 10) (.cond (.tmp 54) (.seq (.reg 11) (.seq (.seq (.reg 12) (.cond (.tmp 82) (.seq (.reg 13) .ret) .skip)) (.reg 14))) .skip)) (.seq (.reg 15) (.seq (.seq (.reg 16) (.block 0 (.loop [18, 19] [(8, 9), (20, 22), (84, 106)] (.seq (.seq (.reg 17) (.cond (.tmp 87) .skip (.exit 0))) (.seq (.block 1 (.seq (.reg 18) (.seq (.seq (.reg 19) (.cond (.tmp 100) (.seq (.reg 20) .ret) .skip)) (.reg 21)))) (.reg 22)))))) (.seq (.reg 23) (.seq (.seq (.reg 24) (.cond (.tmp 113) (.seq (.reg 25) .ret) .skip)) (.seq (.seq (.reg 26) (.cond (.tmp 132) (.seq (.reg 27) .ret) .skip)) (.seq (.reg 28) (.seq (.reg 29) .ret)))))))))))))))
def S_wordhoardlaw_ProveComplete_C1 (a0 : AV) (Q : AV → AH → Prop) (H : AH) (v5 : AV) (v7 : AV) (v32 : AV) (v39 : AV) (vs_29 : List AV) (v110 : AV) : AH → Prop :=
  Gd v32 true (fun k_48 => k_48 (vs_29.getD 0 .any)) fun v117 =>
  Pu Try.prog .pick [v32, v117, (.p (.bool false))] fun v118 =>
  Gd v118 true (fun k_51 => k_51 v110) fun v120 =>
  Gd v118 true (fun k_53 => Pu Try.prog (.un .not) [v120] k_53) fun v121 =>
  Pu Try.prog .pick [v118, v121, (.p (.bool false))] fun v122 =>
  Gd v122 false (fun k_56 => k_56 v39) fun v124 =>
  Gd v122 false (fun k_58 => k_58 v124) fun v125 =>
  Gd v125 true (fun k_60 => k_60 (vs_29.getD 0 .any)) fun v126 =>
  Gd v125 true (fun k_62 => Pu Try.prog (.un .not) [v126] k_62) fun v127 =>
  Gd v125 true (fun k_64 => k_64 v127) fun v128 =>
  Gd v128 false (fun k_66 => k_66 v110) fun v129 =>
  Gd v125 true (fun k_68 => Pu Try.prog .pick [v128, (.p (.bool true)), v129] k_68) fun v130 =>
  Gd v122 false (fun k_70 => Pu Try.prog .pick [v125, v130, (.p (.bool false))] k_70) fun v131 =>
  Pu Try.prog .pick [v122, (.p (.bool true)), v131] fun v132 =>
  CdA v132
    (
    Rt Try.prog H.nx (.p (.bool false)) Q
    ) (
    Rg 15 fun b_72 =>
    Vw fun V =>
    Al (b_72 + 0) (.bs 24 3 0 [.p (.bool false), .p (.int .i64 0), .p (.int .i64 0)] []) [] fun v134 =>
    WrF V (some (b_72 + 0)) none (b_72 + 2) (.app 24 3 24) [v134, a0] fun v136 =>
    Rd Try.prog V (.ld 3 true) [v7] fun v137 =>
    Al (b_72 + 4) (.bs 24 3 1 [.p (.bool false), .p (.int .i64 0), .p (.int .i64 0)] [(0, 3)]) [v137] fun v138 =>
    WrF V (some (b_72 + 2)) (some (b_72 + 4)) (b_72 + 5) (.app 24 3 24) [v136, v138] fun v139 =>
    Rd Try.prog V (.ld 3 true) [v5] fun v140 =>
    CaN Try.prog V [(b_72 + 5)] (.fn (.func 16) [] []) [v139, v140] fun v141 =>
    Pu Try.prog (.ext 0) [v141] fun _ =>
    Pu Try.prog (.ext 1) [v141] fun v143 =>
    Pu Try.prog (.ext 2) [v141] fun v144 =>
    Pu Try.prog (.bin .neq 25) [v144, (.p (.int .i64 0))] fun v146 =>
    Gd v146 false (fun k_86 => k_86 v143) fun v148 =>
    Pu Try.prog .pick [v146, (.p (.bool true)), v148] fun v149 =>
    Gd v149 false (fun k_89 => k_89 v32) fun v151 =>
    Gd v149 false (fun k_91 => Pu Try.prog (.un .not) [v151] k_91) fun v152 =>
    Pu Try.prog .pick [v149, (.p (.bool true)), v152] fun v153 =>
    Rt Try.prog H.nx v153 Q
    )
def S_wordhoardlaw_ProveComplete_L2 (a0 : AV) (Q : AV → AH → Prop) (H : AH) (v5 : AV) (v7 : AV) (v32 : AV) (v39 : AV) (vs : List AV) (vs_29 : List AV) (k_28 : List AV → AH → Prop) : AH → Prop :=
  Pu Try.prog .len [a0] fun v86 =>
  Pu Try.prog (.bin .lss 3) [(vs_29.getD 1 .any), v86] fun v87 =>
  CdA v87
    (
    Pu Try.prog (.idx 3) [a0, (vs_29.getD 1 .any)] fun v94 =>
    RdS Try.prog (.ld 3 true) [v94] fun v95 =>
    Ca Try.prog (.fn (.func 7) [] []) [(vs.getD 0 .any), v95] fun v96 =>
    Pu Try.prog (.ext 0) [v96] fun v97 =>
    Pu Try.prog (.ext 1) [v96] fun v98 =>
    Pu Try.prog (.bin .neq 25) [v98, (.p (.int .i64 0))] fun v100 =>
    CdA v100
      (
      Rt Try.prog H.nx v32 Q
      ) (
      Gd (vs_29.getD 0 .any) true (fun k_39 => k_39 v97) fun v104 =>
      Pu Try.prog .pick [(vs_29.getD 0 .any), v104, (.p (.bool false))] fun v105 =>
      Pu Try.prog (.bin .add 3) [(vs_29.getD 1 .any), (.p (.int .i64 1))] fun v89 =>
      k_28 [v105, v89]
      )
    ) (
    RdS Try.prog (.ld 3 true) [v5] fun v108 =>
    Ca Try.prog (.fn (.func 7) [] []) [(vs.getD 0 .any), v108] fun v109 =>
    Pu Try.prog (.ext 0) [v109] fun v110 =>
    Pu Try.prog (.ext 1) [v109] fun v111 =>
    Pu Try.prog (.bin .neq 25) [v111, (.p (.int .i64 0))] fun v113 =>
    CdA v113
      (
      Rt Try.prog H.nx v32 Q
      ) (S_wordhoardlaw_ProveComplete_C1 a0 Q H v5 v7 v32 v39 vs_29 v110)
    )
def S_wordhoardlaw_ProveComplete_K3 (a0 : AV) (Q : AV → AH → Prop) (H : AH) (v5 : AV) (v7 : AV) (v32 : AV) (v39 : AV) (vs : List AV) : AH → Prop :=
  LoopA Try.prog 2 (S_wordhoardlaw_ProveComplete_L2 a0 Q H v5 v7 v32 v39 vs) [(.p (.bool true)), (.p (.int .i64 0))]
def S_wordhoardlaw_ProveComplete_C4 (a0 : AV) (a2 : AV) (Q : AV → AH → Prop) (H : AH) (v5 : AV) (v31 : AV) (k_26 : List AV → AH → Prop) : AH → Prop :=
  Ca Try.prog (.fn (.func 13) [] []) [a0, v31] fun v58 =>
  Pu Try.prog (.ext 0) [v58] fun v59 =>
  Pu Try.prog (.ext 1) [v58] fun v60 =>
  Vw fun V_96 =>
  Pu Try.prog (.bin .neq 25) [v60, (.p (.int .i64 0))] fun v62 =>
  GdV v62 false (fun k_99 => k_99 v59 V_96) V_96 fun v64 V_100 =>
  GdV v62 false (fun k_102 => Pu Try.prog (.un .not) [v64] (fun a => k_102 a V_100)) V_100 fun v65 V_103 =>
  Pu Try.prog .pick [v62, (.p (.bool true)), v65] fun v66 =>
  GdV v66 false (fun k_106 => k_106 v31 V_103) V_103 fun v68 V_107 =>
  GdV v66 false (fun k_109 => Pu Try.prog .len [v68] (fun a => k_109 a V_107)) V_107 fun v69 V_110 =>
  GdV v66 false (fun k_112 => Pu Try.prog (.bin .eql 3) [v69, (.p (.int .i64 0))] (fun a => k_112 a V_110)) V_110 fun v70 V_113 =>
  Pu Try.prog .pick [v66, (.p (.bool true)), v70] fun v71 =>
  GdV v71 false (fun k_116 => k_116 v31 V_113) V_113 fun v73 V_117 =>
  GdV v71 false (fun k_119 => k_119 v31 V_117) V_117 fun v74 V_120 =>
  GdV v71 false (fun k_122 => Pu Try.prog .len [v74] (fun a => k_122 a V_120)) V_120 fun v75 V_123 =>
  GdV v71 false (fun k_125 => Pu Try.prog (.bin .sub 3) [v75, (.p (.int .i64 1))] (fun a => k_125 a V_123)) V_123 fun v76 V_126 =>
  GdV v71 false (fun k_128 => Pu Try.prog (.idx 5) [v73, v76] (fun a => k_128 a V_126)) V_126 fun v77 V_129 =>
  GdV v71 false (fun k_131 => Pu Try.prog (.addOff 1) [v77] (fun a => k_131 a V_129)) V_129 fun v78 V_132 =>
  GdV v71 false (fun k_134 => Rd Try.prog V_132 (.ld 3 true) [v78] (fun a => k_134 a V_132)) V_132 fun v79 V_135 =>
  GdV v71 false (fun k_137 => Rd Try.prog V_135 (.ld 3 true) [v5] (fun a => k_137 a V_135)) V_135 fun v80 V_138 =>
  GdV v71 false (fun k_140 => Pu Try.prog (.bin .neq 24) [v79, v80] (fun a => k_140 a V_138)) V_138 fun v81 _ =>
  Pu Try.prog .pick [v71, (.p (.bool true)), v81] fun v82 =>
  CdA v82
    (
    Rt Try.prog H.nx (.p (.bool false)) Q
    ) (
    k_26 [a2]
    )
def S_wordhoardlaw_ProveComplete_C5 (a0 : AV) (a2 : AV) (Q : AV → AH → Prop) (H : AH) (v5 : AV) (v7 : AV) : AH → Prop :=
  RdS Try.prog (.ld 3 true) [v5] fun v29 =>
  Ca Try.prog (.fn (.func 16) [] []) [a0, v29] fun v30 =>
  Pu Try.prog (.ext 0) [v30] fun v31 =>
  Pu Try.prog (.ext 1) [v30] fun v32 =>
  Pu Try.prog (.ext 2) [v30] fun v33 =>
  RdS Try.prog (.ld 3 true) [v5] fun v36 =>
  Ca Try.prog (.fn (.func 17) [] []) [a0, v36] fun v37 =>
  Pu Try.prog (.ext 0) [v37] fun v38 =>
  Pu Try.prog (.ext 1) [v37] fun v39 =>
  Pu Try.prog (.ext 2) [v37] fun v40 =>
  Pu Try.prog (.bin .neq 25) [v33, (.p (.int .i64 0))] fun v42 =>
  CdA v42
    (
    Pu Try.prog (.bin .eql 25) [v40, v33] fun v45 =>
    Rt Try.prog H.nx v45 Q
    ) (
    Pu Try.prog (.bin .neq 25) [v40, (.p (.int .i64 0))] fun v47 =>
    Gd v47 false (fun k => k v32) fun v49 =>
    Gd v47 false (fun k_22 => k_22 v39) fun v50 =>
    Gd v47 false (fun k_24 => Pu Try.prog (.bin .eql 4) [v49, v50] k_24) fun v51 =>
    Pu Try.prog .pick [v47, (.p (.bool true)), v51] fun v52 =>
    CdA v52
      (
      Rt Try.prog H.nx (.p (.bool false)) Q
      ) (
      CutA Try.prog 1 (fun k_26 =>
        CdA v32
          (S_wordhoardlaw_ProveComplete_C4 a0 a2 Q H v5 v31 k_26) (
          k_26 [v38]
          )
        ) (S_wordhoardlaw_ProveComplete_K3 a0 Q H v5 v7 v32 v39)
      )
    )
def S_wordhoardlaw_ProveComplete (a0 a1 a2 a3 : AV) (Q : AV → AH → Prop) (H : AH) : Prop := (
    Rg 3 fun b =>
    Al (b + 0) (.bx 24) [a1] fun v5 =>
    Al (b + 1) (.bx 24) [a3] fun v7 =>
    Ca Try.prog (.fn (.func 10) [] []) [] fun v25 =>
    Pu Try.prog (.un .not) [v25] fun v26 =>
    CdA v26
      (
      Rt Try.prog H.nx (.p (.bool false)) Q
      ) (S_wordhoardlaw_ProveComplete_C5 a0 a2 Q H v5 v7)
    ) H
theorem eq_wordhoardlaw_ProveComplete (a0 a1 a2 a3 : AV) (Q : AV → AH → Prop) (H : AH) : FnA Try.prog 154 (regsF Try.f6) ac_wordhoardlaw_ProveComplete [.tm 8] [a0, a1, a2, a3] H Q = S_wordhoardlaw_ProveComplete a0 a1 a2 a3 Q H := by kernel_rfl
theorem tri_wordhoardlaw_ProveComplete {a0 a1 a2 a3 : AV} {H : AH} {Q : AV → AH → Prop} (h : S_wordhoardlaw_ProveComplete a0 a1 a2 a3 Q H) : Tri Try.prog 6 [a0, a1, a2, a3] H Q :=
  tri_of (Ms := [#[], #[], #[], #[], #[], #[], #[], #[], #[], #[], #[], #[], #[0, 1, 3, 7, 15, 31, 63, 127, 255, 511, 1023, 2047, 4095, 4095, 12287, 28671, 65535, 131071, 262143, 4095, 1048575, 2097151], #[], #[], #[], #[], #[], #[], #[], #[], #[], #[], #[], #[], #[], #[], #[], #[0, 0, 3, 0, 8, 31, 0, 127, 255, 511, 511, 511, 1023, 6143, 16383], #[]]) mixed Try.func6 rfl (by kernel_rfl) (by kernel_rfl) rfl (of_decide_eq_true rfl : 4 ≤ 154) ((eq_wordhoardlaw_ProveComplete a0 a1 a2 a3 Q H).symm ▸ h : FnA Try.prog 154 (regsF Try.f6) ac_wordhoardlaw_ProveComplete [.tm 8] [a0, a1, a2, a3] H Q)
end Go.Proofs.Ytcmnjoepadjioaa
