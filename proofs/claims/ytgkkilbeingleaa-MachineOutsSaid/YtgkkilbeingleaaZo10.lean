/- Texts that the proof rests on, part 10: what each holds stands at its head. -/
import Derived.Test.YtgkkilbeingleaaZo9

/- Machines: what they are, what is wrong with one; Check. -/
namespace Go.Proofs.Ytgkkilbeingleaa
open Go.RowKit Go.Maps
def iv (i : Int) : AV := .p (.int .i64 i)
def bv (b : Bool) : AV := .p (.bool b)
structure Arc where
  fr : Int
  to : Int
  inn : Int
  out : Int
  w : Int
structure Fin_ where
  st : Int
  w : Int
structure Mac where
  states : Int
  arcs : List Arc
  fins : List Fin_
def Arc.cs (a : Arc) : List AV := [iv a.fr, iv a.to, iv a.inn, iv a.out, iv a.w]
def Fin_.cs (f : Fin_) : List AV := [iv f.st, iv f.w]
def Mac.cs (m : Mac) : List AV := [iv m.states, .dsl 5 (m.arcs.map Arc.cs), .dsl 2 (m.fins.map Fin_.cs)]
def Mac.av (m : Mac) : AV := .agg m.cs
def okS (m : Mac) (s : Int) : Bool := decide (0 ≤ s) && decide (s < m.states)
def okY (s : Int) : Bool := decide (0 ≤ s) && decide (s ≤ 60)
def okC (s : Int) : Bool := decide (0 ≤ s) && decide (s ≤ 1000000)
def arcOk (m : Mac) (a : Arc) : Bool := okS m a.fr && (okS m a.to && (okY a.inn && (okY a.out && okC a.w)))
def finOk (m : Mac) (f : Fin_) : Bool := okS m f.st && okC f.w
open Classical in
noncomputable def Mac.chk (m : Mac) : Int := if m.states < 1 ∨ 3000 < m.states ∨ 20000 < (m.arcs.length : Int) ∨ m.states < (m.fins.length : Int) then 7 else if m.arcs.all (arcOk m) = false ∨ m.fins.all (finOk m) = false then 3 else if (m.fins.map Fin_.st).Nodup then 0 else 6
/-- how often each state is final -/
def cnt (l : List Fin_) (x : Int) : Nat := (l.filter fun f => decide (f.st = x)).length
def cntF (l : List Fin_) : Value → Option AV
  | .int .i64 x => if cnt l x = 0 then none else some (iv (cnt l x))
  | _ => none
theorem cnt_app (l : List Fin_) (f : Fin_) (x : Int) : cnt (l ++ [f]) x = cnt l x + if f.st = x then 1 else 0 := by
  unfold cnt
  rw [List.filter_append, List.length_append]
  by_cases h : f.st = x <;> simp [h]
theorem cnt_le (l : List Fin_) (x : Int) : cnt l x ≤ l.length := by unfold cnt; exact List.length_filter_le _ _
theorem cntF_put (l : List Fin_) (f : Fin_) : putA (cntF l) (.int .i64 f.st) (iv ((cnt l f.st + 1 : Nat) : Int)) = cntF (l ++ [f]) := by
  funext v
  unfold putA
  by_cases h : v = .int .i64 f.st
  · rw [if_pos h]; subst h
    simp only [cntF]
    rw [cnt_app, if_pos rfl, if_neg (by omega)]
  · rw [if_neg h]
    cases v with
    | int k x =>
      cases k with
      | i64 =>
        have hx : f.st ≠ x := fun e => h (by rw [e])
        simp only [cntF]
        rw [cnt_app, if_neg hx, Nat.add_zero]
      | _ => rfl
    | _ => rfl
theorem cnt_two {l : List Fin_} : (l.map Fin_.st).Nodup ↔ ∀ x, cnt l x ≤ 1 := by
  induction l with
  | nil => simp [cnt]
  | cons f r ih =>
    rw [List.map_cons, List.nodup_cons, ih]
    have hc : ∀ x, cnt (f :: r) x = (if f.st = x then 1 else 0) + cnt r x := fun x => by
      unfold cnt
      by_cases h : f.st = x <;> simp [h, List.filter_cons]; omega
    have h0 : cnt r f.st = 0 ↔ f.st ∉ r.map Fin_.st := by
      unfold cnt
      rw [List.length_eq_zero_iff, List.filter_eq_nil_iff]
      constructor
      · intro h hm
        obtain ⟨g, hg, e⟩ := List.mem_map.1 hm
        exact h g hg (by simp [e])
      · intro h g hg e
        exact h (List.mem_map.2 ⟨g, hg, by simpa using e⟩)
    constructor
    · rintro ⟨h1, h2⟩ x
      rw [hc]
      by_cases e : f.st = x
      · rw [if_pos e, ← e, h0.2 h1]; omega
      · rw [if_neg e]; have := h2 x; omega
    · intro h
      refine ⟨h0.1 ?_, fun x => ?_⟩
      · have := h f.st; rw [hc, if_pos rfl] at this; omega
      · have := h x; rw [hc] at this; omega
theorem lawInt : Keyed Try.prog 3 := int_keyed Try.underlying3
theorem keyInt {i : Int} (h : I64 i) : (keyOf Try.prog 3 (.int .i64 i)).isSome = true := keyOf_int Try.underlying3 h
theorem c_is (m : Mac) (s : Int) {H : AH} {b : Nat} (hb : H.get b = some (.box 25 m.cs)) : Tri Try.prog 32 [iv s, .ptr b 0] H (fun r H' => H' = H ∧ r = bv (okS m s)) := tri_wf fun hw => tri_machine_Check_fn1 (by
  unfold S_machine_Check_fn1
  unfold Mac.cs at hb
  by_cases h0 : 0 ≤ s
  · simp (disch := first | omega | simp) [iv, h0, hb]
    exact rt_refl ⟨rfl, by simp [okS, h0, bv]⟩ (Nat.le_refl _)
  · simp (disch := first | omega | simp) [iv, h0, hb]
    exact rt_refl ⟨rfl, by simp [okS, h0, bv]⟩ (Nat.le_refl _))
theorem c_symbol (s : Int) : PF Try.prog 33 [iv s] (bv (okY s)) := fun H => tri_machine_Check_fn2 (by
  unfold S_machine_Check_fn2
  by_cases h0 : 0 ≤ s
  · simp (disch := first | omega | simp) [iv, h0]
    exact rt_refl ⟨rfl, by simp [okY, h0, bv]⟩ (Nat.le_refl _)
  · simp (disch := first | omega | simp) [iv, h0]
    exact rt_refl ⟨rfl, by simp [okY, h0, bv]⟩ (Nat.le_refl _))
theorem c_costOk (s : Int) : PF Try.prog 34 [iv s] (bv (okC s)) := fun H => tri_machine_Check_fn3 (by
  unfold S_machine_Check_fn3
  by_cases h0 : 0 ≤ s
  · simp (disch := first | omega | simp) [iv, h0]
    exact rt_refl ⟨rfl, by simp [okC, h0, bv]⟩ (Nat.le_refl _)
  · simp (disch := first | omega | simp) [iv, h0]
    exact rt_refl ⟨rfl, by simp [okC, h0, bv]⟩ (Nat.le_refl _))
theorem all_at {α : Type} {p : α → Bool} {l : List α} {i : Nat} {x : α} (h : l[i]? = some x) : (l.drop i).all p = (p x && (l.drop (i + 1)).all p) := by
  obtain ⟨h1, h2⟩ := List.getElem?_eq_some_iff.1 h
  rw [List.drop_eq_getElem_cons h1, List.all_cons, h2]
theorem chk7 {m : Mac} (h : m.states < 1 ∨ 3000 < m.states ∨ 20000 < (m.arcs.length : Int) ∨ m.states < (m.fins.length : Int)) : m.chk = 7 := by unfold Mac.chk; rw [if_pos h]
theorem chk3 {m : Mac} (h : ¬ (m.states < 1 ∨ 3000 < m.states ∨ 20000 < (m.arcs.length : Int) ∨ m.states < (m.fins.length : Int))) (h2 : m.arcs.all (arcOk m) = false ∨ m.fins.all (finOk m) = false) : m.chk = 3 := by unfold Mac.chk; rw [if_neg h, if_pos h2]
theorem chk6 {m : Mac} (h : ¬ (m.states < 1 ∨ 3000 < m.states ∨ 20000 < (m.arcs.length : Int) ∨ m.states < (m.fins.length : Int))) (h2 : m.arcs.all (arcOk m) = true) (h3 : m.fins.all (finOk m) = true) (h4 : ¬ (m.fins.map Fin_.st).Nodup) : m.chk = 6 := by unfold Mac.chk; rw [if_neg h, if_neg (by simp [h2, h3]), if_neg h4]
theorem chk0 {m : Mac} (h : ¬ (m.states < 1 ∨ 3000 < m.states ∨ 20000 < (m.arcs.length : Int) ∨ m.states < (m.fins.length : Int))) (h2 : m.arcs.all (arcOk m) = true) (h3 : m.fins.all (finOk m) = true) (h4 : (m.fins.map Fin_.st).Nodup) : m.chk = 0 := by unfold Mac.chk; rw [if_neg h, if_neg (by simp [h2, h3]), if_pos h4]
set_option maxHeartbeats 1000000 in
theorem c_Check (m : Mac) : PF Try.prog 8 [m.av] (iv m.chk) := fun H => tri_wf fun hw => tri_machine_Check (by
  have hml : maxLen = 9223372036854775807 := by decide
  unfold S_machine_Check Mac.av
  simp (disch := first | omega | simp) [put_get_ne]
  generalize hM : AH.put _ _ _ = M
  have hMl : H.le M := by rw [← hM]; exact (by repeat (first | with_reducible assumption | with_reducible exact AH.le.refl _ | with_reducible apply AH.le.up | (with_reducible refine AH.le.put hw ?_ ?_; · first | omega | (simp only [up_nx, put_nx, kill_nx]; done) | (simp only [up_nx, put_nx, kill_nx]; omega)) | (with_reducible refine AH.le.kill hw ?_ ?_; · first | omega | (simp only [up_nx, put_nx, kill_nx]; done) | (simp only [up_nx, put_nx, kill_nx]; omega))))
  have hMn : M.nx = H.nx + 2 := by rw [← hM]; rfl
  have hMg : M.get H.nx = some (.box 25 m.cs) := by rw [← hM]; simp (disch := first | omega | simp) [put_get_ne]
  have hwM : WF M := by rw [← hM]; exact (hw.up 2).box (by simp only [up_nx]; omega) (by unfold Mac.cs; exact (by repeat (first | exact Cl.p _ | exact Cl.dsl _ _ | exact Cl.any | refine Cl.tup ?_ | refine Cl.agg ?_ | exact Clo.nil | refine Clo.cons ?_ ?_)))
  clear hM
  have hMg' := hMg
  unfold Mac.cs at hMg' ⊢
  by_cases h1 : m.states < 1
  · simp (disch := first | omega | simp) [iv, h1, hMg']
    exact rt_one hw hMl (by repeat (first | exact Cl.p _ | exact Cl.dsl _ _ | exact Cl.any | refine Cl.tup ?_ | refine Cl.agg ?_ | exact Clo.nil | refine Clo.cons ?_ ?_)) ⟨rfl, by rw [chk7 (.inl h1)]⟩
  by_cases h2 : 3000 < m.states
  · simp (disch := first | omega | simp) [iv, h1, h2, hMg']
    exact rt_one hw hMl (by repeat (first | exact Cl.p _ | exact Cl.dsl _ _ | exact Cl.any | refine Cl.tup ?_ | refine Cl.agg ?_ | exact Clo.nil | refine Clo.cons ?_ ?_)) ⟨rfl, by rw [chk7 (.inr (.inl h2))]⟩
  by_cases h3 : 20000 < (m.arcs.length : Int)
  · simp (disch := first | omega | simp) [iv, h1, h2, h3, hMg']
    exact rt_one hw hMl (by repeat (first | exact Cl.p _ | exact Cl.dsl _ _ | exact Cl.any | refine Cl.tup ?_ | refine Cl.agg ?_ | exact Clo.nil | refine Clo.cons ?_ ?_)) ⟨rfl, by rw [chk7 (.inr (.inr (.inl h3)))]⟩
  by_cases h4 : m.states < (m.fins.length : Int)
  · simp (disch := first | omega | simp) [iv, h1, h2, h3, h4, hMg']
    exact rt_one hw hMl (by repeat (first | exact Cl.p _ | exact Cl.dsl _ _ | exact Cl.any | refine Cl.tup ?_ | refine Cl.agg ?_ | exact Clo.nil | refine Clo.cons ?_ ?_)) ⟨rfl, by rw [chk7 (.inr (.inr (.inr h4)))]⟩
  have hn : ¬ (m.states < 1 ∨ 3000 < m.states ∨ 20000 < (m.arcs.length : Int) ∨ m.states < (m.fins.length : Int)) := by omega
  simp (disch := first | omega | simp) [iv, h1, h2, h3, h4, hMg']
  refine loop_wf (fun i : Nat => [iv i]) (fun i H' => M.le H' ∧ M.nx ≤ H'.nx ∧ i ≤ m.arcs.length ∧ m.arcs.all (arcOk m) = (m.arcs.drop i).all (arcOk m)) (fun i => m.arcs.length - i) 0 (.refl (Nat.le_refl _)) ⟨.refl _, Nat.le_refl _, Nat.zero_le _, by rw [List.drop_zero]⟩ ?_
  rintro i H1 hn1 hw1 ⟨hle, hnx, hi, hc⟩ k hk
  unfold S_machine_Check_L5
  have hg1 := hle _ _ hMg
  have hg1' := hle _ _ hMg'
  have hle2 := hMl.trans hle
  by_cases hil : i < m.arcs.length
  · obtain ⟨x, hx⟩ : ∃ x, m.arcs[i]? = some x := ⟨_, List.getElem?_eq_getElem hil⟩
    have hxg : ∀ h, m.arcs[i]'h = x := fun h => (List.getElem?_eq_some_iff.1 hx).2
    have hiv := ivn (i := i) (by omega)
    rw [all_at hx] at hc
    simp (disch := first | omega | simp) [iv, hil]
    unfold S_machine_Check_C1
    simp (disch := first | omega | simp) [iv, hil, hxg, Arc.cs, put_get_ne]
    have hbad : arcOk m x = false → ∀ M', M.le M' → Rt Try.prog H.nx (.p (.int .i64 3)) (fun r H' => H' = H ∧ r = iv m.chk) M' := fun hb M' hl => rt_one hw (hMl.trans hl) (by repeat (first | exact Cl.p _ | exact Cl.dsl _ _ | exact Cl.any | refine Cl.tup ?_ | refine Cl.agg ?_ | exact Clo.nil | refine Clo.cons ?_ ?_)) ⟨rfl, by rw [chk3 hn (.inl (by rw [hc, hb]; rfl))]; rfl⟩
    have hM4 : ∀ z8, M.le (((H1.up 4).put (H1.nx + 2) z8).put (H1.nx + 2) (.box 53 x.cs)) := fun z8 => AH.le.put hwM (by omega) (AH.le.put hwM (by omega) (AH.le.up hle))
    unfold Arc.cs iv at hM4
    generalize hM4e : AH.put _ _ _ = M4
    have hM4l : M.le M4 := by rw [← hM4e]; exact hM4 _
    have hM4n : M4.nx = H1.nx + 4 := by rw [← hM4e]; rfl
    have hM4x : M4.get (H1.nx + 2) = some (.box 53 [.p (.int .i64 x.fr), .p (.int .i64 x.to), .p (.int .i64 x.inn), .p (.int .i64 x.out), .p (.int .i64 x.w)]) := by rw [← hM4e, put_get]
    have hM4g := hM4l _ _ hMg
    clear hM4e hM4
    refine ca_pure (by kernel_rfl) (c_is m x.fr hM4g) ?_
    cases q1 : okS m x.fr with
    | false =>
      simp (disch := first | omega | simp) [bv]
      exact hbad (by simp [arcOk, q1]) _ hM4l
    | true =>
      simp (disch := first | omega | simp) [bv, hM4x]
      refine ca_pure (by kernel_rfl) (c_is m x.to hM4g) ?_
      cases q2 : okS m x.to with
      | false =>
        simp (disch := first | omega | simp) [bv]
        exact hbad (by simp [arcOk, q2]) _ hM4l
      | true =>
        simp (disch := first | omega | simp) [bv, hM4x]
        refine ca_pure (by kernel_rfl) (c_symbol x.inn _) ?_
        cases q3 : okY x.inn with
        | false =>
          simp (disch := first | omega | simp) [bv]
          exact hbad (by simp [arcOk, q3]) _ hM4l
        | true =>
          simp (disch := first | omega | simp) [bv, hM4x]
          refine ca_pure (by kernel_rfl) (c_symbol x.out _) ?_
          cases q4 : okY x.out with
          | false =>
            simp (disch := first | omega | simp) [bv]
            exact hbad (by simp [arcOk, q4]) _ hM4l
          | true =>
            simp (disch := first | omega | simp) [bv, hM4x]
            refine ca_pure (by kernel_rfl) (c_costOk x.w _) ?_
            cases q5 : okC x.w with
            | false =>
              simp (disch := first | omega | simp) [bv]
              exact hbad (by simp [arcOk, q5]) _ hM4l
            | true =>
              have qa : arcOk m x = true := by simp [arcOk, q1, q2, q3, q4, q5]
              rw [qa, Bool.true_and] at hc
              simp (disch := first | omega | simp) [bv, hiv]
              exact hk (i + 1) _ _ _ (.refl (by omega)) ⟨hM4l, by omega, hil, hc⟩ (by omega)
  · have hall : m.arcs.all (arcOk m) = true := by rw [hc, List.drop_eq_nil_iff.2 (by omega)]; rfl
    have hfr : ∀ j, H1.nx ≤ j → H1.get j = none := fun j hj => wf_none hw1 hj
    simp (disch := first | omega | simp) [iv, hil, hg1', put_get_ne]
    have hz : (fun _ => none) = cntF [] := by
      funext v
      cases v with
      | int kk x => cases kk <;> simp [cntF, cnt]
      | _ => rfl
    rw [hz]
    generalize hM5e : AH.put _ _ _ = M5
    have hM5l : M.le M5 := by rw [← hM5e]; exact AH.le.put hwM (by omega) (AH.le.up hle)
    have hM5n : M5.nx = H1.nx + 2 := by rw [← hM5e]; rfl
    have hM5x : M5.get H1.nx = some (.map 3 0 (cntF [])) := by rw [← hM5e, put_get]
    clear hM5e
    refine loop_wf (fun i : Nat => [iv i]) (fun i H' => M.le H' ∧ M5.nx ≤ H'.nx ∧ i ≤ m.fins.length ∧ m.fins.all (finOk m) = (m.fins.drop i).all (finOk m) ∧ H'.get H1.nx = some (.map 3 i (cntF (m.fins.take i))) ∧ (m.fins.take i).all (finOk m) = true) (fun i => m.fins.length - i) 0 (.refl (Nat.le_refl _)) ⟨hM5l, Nat.le_refl _, Nat.zero_le _, by rw [List.drop_zero], by rw [List.take_zero]; exact hM5x, by rw [List.take_zero]; rfl⟩ ?_
    rintro j H2 hn2 hw2 ⟨fle, fnx, hj, fc, fg, ft⟩ k2 hk2
    unfold S_machine_Check_L4
    have fg1 := fle _ _ hMg
    have fle2 := hMl.trans fle
    by_cases hjl : j < m.fins.length
    · obtain ⟨x, hx⟩ : ∃ x, m.fins[j]? = some x := ⟨_, List.getElem?_eq_getElem hjl⟩
      have hxg : ∀ h, m.fins[j]'h = x := fun h => (List.getElem?_eq_some_iff.1 hx).2
      have hjv := ivn (i := j) (by omega)
      rw [all_at hx] at fc
      simp (disch := first | omega | simp) [iv, hjl]
      unfold S_machine_Check_C2
      simp (disch := first | omega | simp) [iv, hjl, hxg, Fin_.cs, put_get_ne]
      have hbad : finOk m x = false → ∀ M', M.le M' → Rt Try.prog H.nx (.p (.int .i64 3)) (fun r H' => H' = H ∧ r = iv m.chk) M' := fun hb M' hl => rt_one hw (hMl.trans hl) (by repeat (first | exact Cl.p _ | exact Cl.dsl _ _ | exact Cl.any | refine Cl.tup ?_ | refine Cl.agg ?_ | exact Clo.nil | refine Clo.cons ?_ ?_)) ⟨rfl, by rw [chk3 hn (.inr (by rw [fc, hb]; rfl))]; rfl⟩
      generalize hM4e : AH.put _ _ _ = M4
      have hM4l : M.le M4 := by rw [← hM4e]; exact AH.le.put hwM (by omega) (AH.le.put hwM (by omega) (AH.le.up fle))
      have hM4n : M4.nx = H2.nx + 4 := by rw [← hM4e]; rfl
      have hM4x : M4.get (H2.nx + 2) = some (.box 56 [.p (.int .i64 x.st), .p (.int .i64 x.w)]) := by rw [← hM4e, put_get]
      have hM4m : M4.get H1.nx = some (.map 3 j (cntF (m.fins.take j))) := by rw [← hM4e]; simp (disch := first | omega | simp) [put_get_ne, fg]
      have hM4g := hM4l _ _ hMg
      clear hM4e
      refine ca_pure (by kernel_rfl) (c_is m x.st hM4g) ?_
      cases q1 : okS m x.st with
      | false =>
        simp (disch := first | omega | simp) [bv]
        exact hbad (by simp [finOk, q1]) _ hM4l
      | true =>
        simp (disch := first | omega | simp) [bv, hM4x]
        refine ca_pure (by kernel_rfl) (c_costOk x.w _) ?_
        cases q2 : okC x.w with
        | false =>
          simp (disch := first | omega | simp) [bv]
          exact hbad (by simp [finOk, q2]) _ hM4l
        | true =>
          have qa : finOk m x = true := by simp [finOk, q1, q2]
          rw [qa, Bool.true_and] at fc
          have hst : I64 x.st := by simp only [okS, Bool.and_eq_true, decide_eq_true_eq] at q1; unfold I64; omega
          have hcl := cnt_le (m.fins.take j) x.st
          rw [List.length_take] at hcl
          have hval : ∀ z : AV, (z = .p (.int .i64 0)) → ((cntF (m.fins.take j) (.int .i64 x.st)).getD z) = .p (.int .i64 (cnt (m.fins.take j) x.st : Int)) := fun z hz => by
            subst hz; simp only [cntF]; by_cases h0 : cnt (m.fins.take j) x.st = 0 <;> simp [h0, iv]
          have hcv : IntKind.i64.wrap ((cnt (m.fins.take j) x.st : Int) + 1) = ((cnt (m.fins.take j) x.st + 1 : Nat) : Int) := wrapI (by omega) (by omega)
          have hput := cntF_put (m.fins.take j) x
          unfold iv at hput
          simp (disch := first | omega | simp) [bv, hM4x, hM4m, put_get_ne, lawInt, keyInt hst, hval, hcv, hjv]
          have hrest : ∀ c : Nat, c = cnt (m.fins.take j) x.st → ∀ M6, M6 = ((M4.up 6).put H1.nx (.map 3 (j + 1) (putA (cntF (m.fins.take j)) (.int .i64 x.st) (.p (.int .i64 ((c + 1 : Nat) : Int)))))) → k2 [iv ((j + 1 : Nat) : Int)] M6 := fun c hc0 M6 e6 => by
            subst e6
            rw [hc0, hput]
            refine hk2 (j + 1) _ _ _ (.refl (by simp only [put_nx, up_nx]; omega)) ⟨AH.le.put hwM (by omega) (AH.le.up hM4l), by simp only [put_nx, up_nx]; omega, hjl, fc, ?_, ?_⟩ (by omega)
            · rw [put_get, List.take_add_one, hx]; rfl
            · rw [List.take_add_one, hx, Option.toList_some, List.all_append, ft, List.all_cons, List.all_nil, qa]; rfl
          by_cases h0 : cnt (m.fins.take j) x.st = 0
          · have hcf : cntF (m.fins.take j) (.int .i64 x.st) = none := by simp [cntF, h0]
            simp (disch := first | omega | simp) [hcf, hM4m, put_get_ne, lawInt, keyInt hst, hjv]
            refine ⟨by omega, ?_⟩
            exact hrest 0 h0.symm _ rfl
          · have hcf : cntF (m.fins.take j) (.int .i64 x.st) = some (iv (cnt (m.fins.take j) x.st)) := by simp [cntF, h0]
            simp (disch := first | omega | simp) [hcf, hM4m, put_get_ne, lawInt, keyInt hst, hjv, iv, hcv]
            refine ⟨by omega, ?_⟩
            exact hrest _ rfl _ rfl
    · have hfall : m.fins.all (finOk m) = true := by rw [fc, List.drop_eq_nil_iff.2 (by omega)]; rfl
      have hje : m.fins.take j = m.fins := List.take_of_length_le (by omega)
      rw [hje] at fg
      have hkeyF : ∀ v, (cntF m.fins v).isSome = true → ∃ x, v = .int .i64 x ∧ cnt m.fins x ≠ 0 := fun v hv => by
        cases v with
        | int kk x =>
          cases kk with
          | i64 =>
            refine ⟨x, rfl, fun h => ?_⟩
            simp [cntF, h] at hv
          | _ => cases hv
        | _ => cases hv
      simp (disch := first | omega | simp) [iv, hjl]
      refine nd_rng (n := j) (f := cntF m.fins) (by simp [fg, mapOf]) lawInt fun st c => ?_
      generalize hM6e : AH.put _ _ _ = M6
      have hM6l : M.le M6 := by rw [← hM6e]; exact AH.le.put hwM (by omega) (AH.le.put hwM (by omega) (AH.le.up fle))
      have hM6n : M6.nx = H2.nx + 2 := by rw [← hM6e]; rfl
      have hM6m : M6.get H1.nx = some (.smap 3 j (cntF m.fins) st c) := by rw [← hM6e]; simp (disch := first | omega | simp) [put_get_ne]
      have hM6i : M6.get (H2.nx + 1) = some (.miter H1.nx st c []) := by rw [← hM6e, put_get]
      clear hM6e
      refine loop_wf (fun _ : List Value => []) (fun vis H' => M.le H' ∧ M6.nx ≤ H'.nx ∧ H'.get H1.nx = some (.smap 3 j (cntF m.fins) st c) ∧ H'.get (H2.nx + 1) = some (.miter H1.nx st c vis) ∧ vis.Nodup ∧ vis.length ≤ j ∧ (∀ v ∈ vis, (cntF m.fins v).isSome = true ∧ (keyOf Try.prog 3 v).isSome = true ∧ ∃ x, v = .int .i64 x ∧ cnt m.fins x ≤ 1)) (fun vis => j - vis.length) [] (.refl (Nat.le_refl _)) ⟨hM6l, Nat.le_refl _, hM6m, hM6i, List.nodup_nil, Nat.zero_le _, fun v h => by cases h⟩ ?_
      rintro vis H3 hn3 hw3 ⟨g1, g2, g3, g4, g5, g6, g7⟩ k3 hk3
      unfold S_machine_Check_L3
      simp (disch := first | omega | simp) []
      refine nd_nxt (by exact g4) (by exact g3) lawInt (fun v hv => ⟨(g7 v hv).1, (g7 v hv).2.1⟩) g5 (fun hall2 => ?_) (fun v a hk1 hfv hnv hlt => ?_)
      · simp (disch := first | omega | simp) []
        have hnd : (m.fins.map Fin_.st).Nodup := cnt_two.2 fun x => by
          rcases Nat.lt_or_ge (cnt m.fins x) 2 with h | h
          · omega
          · have hsx : (cntF m.fins (.int .i64 x)).isSome = true := by simp [cntF]; omega
            have hix : I64 x := by
              have : 0 < cnt m.fins x := by omega
              unfold cnt at this
              obtain ⟨f, hf⟩ := List.length_pos_iff_exists_mem.1 this
              rw [List.mem_filter] at hf
              have h5 := List.all_eq_true.1 hfall f hf.1
              simp only [finOk, okS, Bool.and_eq_true, decide_eq_true_eq] at h5
              have h6 : f.st = x := by simpa using hf.2
              unfold I64; omega
            obtain ⟨y, e, hy⟩ := (g7 _ (hall2 _ (keyInt hix) hsx)).2.2
            injection e with _ e; rw [e]; exact hy
        exact rt_one hw (hMl.trans g1) (by repeat (first | exact Cl.p _ | exact Cl.dsl _ _ | exact Cl.any | refine Cl.tup ?_ | refine Cl.agg ?_ | exact Clo.nil | refine Clo.cons ?_ ?_)) ⟨rfl, by rw [chk0 hn hall hfall hnd]⟩
      · obtain ⟨x, rfl, hx0⟩ := hkeyF v (by rw [hfv]; rfl)
        have ha : a = iv (cnt m.fins x) := by simp only [cntF, if_neg hx0, Option.some.injEq] at hfv; exact hfv.symm
        subst ha
        have hne1 : H1.nx ≠ H2.nx + 1 := by omega
        simp (disch := first | omega | simp) [put_get_ne]
        refine nd_ent (x := .int .i64 x) (v := iv (cnt m.fins x)) (by rw [up_get, put_get]) (by rw [up_get, AH.get_put_ne hne1]; exact g3) lawInt hfv hk1 ?_
        have hH4 : M.le (((H3.up 2).put (H2.nx + 1) (.miter H1.nx st c (vis ++ [.int .i64 x]))).up 3) := AH.le.up (AH.le.put hwM (by omega) (AH.le.up g1))
        by_cases h2 : cnt m.fins x ≤ 1
        · have h2' : ¬ (1 : Int) < (cnt m.fins x : Int) := by omega
          simp (disch := first | omega | simp) [iv, h2']
          refine hk3 (vis ++ [.int .i64 x]) _ _ _ (.refl (by simp only [put_nx, up_nx]; omega)) ⟨hH4, by simp only [put_nx, up_nx]; omega, by rw [up_get, AH.get_put_ne hne1]; exact g3, by rw [up_get, put_get], ?_, by rw [List.length_append]; simp only [List.length_singleton]; omega, fun v hv => ?_⟩ (by rw [List.length_append]; simp only [List.length_singleton]; omega)
          · exact List.nodup_append.2 ⟨g5, by simp, fun a ha b hb => by simp at hb; subst hb; exact fun e => hnv (e ▸ ha)⟩
          · rcases List.mem_append.1 hv with hv | hv
            · exact g7 v hv
            · simp at hv; subst hv
              exact ⟨by rw [hfv]; rfl, hk1, x, rfl, h2⟩
        · have h2' : (1 : Int) < (cnt m.fins x : Int) := by omega
          simp (disch := first | omega | simp) [iv, h2']
          exact rt_one hw (hMl.trans hH4) (by repeat (first | exact Cl.p _ | exact Cl.dsl _ _ | exact Cl.any | refine Cl.tup ?_ | refine Cl.agg ?_ | exact Clo.nil | refine Clo.cons ?_ ?_)) ⟨rfl, by rw [chk6 hn hall hfall (fun h => h2 (cnt_two.1 h x))]⟩)
end Go.Proofs.Ytgkkilbeingleaa

/- The maker of machines: arc, final, lay, done. -/
namespace Go.Proofs.Ytgkkilbeingleaa
open Go.RowKit Go.Maps
theorem dt_arcs (l : List Arc) : DtR (l.map Arc.cs) := by
  intro e he a ha
  obtain ⟨c, _, rfl⟩ := List.mem_map.1 he
  simp only [Arc.cs, iv, List.mem_cons, List.not_mem_nil, or_false] at ha
  rcases ha with rfl | rfl | rfl | rfl | rfl <;> exact Dt.p _
theorem dt_fins (l : List Fin_) : DtR (l.map Fin_.cs) := by
  intro e he a ha
  obtain ⟨c, _, rfl⟩ := List.mem_map.1 he
  simp only [Fin_.cs, iv, List.mem_cons, List.not_mem_nil, or_false] at ha
  rcases ha with rfl | rfl <;> exact Dt.p _
theorem grows_at {t sz j n : Nat} {v : AV} {es : List (List AV)} {H0 H1 : AH} (h : Grows t sz H0 H1 v es) (hj : v = .osl j sz 0 n) : H0.nx ≤ j ∧ j < H1.nx ∧ ∃ xs, H1.get j = some (.row t sz xs) := by
  rcases h with ⟨h1, _⟩ | ⟨r, xs, h1, h2, h3, h4, _⟩
  · rw [h1] at hj; cases hj
  · rw [h1] at hj; injection hj with hj; subst hj; exact ⟨h2, h3, xs, h4⟩
/-- all but the maker and rows of arcs and ends is as it was -/
def Kb (X : Nat) (H H' : AH) : Prop := H.nx ≤ H'.nx ∧ ∀ j o, j ≠ X → H.get j = some o → (∀ es, o ≠ .row 53 5 es) → (∀ es, o ≠ .row 56 2 es) → H'.get j = some o
theorem Kb.refl (X : Nat) (H : AH) : Kb X H H := ⟨Nat.le_refl _, fun _ _ _ h _ _ => h⟩
theorem Kb.trans {X : Nat} {H H1 H2 : AH} (h : Kb X H H1) (k : Kb X H1 H2) : Kb X H H2 := ⟨Nat.le_trans h.1 k.1, fun j o hj ho h1 h2 => k.2 j o hj (h.2 j o hj ho h1 h2) h1 h2⟩
theorem Kb.box {X : Nat} {H H' : AH} (h : Kb X H H') {j : Nat} {t : Nat} {cs : List AV} (hj : j ≠ X) (hg : H.get j = some (.box t cs)) : H'.get j = some (.box t cs) := h.2 j _ hj hg (fun _ e => by cases e) (fun _ e => by cases e)
structure MkAt (B H : AH) (X : Nat) (m : Mac) (c : Bool) : Prop where
  le : B.le H
  bx : B.nx ≤ X
  hx : X < H.nx
  at_ : ∃ va vf, H.get X = some (.box 71 [iv m.states, va, vf, bv c]) ∧ Grows 53 5 B H va (m.arcs.map Arc.cs) ∧ Grows 56 2 B H vf (m.fins.map Fin_.cs)
theorem MkAt.same {B H H' : AH} {X : Nat} {m : Mac} {c : Bool} (h : MkAt B H X m c) (hw : WF B) (hn : H.nx ≤ H'.nx) (hk : ∀ j, j < H.nx → H'.get j = H.get j) : MkAt B H' X m c := by
  obtain ⟨va, vf, h1, h2, h3⟩ := h.at_
  have hbn : B.nx ≤ H.nx := by have := h.bx; have := h.hx; omega
  refine ⟨fun j o ho => ?_, h.bx, Nat.lt_of_lt_of_le h.hx hn, va, vf, by rw [hk X h.hx]; exact h1, h2.same hn fun j hj _ => hk j hj, h3.same hn fun j hj _ => hk j hj⟩
  have hj : j < B.nx := (hw _ _ ho).1
  rw [hk j (by omega)]; exact h.le _ _ ho
def Mac.arc (m : Mac) (a : Arc) : Mac := { m with arcs := m.arcs ++ [a] }
def Mac.fin (m : Mac) (f : Fin_) : Mac := { m with fins := m.fins ++ [f] }
def Arc.shift (s : Int) (a : Arc) : Arc := ⟨s + a.fr, s + a.to, a.inn, a.out, a.w⟩
def Mac.lay (m n : Mac) : Mac := { m with states := m.states + n.states, arcs := m.arcs ++ n.arcs.map (Arc.shift m.states) }
end Go.Proofs.Ytgkkilbeingleaa

/- Walks of machines, and the least cost by rounds of lowering. Plain. -/
namespace Go.Proofs.Ytgkkilbeingleaa
def dear : Int := 1152921504606846976
def sy (x : Int) : List Int := if 0 < x then [x] else []
def so (told : Bool) (x : Int) : List Int := if told = true then sy x else []
/-- a walk that reads and writes just these -/
inductive Wk (m : Mac) (told : Bool) (p : Int) : List Int → List Int → Int → Int → Prop
  | nil : Wk m told p [] [] p 0
  | snoc {I O : List Int} {c : Int} {a : Arc} : Wk m told p I O a.fr c → a ∈ m.arcs → Wk m told p (I ++ sy a.inn) (O ++ so told a.out) a.to (c + a.w)
theorem Wk.append {m : Mac} {told : Bool} {p q r : Int} {I O I' O' : List Int} {c d : Int} (h : Wk m told p I O q c) (k : Wk m told q I' O' r d) : Wk m told p (I ++ I') (O ++ O') r (c + d) := by
  induction k with
  | nil => simpa using h
  | snoc _ ha ih =>
    have := ih.snoc ha
    rw [List.append_assoc, List.append_assoc, Int.add_assoc] at this
    exact this
theorem Wk.one {m : Mac} {told : Bool} {a : Arc} (ha : a ∈ m.arcs) : Wk m told a.fr (sy a.inn) (so told a.out) a.to a.w := by
  have := (Wk.nil (m := m) (told := told) (p := a.fr)).snoc ha
  simpa using this
/-- what a machine reads and writes at a cost -/
def Acc (m : Mac) (told : Bool) (I O : List Int) (c : Int) : Prop := ∃ f ∈ m.fins, ∃ d, Wk m told 0 I O f.st d ∧ c = d + f.w
/-- the least of costs, where there is one below Dear; else Dear -/
structure Least (S : Int → Prop) (v : Int) : Prop where
  le : ∀ c, S c → v ≤ c
  top : v ≤ dear
  at_ : v < dear → S v
theorem Least.uniq {S : Int → Prop} {v u : Int} (h : Least S v) (k : Least S u) : v = u := by
  have h2 := h.top
  have k2 := k.top
  rcases (by omega : v < dear ∨ dear ≤ v) with h1 | h1
  · have := k.le v (h.at_ h1)
    have := h.le u (k.at_ (by omega))
    omega
  · rcases (by omega : u < dear ∨ dear ≤ u) with k1 | k1
    · have := h.le u (k.at_ k1); omega
    · omega
theorem Least.congr {S T : Int → Prop} {v : Int} (h : Least S v) (e : ∀ c, S c ↔ T c) : Least T v := ⟨fun c hc => h.le c ((e c).2 hc), h.top, fun hv => (e v).1 (h.at_ hv)⟩
/-- arcs are as they should be -/
def Mac.Ok (m : Mac) : Prop := 1 ≤ m.states ∧ m.states ≤ 3000 ∧ (m.arcs.length : Int) ≤ 20000 ∧ (m.fins.length : Int) ≤ m.states ∧ (∀ a ∈ m.arcs, 0 ≤ a.fr ∧ a.fr < m.states ∧ 0 ≤ a.to ∧ a.to < m.states ∧ 0 ≤ a.inn ∧ a.inn ≤ 60 ∧ 0 ≤ a.out ∧ a.out ≤ 60 ∧ 0 ≤ a.w ∧ a.w ≤ 1000000) ∧ (∀ f ∈ m.fins, 0 ≤ f.st ∧ f.st < m.states ∧ 0 ≤ f.w ∧ f.w ≤ 1000000) ∧ (m.fins.map Fin_.st).Nodup
/-- what the tables want of a machine -/
def Mac.Fit (m : Mac) : Prop := 1 ≤ m.states ∧ (∀ a ∈ m.arcs, 0 ≤ a.fr ∧ a.fr < m.states ∧ 0 ≤ a.to ∧ a.to < m.states ∧ 0 ≤ a.w ∧ a.w ≤ 10000000) ∧ ∀ f ∈ m.fins, 0 ≤ f.st ∧ f.st < m.states ∧ 0 ≤ f.w ∧ f.w ≤ 10000000
theorem Mac.Ok.fit {m : Mac} (h : m.Ok) : m.Fit := ⟨h.1, fun a ha => by have := h.2.2.2.2.1 a ha; omega, fun f hf => by have := h.2.2.2.2.2.1 f hf; omega⟩
theorem Mac.chk_ok {m : Mac} : m.chk = 0 ↔ m.Ok := by
  unfold Mac.chk Mac.Ok
  constructor
  · intro h
    split at h
    · exact absurd h (by decide)
    · rename_i h1
      split at h
      · exact absurd h (by decide)
      · rename_i h2
        split at h
        · rename_i h3
          have ha : m.arcs.all (arcOk m) = true := by cases hx : m.arcs.all (arcOk m) <;> simp_all
          have hf : m.fins.all (finOk m) = true := by cases hx : m.fins.all (finOk m) <;> simp_all
          refine ⟨by omega, by omega, by omega, by omega, fun a hm => ?_, fun f hm => ?_, h3⟩
          · have := List.all_eq_true.1 ha a hm
            simp only [arcOk, okS, okY, okC, Bool.and_eq_true, decide_eq_true_eq] at this
            omega
          · have := List.all_eq_true.1 hf f hm
            simp only [finOk, okS, okC, Bool.and_eq_true, decide_eq_true_eq] at this
            omega
        · exact absurd h (by decide)
  · rintro ⟨h1, h2, h3, h4, h5, h6, h7⟩
    have ha : m.arcs.all (arcOk m) = true := List.all_eq_true.2 fun a hm => by
      have := h5 a hm
      simp only [arcOk, okS, okY, okC, Bool.and_eq_true, decide_eq_true_eq]; omega
    have hf : m.fins.all (finOk m) = true := List.all_eq_true.2 fun f hm => by
      have := h6 f hm
      simp only [finOk, okS, okC, Bool.and_eq_true, decide_eq_true_eq]; omega
    rw [if_neg (by omega), if_neg (by simp [ha, hf]), if_pos h7]
/-- places: a state, how much is read, how much is written -/
def ix (n k s i j : Nat) : Nat := (s * n + i) * k + j
theorem ix_lt {N n k s i j : Nat} (hs : s < N) (hi : i < n) (hj : j < k) : ix n k s i j < N * n * k := by
  unfold ix
  have h1 : s * n + i < N * n := by
    calc s * n + i < s * n + n := by omega
      _ = (s + 1) * n := by rw [Nat.add_mul, Nat.one_mul]
      _ ≤ N * n := Nat.mul_le_mul_right _ hs
  calc (s * n + i) * k + j < (s * n + i) * k + k := by omega
    _ = (s * n + i + 1) * k := by rw [Nat.add_mul (s * n + i) 1 k, Nat.one_mul]
    _ ≤ N * n * k := Nat.mul_le_mul_right _ h1
theorem ix_inj {n k s i j s' i' j' : Nat} (hi : i < n) (hj : j < k) (hi' : i' < n) (hj' : j' < k) (h : ix n k s i j = ix n k s' i' j') : s = s' ∧ i = i' ∧ j = j' := by
  unfold ix at h
  have a1 : ((s * n + i) * k + j) / k = s * n + i := by rw [Nat.mul_comm, Nat.mul_add_div (by omega), Nat.div_eq_of_lt hj, Nat.add_zero]
  have a2 : ((s' * n + i') * k + j') / k = s' * n + i' := by rw [Nat.mul_comm, Nat.mul_add_div (by omega), Nat.div_eq_of_lt hj', Nat.add_zero]
  have a3 : ((s * n + i) * k + j) % k = j := by rw [Nat.mul_comm, Nat.mul_add_mod, Nat.mod_eq_of_lt hj]
  have a4 : ((s' * n + i') * k + j') % k = j' := by rw [Nat.mul_comm, Nat.mul_add_mod, Nat.mod_eq_of_lt hj']
  have e1 : s * n + i = s' * n + i' := by rw [← a1, ← a2, h]
  have e2 : j = j' := by rw [← a3, ← a4, h]
  have b1 : (s * n + i) / n = s := by rw [Nat.mul_comm, Nat.mul_add_div (by omega), Nat.div_eq_of_lt hi, Nat.add_zero]
  have b2 : (s' * n + i') / n = s' := by rw [Nat.mul_comm, Nat.mul_add_div (by omega), Nat.div_eq_of_lt hi', Nat.add_zero]
  have b3 : (s * n + i) % n = i := by rw [Nat.mul_comm, Nat.mul_add_mod, Nat.mod_eq_of_lt hi]
  have b4 : (s' * n + i') % n = i' := by rw [Nat.mul_comm, Nat.mul_add_mod, Nat.mod_eq_of_lt hi']
  exact ⟨by rw [← b1, ← b2, e1], by rw [← b3, ← b4, e1], e2⟩
/-- how far an arc comes in what is to be read -/
def adv (x : Int) (I : List Int) (i : Nat) : Option Nat := if 0 < x then (if I[i]? = some x then some (i + 1) else none) else some i
def advo (told : Bool) (x : Int) (O : List Int) (j : Nat) : Option Nat := if told = true then adv x O j else some j
/-- the table says what walks cost, never less -/
structure Tab (m : Mac) (told : Bool) (I O : List Int) (n k : Nat) (L : List Int) : Prop where
  len : L.length = m.states.toNat * n * k
  ok : ∀ s i j v, s < m.states.toNat → i < n → j < k → L[ix n k s i j]? = some v → v = dear ∨ (0 ≤ v ∧ v < dear ∧ Wk m told 0 (I.take i) (O.take j) (s : Int) v)
  zero : L[ix n k 0 0 0]? = some 0
/-- an arc can lower nothing -/
def Stab (told : Bool) (I O : List Int) (n k : Nat) (L : List Int) (a : Arc) (i j : Nat) : Prop :=
  ∀ p i' j' q, L[ix n k a.fr.toNat i j]? = some p → p < dear → adv a.inn I i = some i' → advo told a.out O j = some j' → L[ix n k a.to.toNat i' j']? = some q → q ≤ p + a.w
theorem adv_take {x : Int} {I : List Int} {i i' : Nat} (h : adv x I i = some i') : I.take i' = I.take i ++ sy x := by
  unfold adv at h
  unfold sy
  by_cases hx : 0 < x
  · rw [if_pos hx] at h ⊢
    split at h
    · rename_i hi
      injection h with h; subst h
      rw [List.take_add_one, hi]; rfl
    · cases h
  · rw [if_neg hx] at h ⊢
    injection h with h; subst h; simp
theorem adv_le {x : Int} {I : List Int} {i i' : Nat} (h : adv x I i = some i') (hi : i ≤ I.length) : i' ≤ I.length := by
  unfold adv at h
  split at h
  · split at h
    · rename_i hx
      injection h with h; subst h
      exact (List.getElem?_eq_some_iff.1 hx).1
    · cases h
  · injection h with h; subst h; exact hi
theorem advo_take {told : Bool} {x : Int} {O : List Int} {j j' : Nat} (h : advo told x O j = some j') : O.take j' = O.take j ++ so told x := by
  unfold advo at h
  unfold so
  split at h
  · rename_i ht; rw [if_pos ht]; exact adv_take h
  · rename_i ht; rw [if_neg ht]; injection h with h; subst h; simp
/-- an arc's end is lowered -/
theorem Tab.lower {m : Mac} {told : Bool} {I O : List Int} {n k : Nat} {L : List Int} (h : Tab m told I O n k L) (hm : m.Fit) {a : Arc} (ha : a ∈ m.arcs) {i j i' j' : Nat} {p q : Int} (hi : i < n) (hj : j < k) (hi' : i' < n) (hj' : j' < k) (hp : L[ix n k a.fr.toNat i j]? = some p) (hpd : p < dear) (h1 : adv a.inn I i = some i') (h2 : advo told a.out O j = some j')
    (hq : L[ix n k a.to.toNat i' j']? = some q) (hlt : p + a.w < q) : Tab m told I O n k (L.set (ix n k a.to.toNat i' j') (p + a.w)) := by
  obtain ⟨_, harc, _⟩ := hm
  obtain ⟨b1, b2, b3, b4, b9, b10⟩ := harc a ha
  have hfr : a.fr.toNat < m.states.toNat := by omega
  have hto : a.to.toNat < m.states.toNat := by omega
  have hql := (List.getElem?_eq_some_iff.1 hq).1
  rcases h.ok _ i j p hfr hi hj hp with hx | ⟨p0, p1, pw⟩
  · omega
  have hqd : q ≤ dear := by rcases h.ok _ i' j' q hto hi' hj' hq with hx | ⟨_, hx, _⟩ <;> omega
  have hfi : ((a.fr.toNat : Nat) : Int) = a.fr := by omega
  have hti : ((a.to.toNat : Nat) : Int) = a.to := by omega
  refine ⟨by rw [List.length_set]; exact h.len, fun s x y v hs hx hy hv => ?_, ?_⟩
  · by_cases e : ix n k a.to.toNat i' j' = ix n k s x y
    · obtain ⟨e1, e2, e3⟩ := ix_inj hi' hj' hx hy e
      subst e1; subst e2; subst e3
      rw [List.getElem?_set_self hql] at hv
      injection hv with hv; subst hv
      refine .inr ⟨by omega, by omega, ?_⟩
      rw [adv_take h1, advo_take h2, hti]
      rw [hfi] at pw
      exact pw.snoc ha
    · rw [List.getElem?_set_ne e] at hv
      exact h.ok s x y v hs hx hy hv
  · by_cases e : ix n k a.to.toNat i' j' = ix n k 0 0 0
    · rw [e] at hq
      rw [h.zero] at hq
      injection hq with hq
      omega
    · rw [List.getElem?_set_ne e]; exact h.zero
def sumL (L : List Int) : Nat := (L.map Int.toNat).sum
theorem sumL_set {L : List Int} {q : Nat} {v x : Int} (h : L[q]? = some x) (h0 : 0 ≤ v) (hlt : v < x) : sumL (L.set q v) < sumL L := by
  induction L generalizing q with
  | nil => cases h
  | cons y r ih =>
    cases q with
    | zero =>
      simp at h; subst h
      simp [sumL]; omega
    | succ q =>
      have := ih (q := q) (by simpa using h)
      simp only [sumL, List.set_cons_succ, List.map_cons, List.sum_cons] at this ⊢
      omega
/-- nothing more can be lowered: no walk costs less -/
theorem Tab.least {m : Mac} {told : Bool} {I O : List Int} {n k : Nat} {L : List Int} (h : Tab m told I O n k L) (hm : m.Fit) (hn : n = I.length + 1) (hk : k = if told = true then O.length + 1 else 1) (hs : ∀ a ∈ m.arcs, ∀ i j, i < n → j < k → Stab told I O n k L a i j) :
    ∀ X Y s c, Wk m told 0 X Y s c → ∀ i j, i < n → j < k → X = I.take i → (told = true → Y = O.take j) → (told = false → j = 0) → 0 ≤ s ∧ s < m.states ∧ ∀ v, L[ix n k s.toNat i j]? = some v → v ≤ c := by
  obtain ⟨ms1, harc, _⟩ := hm
  intro X Y s c hw
  induction hw with
  | nil =>
    intro i j hi hj hX hY hj0
    have i0 : i = 0 := by
      have := congrArg List.length hX
      rw [List.length_take] at this; simp at this; omega
    have j0 : j = 0 := by
      cases told with
      | false => exact hj0 rfl
      | true =>
        rw [if_pos rfl] at hk
        have := congrArg List.length (hY rfl)
        rw [List.length_take] at this; simp at this; omega
    subst i0; subst j0
    refine ⟨by omega, by omega, fun v hv => ?_⟩
    have := h.zero
    rw [show (0 : Int).toNat = 0 from rfl] at hv
    rw [this] at hv; injection hv with hv; omega
  | @snoc X0 Y0 c a hw' ha ih =>
    intro i j hi hj hX hY hj0
    obtain ⟨b1, b2, b3, b4, b9, b10⟩ := harc a ha
    -- back one step
    obtain ⟨i0, hi0, hX0, hadv⟩ : ∃ i0, i0 < n ∧ X0 = I.take i0 ∧ adv a.inn I i0 = some i := by
      have hlen := congrArg List.length hX
      rw [List.length_append, List.length_take] at hlen
      unfold sy at hX hlen
      unfold adv
      by_cases hx : 0 < a.inn
      · rw [if_pos hx] at hX hlen
        simp only [List.length_singleton] at hlen
        obtain ⟨r, hr⟩ : ∃ r, i = r + 1 := ⟨i - 1, by omega⟩
        subst hr
        have hrl : r < I.length := by omega
        rw [List.take_add_one, List.getElem?_eq_getElem hrl] at hX
        have := List.append_inj' hX (by simp)
        refine ⟨r, by omega, this.1, ?_⟩
        rw [if_pos hx, if_pos]
        rw [List.getElem?_eq_getElem hrl]
        have := this.2
        simp at this
        rw [this]
      · rw [if_neg hx] at hX
        simp at hX
        exact ⟨i, hi, hX, by rw [if_neg hx]⟩
    obtain ⟨j0, hj0', hY0, hadvo, hjz⟩ : ∃ j0, j0 < k ∧ (told = true → Y0 = O.take j0) ∧ advo told a.out O j0 = some j ∧ (told = false → j0 = 0) := by
      unfold advo
      cases told with
      | false =>
        refine ⟨j, hj, fun h => (by cases h), ?_, hj0⟩
        rw [if_neg (by decide)]
      | true =>
        have hY := hY rfl
        rw [if_pos rfl] at hk
        unfold so at hY
        simp only [if_true] at hY ⊢
        have hlen := congrArg List.length hY
        rw [List.length_append, List.length_take] at hlen
        unfold sy at hY hlen
        unfold adv
        by_cases hx : 0 < a.out
        · rw [if_pos hx] at hY hlen
          simp only [List.length_singleton] at hlen
          obtain ⟨r, hr⟩ : ∃ r, j = r + 1 := ⟨j - 1, by omega⟩
          subst hr
          have hrl : r < O.length := by omega
          rw [List.take_add_one, List.getElem?_eq_getElem hrl] at hY
          have := List.append_inj' hY (by simp)
          refine ⟨r, by omega, fun _ => this.1, ?_, fun h => by cases h⟩
          rw [if_pos hx, if_pos]
          rw [List.getElem?_eq_getElem hrl]
          have := this.2
          simp at this
          rw [this]
        · rw [if_neg hx] at hY
          simp at hY
          exact ⟨j, hj, fun _ => hY, by rw [if_neg hx], fun h => by cases h⟩
    obtain ⟨r1, r2, r3⟩ := ih i0 j0 hi0 hj0' hX0 hY0 hjz
    refine ⟨b3, b4, fun v hv => ?_⟩
    have hpl : ix n k a.fr.toNat i0 j0 < L.length := by rw [h.len]; exact ix_lt (by omega) hi0 hj0'
    have hp := List.getElem?_eq_getElem hpl
    generalize L[ix n k a.fr.toNat i0 j0] = p at hp
    have hpc := r3 p hp
    rcases h.ok _ i j v (by omega : a.to.toNat < m.states.toNat) hi hj hv with hvd | ⟨_, hvd, _⟩
    · by_cases hpd : p < dear
      · have := hs a ha i0 j0 hi0 hj0' p i j v hp hpd hadv hadvo hv
        omega
      · omega
    · by_cases hpd : p < dear
      · have := hs a ha i0 j0 hi0 hj0' p i j v hp hpd hadv hadvo hv
        omega
      · omega
end Go.Proofs.Ytgkkilbeingleaa

/- A round of lowering, arc by arc, place by place; the least cost. Plain. -/
namespace Go.Proofs.Ytgkkilbeingleaa
structure Rnd (m : Mac) (told : Bool) (I O : List Int) (n k : Nat) (Lo : List Int) (ag : Bool) (L : List Int) (x i j : Nat) : Prop where
  tab : Tab m told I O n k L
  less : ag = true → sumL L < sumL Lo
  same : ag = false → L = Lo
  st : ag = false → ∀ (x' : Nat) (a : Arc), m.arcs[x']? = some a → ∀ i' j', i' < n → j' < k → (x' < x ∨ (x' = x ∧ (i' < i ∨ (i' = i ∧ j' < j)))) → Stab told I O n k L a i' j'
section
variable {m : Mac} {told : Bool} {I O Lo L : List Int} {n k x i j : Nat} {ag : Bool}
theorem Rnd.start (h : Tab m told I O n k Lo) : Rnd m told I O n k Lo false Lo 0 0 0 :=
  ⟨h, fun h => (by cases h), fun _ => rfl, fun _ _ _ _ _ _ _ _ h => by omega⟩
theorem Rnd.row (h : Rnd m told I O n k Lo ag L x i k) : Rnd m told I O n k Lo ag L x (i + 1) 0 :=
  ⟨h.tab, h.less, h.same, fun e x' a hx i' j' hi hj hl => h.st e x' a hx i' j' hi hj (by omega)⟩
theorem Rnd.arc (h : Rnd m told I O n k Lo ag L x n 0) : Rnd m told I O n k Lo ag L (x + 1) 0 0 :=
  ⟨h.tab, h.less, h.same, fun e x' a hx i' j' hi hj hl => h.st e x' a hx i' j' hi hj (by omega)⟩
theorem Rnd.skip (h : Rnd m told I O n k Lo ag L x i j) {a : Arc} (ha : m.arcs[x]? = some a) (hs : Stab told I O n k L a i j) : Rnd m told I O n k Lo ag L x i (j + 1) :=
  ⟨h.tab, h.less, h.same, fun e x' b hx i' j' hi hj hl => by
    by_cases c : x' = x ∧ i' = i ∧ j' = j
    · obtain ⟨rfl, rfl, rfl⟩ := c
      rw [ha] at hx; injection hx with hx; subst hx; exact hs
    · exact h.st e x' b hx i' j' hi hj (by omega)⟩
theorem Rnd.done (h : Rnd m told I O n k Lo false L m.arcs.length 0 0) : ∀ a ∈ m.arcs, ∀ i j, i < n → j < k → Stab told I O n k L a i j := fun a ha i j hi hj => by
  obtain ⟨x, hx⟩ := List.getElem?_of_mem ha
  exact h.st rfl x a hx i j hi hj (.inl (List.getElem?_eq_some_iff.1 hx).1)
theorem Tab.nonneg (h : Tab m told I O n k L) {s i j : Nat} {v : Int} (hs : s < m.states.toNat) (hi : i < n) (hj : j < k) (hv : L[ix n k s i j]? = some v) : 0 ≤ v ∧ v ≤ dear := by
  rcases h.ok s i j v hs hi hj hv with e | ⟨h1, h2, _⟩
  · subst e; exact ⟨by decide, by omega⟩
  · omega
theorem Tab.at_ (h : Tab m told I O n k L) {s i j : Nat} (hs : s < m.states.toNat) (hi : i < n) (hj : j < k) : ∃ v, L[ix n k s i j]? = some v := ⟨_, List.getElem?_eq_getElem (by rw [h.len]; exact ix_lt hs hi hj)⟩
theorem Rnd.low (h : Rnd m told I O n k Lo ag L x i j) (hm : m.Fit) {a : Arc} (ha : m.arcs[x]? = some a) {i' j' : Nat} {p q : Int} (hi : i < n) (hj : j < k) (hi' : i' < n) (hj' : j' < k) (hp : L[ix n k a.fr.toNat i j]? = some p) (hpd : p ≠ dear) (h1 : adv a.inn I i = some i') (h2 : advo told a.out O j = some j')
    (hq : L[ix n k a.to.toNat i' j']? = some q) (hlt : p + a.w < q) : Rnd m told I O n k Lo true (L.set (ix n k a.to.toNat i' j') (p + a.w)) x i (j + 1) := by
  have ham := List.mem_of_getElem? ha
  have hb := hm.2.1 a ham
  have hp0 := h.tab.nonneg (by omega : a.fr.toNat < m.states.toNat) hi hj hp
  refine ⟨h.tab.lower hm ham hi hj hi' hj' hp (by omega) h1 h2 hq hlt, fun _ => ?_, fun e => (by cases e), fun e => (by cases e)⟩
  have := sumL_set hq (v := p + a.w) (by omega) hlt
  cases ag with
  | true => have := h.less rfl; omega
  | false => rw [h.same rfl] at this ⊢; exact this
theorem stab_dear {a : Arc} (h : L[ix n k a.fr.toNat i j]? = some dear) : Stab told I O n k L a i j := fun p i' j' q hp hpd _ _ _ => by
  rw [h] at hp; injection hp with hp; omega
theorem stab_in {a : Arc} (h : adv a.inn I i = none) : Stab told I O n k L a i j := fun p i' j' q hp hpd h1 _ _ => by rw [h] at h1; cases h1
theorem stab_out {a : Arc} (h : advo told a.out O j = none) : Stab told I O n k L a i j := fun p i' j' q hp hpd _ h1 _ => by rw [h] at h1; cases h1
theorem stab_le {a : Arc} {p q : Int} {i' j' : Nat} (hp : L[ix n k a.fr.toNat i j]? = some p) (h1 : adv a.inn I i = some i') (h2 : advo told a.out O j = some j') (hq : L[ix n k a.to.toNat i' j']? = some q) (hle : ¬ p + a.w < q) : Stab told I O n k L a i j := fun p' i2 j2 q' hp' _ k1 k2 hq' => by
  rw [h1] at k1; injection k1 with k1; subst k1
  rw [h2] at k2; injection k2 with k2; subst k2
  rw [hp] at hp'; injection hp' with hp'
  rw [hq] at hq'; injection hq' with hq'
  omega
theorem tab0 (m : Mac) (hm : m.Fit) (told : Bool) (I O : List Int) {n k N : Nat} (hn : 0 < n) (hk : 0 < k) (hN : N = m.states.toNat * n * k) : Tab m told I O n k ((List.replicate N dear).set 0 0) := by
  obtain ⟨h1, _⟩ := hm
  have hpos : 0 < N := by rw [hN]; exact Nat.mul_pos (Nat.mul_pos (by omega) hn) hk
  refine ⟨by rw [List.length_set, List.length_replicate, hN], fun s i j v hs hi hj hv => ?_, ?_⟩
  · by_cases e : 0 = ix n k s i j
    · have e2 : ix n k s i j = ix n k 0 0 0 := by rw [← e]; unfold ix; simp
      obtain ⟨r1, r2, r3⟩ := ix_inj hi hj hn hk e2
      rw [← e, List.getElem?_set_self (by simpa using hpos)] at hv
      injection hv with hv
      subst hv r1 r2 r3
      exact .inr ⟨by omega, by decide, by simpa using Wk.nil⟩
    · rw [List.getElem?_set_ne e] at hv
      rw [List.getElem?_replicate] at hv
      split at hv
      · injection hv with hv; exact .inl hv.symm
      · cases hv
  · have : ix n k 0 0 0 = 0 := by unfold ix; simp
    rw [this, List.getElem?_set_self (by simpa using hpos)]
/-- the least so far of the ends -/
structure LeastF (m : Mac) (told : Bool) (I O : List Int) (x : Nat) (v : Int) : Prop where
  le : ∀ (x' : Nat) (f : Fin_), x' < x → m.fins[x']? = some f → ∀ d, Wk m told 0 I O f.st d → v ≤ d + f.w
  top : v ≤ dear
  at_ : v < dear → Acc m told I O v
theorem LeastF.zero : LeastF m told I O 0 dear := ⟨fun _ _ h => by omega, by omega, fun h => by omega⟩
theorem LeastF.all {v : Int} (h : LeastF m told I O m.fins.length v) : Least (Acc m told I O) v :=
  ⟨fun c ⟨f, hf, d, hw, e⟩ => by
    obtain ⟨x, hx⟩ := List.getElem?_of_mem hf
    rw [e]
    exact h.le x f (List.getElem?_eq_some_iff.1 hx).1 hx d hw, h.top, h.at_⟩
/-- what an end's place says: nothing is cheaper; and below Dear it is a walk's cost -/
theorem Tab.end_ (h : Tab m told I O n k L) (hm : m.Fit) (hn : n = I.length + 1) (hk : k = if told = true then O.length + 1 else 1) (hs : ∀ a ∈ m.arcs, ∀ i j, i < n → j < k → Stab told I O n k L a i j) {f : Fin_} (hf : f ∈ m.fins) {v : Int} (hv : L[ix n k f.st.toNat I.length (k - 1)]? = some v) :
    (∀ d, (∃ O', (told = true → O' = O) ∧ Wk m told 0 I O' f.st d) → v ≤ d) ∧ (v < dear → 0 ≤ v ∧ Wk m told 0 I (O.take (k - 1)) f.st v) := by
  have hb := hm.2.2 f hf
  have hk0 : 0 < k := by rw [hk]; split <;> omega
  constructor
  · rintro d ⟨O', hO, hw⟩
    refine (h.least hm hn hk hs I O' f.st d hw I.length (k - 1) (by omega) (by omega) (by simp) (fun ht => ?_) (fun ht => ?_)).2.2 v hv
    · rw [hO ht, hk, if_pos ht]; simp
    · rw [hk, if_neg (by simp [ht])]
  · intro hlt
    rcases h.ok f.st.toNat I.length (k - 1) v (by omega) (by omega) (by omega) hv with e | ⟨h1, _, h2⟩
    · omega
    · rw [List.take_length, show ((f.st.toNat : Nat) : Int) = f.st by omega] at h2
      exact ⟨h1, h2⟩
theorem Wk.quiet {X Y : List Int} {p q c : Int} (h : Wk m false p X Y q c) : Y = [] := by
  induction h with
  | nil => rfl
  | snoc _ _ ih => rw [ih]; rfl
/-- what is written counts only if it is told -/
def wr (told : Bool) (O : List Int) : List Int := if told = true then O else []
theorem LeastF.next {v u : Int} (hl : LeastF m told I (wr told O) x v) (h : Tab m told I O n k L) (hm : m.Fit) (hn : n = I.length + 1) (hk : k = if told = true then O.length + 1 else 1) (hs : ∀ a ∈ m.arcs, ∀ i j, i < n → j < k → Stab told I O n k L a i j) {f : Fin_} (hf : m.fins[x]? = some f) (hu : L[ix n k f.st.toNat I.length (k - 1)]? = some u) :
    LeastF m told I (wr told O) (x + 1) (if u < dear ∧ u + f.w < v then u + f.w else v) := by
  obtain ⟨e1, e2⟩ := h.end_ hm hn hk hs (List.mem_of_getElem? hf) hu
  have hb := hm.2.2 f (List.mem_of_getElem? hf)
  have hkO : O.take (k - 1) = wr told O := by
    unfold wr
    rw [hk]
    cases told with
    | true => simp
    | false => simp
  have hle : ∀ (x' : Nat) (g : Fin_), x' < x + 1 → m.fins[x']? = some g → ∀ d, Wk m told 0 I (wr told O) g.st d → (x' < x ∧ v ≤ d + g.w) ∨ (g = f ∧ u ≤ d) := by
    intro x' g hx hg d hw
    by_cases e : x' < x
    · exact .inl ⟨e, hl.le x' g e hg d hw⟩
    · have : x' = x := by omega
      subst this
      rw [hf] at hg; injection hg with hg; subst hg
      refine .inr ⟨rfl, e1 d ⟨_, fun ht => ?_, hw⟩⟩
      unfold wr; rw [if_pos ht]
  split
  · rename_i hc
    refine ⟨fun x' g hx hg d hw => ?_, ?_, fun _ => ?_⟩
    · rcases hle x' g hx hg d hw with ⟨_, h3⟩ | ⟨rfl, h3⟩ <;> omega
    · have := hl.top; omega
    · obtain ⟨_, h4⟩ := e2 hc.1
      rw [hkO] at h4
      exact ⟨f, List.mem_of_getElem? hf, u, h4, rfl⟩
  · rename_i hc
    refine ⟨fun x' g hx hg d hw => ?_, hl.top, hl.at_⟩
    rcases hle x' g hx hg d hw with ⟨_, h3⟩ | ⟨rfl, h3⟩
    · exact h3
    · have := hl.top
      by_cases hud : u < dear
      · have : ¬ u + g.w < v := fun h => hc ⟨hud, h⟩
        omega
      · omega
end
theorem Wk.nonnegF {m : Mac} (hm : m.Fit) {told : Bool} {p q c : Int} {X Y : List Int} (h : Wk m told p X Y q c) : 0 ≤ c := by
  induction h with
  | nil => omega
  | snoc _ ha ih => have := hm.2.1 _ ha; omega
theorem Acc.nonnegF {m : Mac} (hm : m.Fit) {told : Bool} {X Y : List Int} {c : Int} (h : Acc m told X Y c) : 0 ≤ c := by
  obtain ⟨f, hf, d, hw, e⟩ := h
  have := hw.nonnegF hm
  have := hm.2.2 f hf
  omega
theorem Wk.nonneg {m : Mac} (hm : m.Ok) {told : Bool} {p q c : Int} {X Y : List Int} (h : Wk m told p X Y q c) : 0 ≤ c := h.nonnegF hm.fit
theorem Acc.nonneg {m : Mac} (hm : m.Ok) {told : Bool} {X Y : List Int} {c : Int} (h : Acc m told X Y c) : 0 ≤ c := h.nonnegF hm.fit
theorem least_is {S : Int → Prop} (hS : ∀ c, S c → 0 ≤ c) : ∃ v, Least S v := by
  by_cases h : ∃ c, S c ∧ c < dear
  · obtain ⟨c, hc, hd⟩ := h
    obtain ⟨n, hn, hmin⟩ := least (S := fun n : Nat => S (n : Int)) c.toNat (by have := hS c hc; rw [show ((c.toNat : Nat) : Int) = c by omega]; exact hc)
    have h1 := hmin c.toNat (by have := hS c hc; rw [show ((c.toNat : Nat) : Int) = c by omega]; exact hc)
    have hc0 := hS c hc
    refine ⟨n, fun d hd => ?_, by omega, fun _ => hn⟩
    have := hS d hd
    have := hmin d.toNat (by rw [show ((d.toNat : Nat) : Int) = d by omega]; exact hd)
    omega
  · refine ⟨dear, fun c hc => ?_, Int.le_refl _, fun h => absurd h (Int.lt_irrefl _)⟩
    by_cases hd : c < dear
    · exact absurd ⟨c, hc, hd⟩ h
    · exact Int.not_lt.1 hd
open Classical in
noncomputable def leastOf (S : Int → Prop) : Int := if h : ∃ v, Least S v then h.choose else 0
theorem leastOf_spec {S : Int → Prop} (hS : ∀ c, S c → 0 ≤ c) : Least S (leastOf S) := by
  unfold leastOf
  rw [dif_pos (least_is hS)]
  exact (least_is hS).choose_spec
theorem leastOf_eq {S : Int → Prop} {v : Int} (h : Least S v) : leastOf S = v := by
  unfold leastOf
  rw [dif_pos ⟨v, h⟩]
  exact (Exists.choose_spec (⟨v, h⟩ : ∃ v, Least S v)).uniq h
noncomputable def costOf (m : Mac) (told : Bool) (I O : List Int) : Int := leastOf (Acc m told I (wr told O))
end Go.Proofs.Ytgkkilbeingleaa

/- Either, Chain, Repeat. -/
namespace Go.Proofs.Ytgkkilbeingleaa
open Go.RowKit Go.Maps
def Mac.Few (m : Mac) : Prop := m.states ≤ 40 ∧ m.arcs.length ≤ 120 ∧ m.fins.length ≤ 40
noncomputable def bothE (a b : Mac) : Int := if a.chk = 0 then b.chk else a.chk
def zeroM : Mac := ⟨0, [], []⟩
/-- what a maker answers: a machine, or what is wrong -/
noncomputable def made (x : Mac) (e : Int) : AV := .tup [(if e = 0 then x else zeroM).av, iv e]
def Fin_.shift (s : Int) (f : Fin_) : Fin_ := ⟨s + f.st, f.w⟩
/-- walks of a, and of b behind them -/
def Mac.chain (a b : Mac) : Mac := ⟨0 + a.states + b.states, a.arcs.map (Arc.shift 0) ++ b.arcs.map (Arc.shift (0 + a.states)) ++ a.fins.map (fun f => ⟨f.st, 0 + a.states, 0, 0, f.w⟩), b.fins.map (Fin_.shift (0 + a.states))⟩
end Go.Proofs.Ytgkkilbeingleaa
