/- Texts that the proof rests on, part 16: what each holds stands at its head. -/
import Derived.Test.YtpmnlikgldacaaaSv15

/- Proofs: how many steps, how long their lefts; both programs. -/
namespace Go.Proofs.Ytpmnlikgldacaaa
open Go.RowKit Go.Maps
mutual
def Pf.lf : Pf → Int → Int
  | ⟨_, l, _, _, _, ks⟩, most => Pf.lfs ks most 1 l.length
def Pf.lfs : List Pf → Int → Int → Int → Int
  | [], _, _, left => left
  | k :: r, most, n, left => if most < n then left else Pf.lfs r most (n + capN k.size (most - n)) (if left < Pf.lf k (most - n) then Pf.lf k (most - n) else left)
end
theorem Pf.sizes_succ (ks : List Pf) (k : Nat) (h : k < ks.length) : Pf.sizes (ks.take (k + 1)) = Pf.sizes (ks.take k) + (ks[k]'h).size := by
  induction ks generalizing k with
  | nil => simp at h
  | cons t r ih =>
    cases k with
    | zero => simp [Pf.sizes]
    | succ k => rw [List.take_succ_cons, List.take_succ_cons, Pf.sizes, Pf.sizes, ih k (by simpa using h)]; simp; omega
theorem Pf.sizes_le (ks : List Pf) (k : Nat) : Pf.sizes (ks.take k) ≤ Pf.sizes ks := by
  induction ks generalizing k with
  | nil => simp
  | cons t r ih =>
    cases k with
    | zero => simp [Pf.sizes]
    | succ k => rw [List.take_succ_cons, Pf.sizes, Pf.sizes]; have := ih k; omega
end Go.Proofs.Ytpmnlikgldacaaa

/- Proofs: the parts in them; both programs. -/
namespace Go.Proofs.Ytpmnlikgldacaaa
open Go.RowKit Go.Maps
mutual
def Pf.chk : Pf → Int
  | ⟨_, l, g, _, _, ks⟩ => if chkL (l ++ [g]) = 0 then Pf.chks ks else chkL (l ++ [g])
def Pf.chks : List Pf → Int
  | [] => 0
  | k :: r => if Pf.chk k = 0 then Pf.chks r else Pf.chk k
end
theorem chkL_ok : ∀ {l : List Ty}, Goods l → chkL l = 0
  | [], _ => rfl
  | t :: r, h => by rw [chkL, if_pos (show t.check = 0 from h.head), chkL_ok h.tail]
end Go.Proofs.Ytpmnlikgldacaaa

/- Is a step right: the program. -/
namespace Go.Proofs.Ytpmnlikgldacaaa
open Go.RowKit Go.Maps
def pD (p : Pf) : List Ty := (p.left.drop p.at_.toNat).take p.num.toNat
def tailB (p a b : Pf) (x y : Ty) (g h : List Ty) : Bool := y.same a.goal && (b.goal.same p.goal && (Ty.sameL a.left (pD p) && Ty.sameL b.left (g ++ x :: h)))
def rng (p : Pf) : Bool := decide (0 ≤ p.at_) && (decide (1 ≤ p.num) && decide (p.at_ + p.num ≤ p.left.length))
def stepB (p : Pf) : Bool :=
  if p.step = 1 then decide (p.kids.length = 0) && (decide (p.at_ = 0) && (decide (p.num = 0) && (match p.left with | [x] => x.same p.goal | _ => false)))
  else if p.step = 2 then decide (p.at_ = 0) && (decide (p.num = 0) && (match p.kids with | [a] => decide (p.goal.kind = 2) && (a.goal.same p.goal.k0 && Ty.sameL a.left (p.left ++ [p.goal.k1])) | _ => false))
  else if p.step = 3 then decide (p.at_ = 0) && (decide (p.num = 0) && (match p.kids with | [a] => decide (p.goal.kind = 3) && (a.goal.same p.goal.k1 && Ty.sameL a.left (p.goal.k0 :: p.left)) | _ => false))
  else if p.step = 4 then (match p.kids with | [a, b] => rng p && (match p.left[p.at_.toNat - 1]? with | some f => decide (0 < p.at_) && (decide (f.kind = 2) && tailB p a b f.k0 f.k1 (p.left.take (p.at_.toNat - 1)) (p.left.drop (p.at_.toNat + p.num.toNat))) | none => false) | _ => false)
  else if p.step = 5 then (match p.kids with | [a, b] => rng p && (match p.left[p.at_.toNat + p.num.toNat]? with | some f => decide (f.kind = 3) && tailB p a b f.k1 f.k0 (p.left.take p.at_.toNat) (p.left.drop (p.at_.toNat + p.num.toNat + 1)) | none => false) | _ => false)
  else if p.step = 6 then (match p.kids with | [a, b] => rng p && tailB p a b a.goal a.goal (p.left.take p.at_.toNat) (p.left.drop (p.at_.toNat + p.num.toNat)) | _ => false)
  else false
/-- a step's cells in memory -/
def pcG (p : Pf) : List AV := pC p (.dsl 8 (p.kids.map Pf.cs))
theorem pcG_cs (p : Pf) : p.cs = pcG p := p.cs_pC
theorem goal_cs (p : Pf) : [AV.p (.int .i64 p.goal.kind), AV.p (.int .i64 p.goal.num), AV.dsl 3 (List.map Ty.cs p.goal.kids)] = p.goal.cs := by rw [Ty.cs_eq]; rfl
theorem goal_av (p : Pf) : AV.agg [AV.p (.int .i64 p.goal.kind), AV.p (.int .i64 p.goal.num), AV.dsl 3 (List.map Ty.cs p.goal.kids)] = p.goal.av := by rw [goal_cs]; rfl
theorem Ty.cs_drop3 (t : Ty) : t.cs.drop 3 = [] := List.drop_of_length_le (by rw [Ty.cs_len]; omega)
theorem Ty.same_comm (a b : Ty) : a.same b = b.same a := by
  cases h : a.same b with
  | true => rw [Ty.same_eq_of _ _ h, Ty.same_self]
  | false => cases h2 : b.same a with
    | false => rfl
    | true => rw [Ty.same_eq_of _ _ h2, Ty.same_self] at h; cases h
theorem three_parts_m {H : AH} {r q : Nat} {a c : List Ty} {x : Ty} (h : H.get r = some (.row 22 1 [[.dsl 3 (a.map Ty.cs)], [.osl q 3 0 1], [.dsl 3 (c.map Ty.cs)]])) (h2 : H.get q = some (.row 24 3 [x.cs])) : PartsAt H (.osl r 1 0 3) [a, [x], c] := by
  refine ⟨[.dsl 3 (a.map Ty.cs), .osl q 3 0 1, .dsl 3 (c.map Ty.cs)], by simp [h], rfl, fun i r hr => ?_⟩
  match i with
  | 0 => simp at hr; subst hr; exact ⟨_, rfl, by simp⟩
  | 1 => simp at hr; subst hr; exact ⟨_, rfl, by simp [h2]⟩
  | 2 => simp at hr; subst hr; exact ⟨_, rfl, by simp⟩
  | i + 3 => simp at hr
section
variable {H M : AH} {p a b : Pf} {Q : AV → AH → Prop}
set_option maxHeartbeats 1000000 in
theorem sr_tail {v1 v4 v5 v10 : Nat} {x : Ty} {g h : List Ty} {z : Bool} (hw : WF M) (h1 : M.get v1 = some (.box 27 (pcG p))) (h4 : M.get v4 = some (.box 27 (pcG a))) (h5 : M.get v5 = some (.box 27 (pcG b))) (h10 : M.get v10 = some (.box 24 x.cs))
    (hr : rng p = true) (_hlen : p.left.length ≤ 20) (hgl : g.length + h.length ≤ 20) (hz : z = (b.goal.same p.goal && (Ty.sameL a.left (pD p) && Ty.sameL b.left (g ++ x :: h)))) (hQ : ∀ M', M.le M' → M.nx ≤ M'.nx → Rt Try.prog H.nx (bv z) Q M') :
    S_speech_stepRight_K3 Q H (.ptr v1 0) (.ptr v4 0) (.ptr v5 0) (iv p.at_) (iv (p.at_ + p.num)) (.ptr v10 0) [.dsl 3 (g.map Ty.cs), .dsl 3 (h.map Ty.cs)] M := by
  have hml : maxLen = 9223372036854775807 := by decide
  unfold rng at hr
  simp only [Bool.and_eq_true, decide_eq_true_eq] at hr
  obtain ⟨r1, r2, r3⟩ := hr
  have n1 := (hw _ _ h1).1
  have n4 := (hw _ _ h4).1
  have n5 := (hw _ _ h5).1
  have n10 := (hw _ _ h10).1
  have e1 : p.at_ ≤ p.at_ + p.num := by omega
  have e2 : ((p.at_ + p.num).toNat - p.at_.toNat) = p.num.toNat := by omega
  unfold S_speech_stepRight_K3
  unfold pcG pC at h1 h4 h5
  simp (disch := first | omega | simp) [iv, h1, h5]
  rw [goal_av, goal_av]
  refine cav_pure (by kernel_rfl) (fun H3 _ => c_sameP b.goal p.goal H3) ?_
  cases hb : b.goal.same p.goal with
  | false =>
    simp (disch := first | omega | simp) [bv]
    have := hQ (M.up 27) (by repeat (first | with_reducible assumption | with_reducible exact AH.le.refl _ | with_reducible apply AH.le.up | (with_reducible refine AH.le.put hw ?_ ?_; · first | omega | (simp only [up_nx, put_nx, kill_nx]; done) | (simp only [up_nx, put_nx, kill_nx]; omega)) | (with_reducible refine AH.le.kill hw ?_ ?_; · first | omega | (simp only [up_nx, put_nx, kill_nx]; done) | (simp only [up_nx, put_nx, kill_nx]; omega)))) (by simp only [up_nx]; omega)
    rw [hz, hb] at this
    exact this
  | true =>
    simp (disch := first | omega | simp) [bv, iv, h1, h4, e1, r1, r3, e2, tE]
    rw [← List.map_drop, ← List.map_take]
    refine cav_pure (by kernel_rfl) (fun H3 _ => c_sameAll a.left (pD p) H3) ?_
    cases hd : Ty.sameL a.left (pD p) with
    | false =>
      simp (disch := first | omega | simp) [bv]
      have := hQ (M.up 27) (by repeat (first | with_reducible assumption | with_reducible exact AH.le.refl _ | with_reducible apply AH.le.up | (with_reducible refine AH.le.put hw ?_ ?_; · first | omega | (simp only [up_nx, put_nx, kill_nx]; done) | (simp only [up_nx, put_nx, kill_nx]; omega)) | (with_reducible refine AH.le.kill hw ?_ ?_; · first | omega | (simp only [up_nx, put_nx, kill_nx]; done) | (simp only [up_nx, put_nx, kill_nx]; omega)))) (by simp only [up_nx]; omega)
      rw [hz, hb, hd] at this
      exact this
    | true =>
      simp (disch := first | omega | simp) [bv, iv, h5, h10, Ty.cs_len, Ty.cs_take]
      refine can_pure (by kernel_rfl) (fun H2 hle2 => c_Concat [g, [x], h] (three_parts_m (q := M.nx + 20) (hle2 _ _ (by simp (disch := first | omega | simp) [put_get_ne])) (hle2 _ _ (by simp (disch := first | omega | simp) [put_get_ne]))) (by simp; omega) (by simp)) ?_
      simp (disch := first | omega | simp) [tE]
      refine cav_pure (by kernel_rfl) (fun H3 _ => by have := c_sameAll b.left (g ++ x :: h) H3; unfold tE at this; rw [List.map_append, List.map_cons] at this; exact this) ?_
      simp (disch := first | omega | simp) [bv]
      have := hQ (((M.up 27).put (M.nx + 20) (.row 24 3 [x.cs])).put (M.nx + 22) (.row 22 1 [[.dsl 3 (g.map Ty.cs)], [.osl (M.nx + 20) 3 0 1], [.dsl 3 (h.map Ty.cs)]])) (by repeat (first | with_reducible assumption | with_reducible exact AH.le.refl _ | with_reducible apply AH.le.up | (with_reducible refine AH.le.put hw ?_ ?_; · first | omega | (simp only [up_nx, put_nx, kill_nx]; done) | (simp only [up_nx, put_nx, kill_nx]; omega)) | (with_reducible refine AH.le.kill hw ?_ ?_; · first | omega | (simp only [up_nx, put_nx, kill_nx]; done) | (simp only [up_nx, put_nx, kill_nx]; omega)))) (by simp only [put_nx, up_nx]; omega)
      rw [hz, hb, hd] at this
      exact this
/-- what stands in memory at a step's last part -/
structure SR (M : AH) (v1 v4 v5 : Nat) (p a b : Pf) : Prop where
  wf : WF M
  g1 : M.get v1 = some (.box 27 (pcG p))
  g4 : M.get v4 = some (.box 27 (pcG a))
  g5 : M.get v5 = some (.box 27 (pcG b))
set_option maxHeartbeats 1000000 in
theorem sr_over {v1 v4 v5 v10 : Nat} {x : Ty} {k : List AV → AH → Prop} (hs : SR M v1 v4 v5 p a b) (h10 : M.get v10 = some (.box 24 x.cs)) (hr : rng p = true) (hlen : p.left.length ≤ 20) (hgs : Goods p.left)
    (h0 : ∀ M', M.le M' → M.nx ≤ M'.nx → (p.at_ = 0 ∨ (0 < p.at_ ∧ ∃ f, p.left[p.at_.toNat - 1]? = some f ∧ (f.kind ≠ 2 ∨ f.k1.same a.goal = false))) → Rt Try.prog H.nx (bv false) Q M')
    (h1 : ∀ x y, 0 < p.at_ → p.left[p.at_.toNat - 1]? = some (Ty.o x y) → y.same a.goal = true → ∀ M', M'.nx = M.nx + 14 → (∀ j, j ≠ v10 → M'.get j = M.get j) → M'.get v10 = some (.box 24 x.cs) → k [.dsl 3 ((p.left.take (p.at_.toNat - 1)).map Ty.cs), .dsl 3 ((p.left.drop (p.at_ + p.num).toNat).map Ty.cs)] M') :
    S_speech_stepRight_C4 Q H (.ptr v4 0) (iv p.at_) (.dsl 3 ((p.left.take p.at_.toNat).map Ty.cs)) (.dsl 3 ((p.left.drop (p.at_ + p.num).toNat).map Ty.cs)) (.ptr v10 0) k M := by
  have hml : maxLen = 9223372036854775807 := by decide
  unfold rng at hr
  simp only [Bool.and_eq_true, decide_eq_true_eq] at hr
  obtain ⟨r1, r2, r3⟩ := hr
  obtain ⟨hw, g1, g4, g5⟩ := hs
  have n1 := (hw _ _ g1).1
  have n4 := (hw _ _ g4).1
  have n5 := (hw _ _ g5).1
  have n10 := (hw _ _ h10).1
  unfold S_speech_stepRight_C4
  unfold pcG pC at g4
  by_cases ha : p.at_ = 0
  · simp (disch := first | omega | simp) [iv, ha]
    exact h0 M (.refl _) (Nat.le_refl _) (.inl ha)
  have hap : 0 < p.at_ := by omega
  obtain ⟨n, hn⟩ : ∃ n : Nat, p.at_ = ((n + 1 : Nat) : Int) := ⟨p.at_.toNat - 1, by omega⟩
  have hnl : n + 1 ≤ p.left.length := by omega
  have hf : p.left[n]? = some p.left[n] := List.getElem?_eq_getElem (by omega)
  generalize p.left[n] = f at hf
  have hfg := hgs _ (List.mem_of_getElem? hf)
  have hft : ((p.left.take (n + 1)).map Ty.cs)[n]? = some f.cs := by rw [List.getElem?_map, List.getElem?_take, if_pos (by omega), hf]; rfl
  have hfi := (List.getElem?_eq_some_iff.1 hft)
  obtain ⟨hfi1, hfi2⟩ := hfi
  have ht : p.at_.toNat = n + 1 := by omega
  have hw1 : IntKind.i64.wrap (p.at_ - 1) = (n : Int) := by rw [show p.at_ - 1 = (n : Int) by omega]; exact wrapI (by omega) (by omega)
  have ht1 : p.at_.toNat - 1 = n := by omega
  rw [ht1] at h0 h1
  rw [ht]
  have e4 : (n : Int) < ((n + 1 : Nat) : Int) := by omega
  have hAt : ((p.left.take (n + 1)).map Ty.cs).take n = (p.left.take n).map Ty.cs := by rw [← List.map_take, List.take_take, Nat.min_eq_left (by omega)]
  have hAl : ((p.left.take (n + 1)).map Ty.cs).length = n + 1 := by rw [List.length_map, List.length_take]; omega
  generalize hA : (p.left.take (n + 1)).map Ty.cs = A at *
  have e5 : (n : Int) < A.length := by omega
  have e6 : (n : Int) ≤ A.length := by omega
  rcases hfg.cases with ⟨m, e, _⟩ | ⟨x', y', e, _⟩ | ⟨y', x', e, _⟩
  · have hk : f.kind ≠ 2 := by rw [e]; show (1 : Int) ≠ 2; decide
    simp (disch := first | omega | simp) [iv, ha, e5, hw1, hfi2, Ty.cs_g0, hk]
    exact h0 M (.refl _) (Nat.le_refl _) (.inr ⟨hap, f, hf, .inl hk⟩)
  · subst e
    simp (disch := first | omega | simp) [iv, ha, e5, hw1, hfi2, Ty.cs_len, Ty.cs_take, Ty.cs_o, g4, goal_cs]
    refine cav_pure (by kernel_rfl) (fun H3 _ => c_sameP y' a.goal H3) ?_
    cases hs : y'.same a.goal with
    | false =>
      simp (disch := first | omega | simp) [bv]
      exact h0 M (.refl _) (Nat.le_refl _) (.inr ⟨hap, _, hf, .inr hs⟩)
    | true =>
      simp (disch := first | omega | simp) [bv, iv, e5, e6, hw1, hfi2, hAt, Ty.cs_len, Ty.cs_take, Ty.cs_o, h10, Ty.cs_drop3]
      have := h1 x' y' hap hf hs ((M.up 14).put v10 (.box 24 x'.cs)) (by simp only [put_nx, up_nx]) (fun j hj => by rw [AH.get_put_ne hj]; rfl) (put_get _ _)
      simpa using this
  · have hk : f.kind ≠ 2 := by rw [e, Ty.kind_u]; decide
    simp (disch := first | omega | simp) [iv, ha, e5, hw1, hfi2, Ty.cs_g0, hk]
    exact h0 M (.refl _) (Nat.le_refl _) (.inr ⟨hap, f, hf, .inl hk⟩)
set_option maxHeartbeats 1000000 in
theorem sr_under {v1 v4 v5 v10 : Nat} {x : Ty} {k : List AV → AH → Prop} {g : AV} (hs : SR M v1 v4 v5 p a b) (h10 : M.get v10 = some (.box 24 x.cs)) (hr : rng p = true) (_hlen : p.left.length ≤ 20) (hgs : Goods p.left)
    (h0 : ∀ M', M.le M' → M.nx ≤ M'.nx → (∀ f, p.left[p.at_.toNat + p.num.toNat]? = some f → f.kind ≠ 3 ∨ f.k0.same a.goal = false) → Rt Try.prog H.nx (bv false) Q M')
    (h1 : ∀ y x, p.left[p.at_.toNat + p.num.toNat]? = some (Ty.u y x) → y.same a.goal = true → ∀ M', M'.nx = M.nx + 10 → (∀ j, j ≠ v10 → M'.get j = M.get j) → M'.get v10 = some (.box 24 x.cs) → k [g, .dsl 3 ((p.left.drop (p.at_.toNat + p.num.toNat + 1)).map Ty.cs)] M') :
    S_speech_stepRight_C5 Q H (.ptr v4 0) g (.dsl 3 ((p.left.drop (p.at_ + p.num).toNat).map Ty.cs)) (.ptr v10 0) k M := by
  have hml : maxLen = 9223372036854775807 := by decide
  unfold rng at hr
  simp only [Bool.and_eq_true, decide_eq_true_eq] at hr
  obtain ⟨r1, r2, r3⟩ := hr
  obtain ⟨hw, g1, g4, g5⟩ := hs
  have n1 := (hw _ _ g1).1
  have n4 := (hw _ _ g4).1
  have n5 := (hw _ _ g5).1
  have n10 := (hw _ _ h10).1
  unfold S_speech_stepRight_C5
  unfold pcG pC at g4
  have ht : (p.at_ + p.num).toNat = p.at_.toNat + p.num.toNat := by omega
  rw [ht]
  generalize p.at_.toNat + p.num.toNat = n at *
  by_cases hnl : n < p.left.length
  · have hf : p.left[n]? = some p.left[n] := List.getElem?_eq_getElem hnl
    generalize p.left[n] = f at hf
    have hfg := hgs _ (List.mem_of_getElem? hf)
    have hft : ((p.left.drop n).map Ty.cs)[0]? = some f.cs := by rw [List.getElem?_map, List.getElem?_drop, Nat.add_zero, hf]; rfl
    have hAt : ((p.left.drop n).map Ty.cs).drop 1 = (p.left.drop (n + 1)).map Ty.cs := by rw [← List.map_drop, List.drop_drop]
    have hAl : ((p.left.drop n).map Ty.cs).length = p.left.length - n := by rw [List.length_map, List.length_drop]
    generalize hA : (p.left.drop n).map Ty.cs = A at *
    obtain ⟨hfi1, hfi2⟩ := List.getElem?_eq_some_iff.1 hft
    have e5 : ¬ (A.length : Int) = 0 := by omega
    have e6 : (0 : Int) < A.length := by omega
    have e7 : (1 : Int) ≤ A.length := by omega
    have e8 : 0 < A.length := by omega
    have e9 : 1 ≤ A.length := by omega
    have e10 : ¬ A = [] := fun e => by rw [e] at e8; exact absurd e8 (by simp)
    rcases hfg.cases with ⟨m, e, _⟩ | ⟨x', y', e, _⟩ | ⟨y', x', e, _⟩
    · have hk : f.kind ≠ 3 := by rw [e]; show (1 : Int) ≠ 3; decide
      simp (disch := first | omega | simp) [iv, e8, e10, hfi2, Ty.cs_g0, hk]
      exact h0 M (.refl _) (Nat.le_refl _) (fun f' hf' => by rw [hf] at hf'; injection hf' with hf'; subst hf'; exact .inl hk)
    · have hk : f.kind ≠ 3 := by rw [e, Ty.kind_o]; decide
      simp (disch := first | omega | simp) [iv, e8, e10, hfi2, Ty.cs_g0, hk]
      exact h0 M (.refl _) (Nat.le_refl _) (fun f' hf' => by rw [hf] at hf'; injection hf' with hf'; subst hf'; exact .inl hk)
    · subst e
      simp (disch := first | omega | simp) [iv, e8, e10, hfi2, Ty.cs_len, Ty.cs_take, Ty.cs_u, g4, goal_cs]
      refine cav_pure (by kernel_rfl) (fun H3 _ => c_sameP y' a.goal H3) ?_
      cases hs : y'.same a.goal with
      | false =>
        simp (disch := first | omega | simp) [bv]
        exact h0 M (.refl _) (Nat.le_refl _) (fun f' hf' => by rw [hf] at hf'; injection hf' with hf'; subst hf'; exact .inr hs)
      | true =>
        simp (disch := first | omega | simp) [bv, iv, e7, e8, hfi2, hAt, Ty.cs_len, Ty.cs_take, Ty.cs_u, h10, Ty.cs_drop3]
        have := h1 y' x' hf hs ((M.up 10).put v10 (.box 24 x'.cs)) (by simp only [put_nx, up_nx]) (fun j hj => by rw [AH.get_put_ne hj]; rfl) (put_get _ _)
        simpa using this
  · have hA : p.left.drop n = [] := List.drop_eq_nil_iff.2 (by omega)
    rw [hA]
    simp (disch := first | omega | simp)
    exact h0 M (.refl _) (Nat.le_refl _) (fun f' hf' => by rw [List.getElem?_eq_none (by omega)] at hf'; cases hf')
theorem rng_iff {p : Pf} : rng p = true ↔ 0 ≤ p.at_ ∧ 1 ≤ p.num ∧ p.at_ + p.num ≤ p.left.length := by
  unfold rng; simp only [Bool.and_eq_true, decide_eq_true_eq]
set_option maxHeartbeats 2000000 in
/-- a step with two proofs -/
theorem sr_two {v1 v4 : Nat} (hw : WF M) (h1 : M.get v1 = some (.box 27 (pcG p))) (h4 : M.get v4 = some (.box 27 (pcG a))) (hk : p.kids = [a, b]) (hst : p.step = 4 ∨ p.step = 5 ∨ p.step = 6) (hlen : p.left.length ≤ 20) (hgs : Goods p.left) (_hga : Good a.goal) (hn : I64 p.at_) (hm : I64 p.num)
    (hQ : ∀ M', M.le M' → M.nx ≤ M'.nx → Rt Try.prog H.nx (bv (stepB p)) Q M') : S_speech_stepRight_C6 Q H (.ptr v1 0) (.ptr v4 0) M := by
  have hml : maxLen = 9223372036854775807 := by decide
  have n1 := (hw _ _ h1).1
  have n4 := (hw _ _ h4).1
  have hz : rng p = false → stepB p = false := fun h => by
    unfold stepB
    rw [hk]
    rcases hst with e | e | e <;> simp [e, h]
  unfold S_speech_stepRight_C6
  have h1' := h1
  have h4' := h4
  unfold pcG pC tE at h1 h4
  rw [hk] at h1
  unfold I64 at hn hm
  have hno : (¬ (0 ≤ p.at_ ∧ 1 ≤ p.num ∧ p.at_ + p.num ≤ p.left.length)) → Rt Try.prog H.nx (.p (.bool false)) Q (((M.up 6).put (M.nx + 4) (.box 27 [.p (.int .i64 0), .p (.slice none 0 0), .p (.int .i64 0), .p (.int .i64 0), .p (.slice none 0 0), .p (.int .i64 0), .p (.int .i64 0), .p (.slice none 0 0)])).put (M.nx + 4) (.box 27 b.cs)) := fun h => by
    have hf : rng p = false := by cases h2 : rng p with
      | false => rfl
      | true => exact absurd (rng_iff.1 h2) h
    have := hQ (((M.up 6).put (M.nx + 4) (.box 27 [.p (.int .i64 0), .p (.slice none 0 0), .p (.int .i64 0), .p (.int .i64 0), .p (.slice none 0 0), .p (.int .i64 0), .p (.int .i64 0), .p (.slice none 0 0)])).put (M.nx + 4) (.box 27 b.cs)) (by repeat (first | with_reducible assumption | with_reducible exact AH.le.refl _ | with_reducible apply AH.le.up | (with_reducible refine AH.le.put hw ?_ ?_; · first | omega | (simp only [up_nx, put_nx, kill_nx]; done) | (simp only [up_nx, put_nx, kill_nx]; omega)) | (with_reducible refine AH.le.kill hw ?_ ?_; · first | omega | (simp only [up_nx, put_nx, kill_nx]; done) | (simp only [up_nx, put_nx, kill_nx]; omega)))) (by simp only [put_nx, up_nx]; omega)
    rw [hz hf] at this
    exact this
  by_cases ha : p.at_ < 0
  · simp (disch := first | omega | simp) [iv, h1, put_get_ne, ha, Pf.cs_len, Pf.cs_take]
    exact hno (by omega)
  by_cases hb : p.num < 1
  · simp (disch := first | omega | simp) [iv, h1, put_get_ne, ha, hb, Pf.cs_len, Pf.cs_take]
    exact hno (by omega)
  by_cases hc : (p.left.length : Int) < p.num
  · simp (disch := first | omega | simp) [iv, h1, put_get_ne, ha, hb, hc, Pf.cs_len, Pf.cs_take]
    exact hno (by omega)
  have hw1 : IntKind.i64.wrap ((p.left.length : Int) - p.num) = (p.left.length : Int) - p.num := wrapI (by omega) (by omega)
  by_cases hd : (p.left.length : Int) - p.num < p.at_
  · simp (disch := first | omega | simp) [iv, h1, put_get_ne, ha, hb, hc, hw1, hd, Pf.cs_len, Pf.cs_take]
    exact hno (by omega)
  clear hno
  have hrt : rng p = true := rng_iff.2 ⟨by omega, by omega, by omega⟩
  have hw2 : IntKind.i64.wrap (p.at_ + p.num) = p.at_ + p.num := wrapI (by omega) (by omega)
  have e1 : 0 ≤ p.at_ := by omega
  have e2 : p.at_ ≤ p.left.length := by omega
  have e3 : 0 ≤ p.at_ + p.num := by omega
  have e4 : p.at_ + p.num ≤ p.left.length := by omega
  have hgc : ∀ h, a.goal.cs = h → [AV.p (.int .i64 a.goal.kind), AV.p (.int .i64 a.goal.num), AV.dsl 3 (List.map Ty.cs a.goal.kids)] = h := fun h e => by rw [goal_cs]; exact e
  simp (disch := first | omega | simp) [iv, h1, h4, put_get_ne, ha, hb, hc, hw1, hd, hw2, e1, e2, e3, e4, Pf.cs_len, Pf.cs_take]
  simp only [← List.map_take, ← List.map_drop]
  generalize hM2 : AH.put _ _ _ = M2
  have hMl : M.le M2 := by rw [← hM2]; exact (by repeat (first | with_reducible assumption | with_reducible exact AH.le.refl _ | with_reducible apply AH.le.up | (with_reducible refine AH.le.put hw ?_ ?_; · first | omega | (simp only [up_nx, put_nx, kill_nx]; done) | (simp only [up_nx, put_nx, kill_nx]; omega)) | (with_reducible refine AH.le.kill hw ?_ ?_; · first | omega | (simp only [up_nx, put_nx, kill_nx]; done) | (simp only [up_nx, put_nx, kill_nx]; omega))))
  have hMn : M2.nx = M.nx + 10 := by rw [← hM2]; rfl
  have hg5 : M2.get (M.nx + 4) = some (.box 27 (pcG b)) := by rw [← hM2, ← pcG_cs]; simp (disch := first | omega | simp) [put_get_ne]
  have hg10 : M2.get (M.nx + 6 + 2) = some (.box 24 a.goal.cs) := by rw [← hM2, put_get, ← goal_cs]
  have hg1 := hMl _ _ h1'
  have hg4 := hMl _ _ h4'
  have hw2' : WF M2 := by
    rw [← hM2]
    exact ((((((hw.up 6).box (by simp only [up_nx]; omega) (by exact (by repeat (first | exact Cl.p _ | exact Cl.dsl _ _ | exact Cl.any | refine Cl.tup ?_ | refine Cl.agg ?_ | exact Clo.nil | refine Clo.cons ?_ ?_)))).box (by simp only [put_nx, up_nx]; omega) (by first | exact Pf.cl b _ | exact (by repeat (first | exact Cl.p _ | exact Cl.dsl _ _ | exact Cl.any | refine Cl.tup ?_ | refine Cl.agg ?_ | exact Clo.nil | refine Clo.cons ?_ ?_)))).up 4).box (by simp only [put_nx, up_nx]; omega) (by exact (by repeat (first | exact Cl.p _ | exact Cl.dsl _ _ | exact Cl.any | refine Cl.tup ?_ | refine Cl.agg ?_ | exact Clo.nil | refine Clo.cons ?_ ?_)))).box (by simp only [put_nx, up_nx]; omega) (by exact (by repeat (first | exact Cl.p _ | exact Cl.dsl _ _ | exact Cl.any | refine Cl.tup ?_ | refine Cl.agg ?_ | exact Clo.nil | refine Clo.cons ?_ ?_))))
  clear hM2
  have hp1 : IntKind.i64.wrap (p.at_ - 1) = p.at_ - 1 := wrapI (by omega) (by omega)
  have hto : (p.at_ + p.num).toNat = p.at_.toNat + p.num.toNat := by omega
  have hg1' := hg1
  unfold pcG pC at hg1'
  have hSR : SR M2 v1 v4 (M.nx + 4) p a b := ⟨hw2', hg1, hg4, hg5⟩
  have hgfs : ∀ f ∈ p.left, Good f := hgs
  refine cut_wf (fun s : List Ty × List Ty × Ty => [.dsl 3 (s.1.map Ty.cs), .dsl 3 (s.2.1.map Ty.cs)]) (fun s M' => M2.nx ≤ M'.nx ∧ (∀ j, j ≠ M.nx + 6 + 2 → M'.get j = M2.get j) ∧ M'.get (M.nx + 6 + 2) = some (.box 24 s.2.2.cs) ∧ s.1.length + s.2.1.length ≤ 20 ∧ stepB p = (b.goal.same p.goal && (Ty.sameL a.left (pD p) && Ty.sameL b.left (s.1 ++ s.2.2 :: s.2.1)))) (fun k hkk => ?_) (fun s M' hn' hwM' ⟨q1, q2, q3, q4, q5⟩ => ?_)
  · rcases hst with e | e | e
    · simp (disch := first | omega | simp) [iv, hg1', e]
      simp only [← List.map_take, ← List.map_drop]
      refine sr_over hSR hg10 hrt hlen hgs (fun M' hl hn' hx => ?_) (fun x y hap hf hs M' hn' hj hgx => ?_)
      · have hz2 : stepB p = false := by
          unfold stepB
          rw [hk]
          rcases hx with hx | ⟨hx0, f, hf, hx⟩
          · simp [e, hx]
            cases p.left[0]? <;> simp
          · rcases hx with hx | hx <;> simp [e, hf, hx, tailB]
        rw [← hz2]
        exact hQ M' (hMl.trans hl) (by omega)
      · refine hkk (p.left.take (p.at_.toNat - 1), p.left.drop (p.at_ + p.num).toNat, x) M' _ M' (.refl (by omega)) ⟨by omega, hj, hgx, by simp; omega, ?_⟩
        unfold stepB
        rw [hk, hto]
        simp [e, hf, hrt, hap, Ty.kind_o, k0_o, k1_o, tailB, hs]
    · simp (disch := first | omega | simp) [iv, hg1', e]
      simp only [← List.map_take, ← List.map_drop]
      refine sr_under hSR hg10 hrt hlen hgs (fun M' hl hn' hx => ?_) (fun y x hf hs M' hn' hj hgx => ?_)
      · have hz2 : stepB p = false := by
          unfold stepB
          rw [hk]
          cases hf : p.left[p.at_.toNat + p.num.toNat]? with
          | none => simp [e]
          | some f => rcases hx f hf with hx | hx <;> simp [e, hx, tailB]
        rw [← hz2]
        exact hQ M' (hMl.trans hl) (by omega)
      · refine hkk (p.left.take p.at_.toNat, p.left.drop (p.at_.toNat + p.num.toNat + 1), x) M' _ M' (.refl (by omega)) ⟨by omega, hj, hgx, by simp; omega, ?_⟩
        unfold stepB
        rw [hk]
        simp [e, hf, hrt, Ty.kind_u, k0_u, k1_u, tailB, hs]
    · simp (disch := first | omega | simp) [iv, hg1', e]
      have := hkk (p.left.take p.at_.toNat, p.left.drop (p.at_ + p.num).toNat, a.goal) M2 _ M2 (.refl (Nat.le_refl _)) ⟨Nat.le_refl _, fun _ _ => rfl, hg10, by simp; omega, by
        unfold stepB
        rw [hk, hto]
        simp [e, hrt, tailB, Ty.same_self]⟩
      simpa using this
  · have hne : ∀ j o, M2.get j = some o → j ≠ M.nx + 6 + 2 → M'.get j = some o := fun j o h hj => (q2 j hj).trans h
    refine sr_tail hwM' (hne _ _ hg1 (by omega)) (hne _ _ hg4 (by omega)) (hne _ _ hg5 (by omega)) q3 hrt hlen q4 q5 fun M3 l3 n3 => hQ M3 (fun j o ho => l3 _ _ (hne j o (hMl _ _ ho) (by have := (hw _ _ ho).1; omega))) (by omega)
end
theorem stepB_kids2 {p : Pf} (h2 : p.step = 4 ∨ p.step = 5 ∨ p.step = 6) (hk : p.kids.length ≠ 2) : stepB p = false := by
  unfold stepB
  rcases h2 with e | e | e
  all_goals
    match hkk : p.kids with
    | [] => simp [e]
    | [a] => simp [e]
    | [a, b] => rw [hkk] at hk; exact absurd rfl hk
    | a :: b :: c :: r => simp [e]
end Go.Proofs.Ytpmnlikgldacaaa
