/- Texts that the proof rests on, part 11: what each holds stands at its head. -/
import Derived.Test.YtcmnjoepadjioaaMc10

/- Of lines those that a line needs, numbered anew. -/
namespace Go.Proofs.Ytcmnjoepadjioaa
open Go.RowKit Go.Maps
/-- what is needed so far: from line j on all that is needed brings what it needs -/
structure Need (l : List Lin) (last j : Nat) (N : Nat → Bool) : Prop where
  top : N last = true
  low : ∀ i, N i = true → i ≤ last
  shut : ∀ (i : Nat) (x : Lin), l[i]? = some x → j ≤ i → N i = true → x.rule ≠ 1 → ∀ k ∈ x.src, N k.toNat = true
def setN (N : Nat → Bool) (k : Nat) : Nat → Bool := fun i => if i = k then true else N i
theorem setN_at (N : Nat → Bool) (k : Nat) : setN N k k = true := by simp [setN]
theorem setN_up {N : Nat → Bool} {k i : Nat} (h : N i = true) : setN N k i = true := by unfold setN; split <;> simp [h]
theorem setN_one {k i : Nat} (h : setN (fun _ => false) k i = true) : i = k := by
  unfold setN at h
  split at h
  · assumption
  · cases h
theorem Need.set {l : List Lin} {last j : Nat} {N : Nat → Bool} (h : Need l last (j + 1) N) {k : Nat} (hk : k < j) (hj : j ≤ last) : Need l last (j + 1) (setN N k) where
  top := setN_up h.top
  low i hi := by
    unfold setN at hi
    split at hi
    · omega
    · exact h.low i hi
  shut i x hx hji hi hr := fun q hq => by
    have : N i = true := by
      unfold setN at hi
      rw [if_neg (by omega)] at hi; exact hi
    exact setN_up (h.shut i x hx hji this hr q hq)
def setAll (N : Nat → Bool) (src : List Int) : Nat → Bool := src.foldl (fun N k => setN N k.toNat) N
theorem setAll_next {N : Nat → Bool} {src : List Int} {q : Nat} {z : Int} (h : src[q]? = some z) : setAll N (src.take (q + 1)) = setN (setAll N (src.take q)) z.toNat := by unfold setAll; rw [List.take_add_one, h, List.foldl_append]; rfl
def stepN (l : List Lin) (N : Nat → Bool) (j : Nat) : Nat → Bool := if N j then (match l[j]? with | some x => if x.rule = 1 then N else setAll N x.src | none => N) else N
def downN (l : List Lin) (last : Nat) : Nat → Nat → Bool
  | 0 => setN (fun _ => false) last
  | t + 1 => stepN l (downN l last t) (last - t)
def theN (l : List Lin) (last : Nat) : Nat → Bool := downN l last (last + 1)
theorem downN_next (l : List Lin) (last : Nat) {j : Nat} (hj : j ≤ last) : stepN l (downN l last (last + 1 - (j + 1))) j = downN l last (last + 1 - j) := by
  rw [show last + 1 - j = (last + 1 - (j + 1)) + 1 by omega, downN]
  congr 1; omega
theorem setAll_need {l : List Lin} {last j : Nat} : ∀ {src : List Int} {N : Nat → Bool}, Need l last (j + 1) N → j ≤ last → (∀ k ∈ src, 0 ≤ k ∧ k < (j : Int)) → Need l last (j + 1) (setAll N src) ∧ (∀ k ∈ src, setAll N src k.toNat = true) ∧ ∀ i, N i = true → setAll N src i = true
  | [], N, h, _, _ => ⟨h, by simp, fun _ h => h⟩
  | z :: r, N, h, hj, hs => by
    have hz := hs z (by simp)
    obtain ⟨q1, q2, q3⟩ := setAll_need (src := r) (h.set (k := z.toNat) (by omega) hj) hj (fun k hk => hs k (by simp [hk]))
    refine ⟨q1, fun k hk => ?_, fun i hi => q3 i (setN_up hi)⟩
    rcases List.mem_cons.1 hk with rfl | hk
    · exact q3 _ (setN_at _ _)
    · exact q2 k hk
theorem need_down {l : List Lin} {last : Nat} (hr : ∀ (i : Nat) (x : Lin), l[i]? = some x → x.rule ≠ 1 → ∀ k ∈ x.src, 0 ≤ k ∧ k < (i : Int)) : ∀ t, t ≤ last + 1 → Need l last (last + 1 - t) (downN l last t)
  | 0, _ => ⟨setN_at _ _, fun i hi => Nat.le_of_eq (setN_one hi), fun i x hx hji hi => by have := setN_one hi; omega⟩
  | t + 1, ht => by
    have ih := need_down (last := last) hr t (by omega)
    have e1 : last + 1 - t = (last - t) + 1 := by omega
    have e2 : last + 1 - (t + 1) = last - t := by omega
    rw [e1] at ih
    rw [e2, downN]
    generalize downN l last t = N at *
    have down : ∀ N', Need l last (last - t + 1) N' → (∀ x, l[last - t]? = some x → N' (last - t) = true → x.rule ≠ 1 → ∀ k ∈ x.src, N' k.toNat = true) → Need l last (last - t) N' := fun N' q1 q2 => ⟨q1.top, q1.low, fun i y hy hji hi hr => by
      by_cases e : i = last - t
      · subst e; exact q2 y hy hi hr
      · exact q1.shut i y hy (show last - t + 1 ≤ i by omega) hi hr⟩
    unfold stepN
    by_cases hN : N (last - t) = true
    · rw [if_pos hN]
      cases hx : l[last - t]? with
      | none => exact down N ih fun x h => by rw [hx] at h; cases h
      | some x =>
        by_cases h1 : x.rule = 1
        · simp only [h1, if_true]
          exact down N ih fun y hy _ h2 => by rw [hx] at hy; injection hy with hy; subst hy; exact absurd h1 h2
        · simp only [h1, if_false]
          obtain ⟨q1, q2, _⟩ := setAll_need ih (show last - t ≤ last by omega) (hr _ x hx h1)
          exact down _ q1 fun y hy _ _ => by rw [hx] at hy; injection hy with hy; subst hy; exact q2
    · rw [if_neg hN]
      exact down N ih fun x _ h => absurd h hN
theorem need_the {l : List Lin} {last : Nat} (hr : ∀ (i : Nat) (x : Lin), l[i]? = some x → x.rule ≠ 1 → ∀ k ∈ x.src, 0 ≤ k ∧ k < (i : Int)) : Need l last 0 (theN l last) := by
  have := need_down (last := last) hr (last + 1) (Nat.le_refl _)
  rwa [Nat.sub_self] at this
def needRow (N : Nat → Bool) (n : Nat) : List (List AV) := (List.range n).map fun i => [bv (N i)]
theorem needRow_len (N : Nat → Bool) (n : Nat) : (needRow N n).length = n := by simp [needRow]
theorem needRow_at {N : Nat → Bool} {n k : Nat} (h : k < n) : (needRow N n)[k]? = some [bv (N k)] := by simp [needRow, h]
theorem needRow_set (N : Nat → Bool) (n k : Nat) : (needRow N n).set k [bv true] = needRow (setN N k) n := by
  apply List.ext_getElem?
  intro i
  rw [List.getElem?_set]
  by_cases h : k = i
  · subst h
    rw [if_pos rfl]
    by_cases hk : k < n
    · rw [if_pos (by rw [needRow_len]; exact hk), needRow_at hk, setN_at]
    · rw [if_neg (by rw [needRow_len]; exact hk), List.getElem?_eq_none (by rw [needRow_len]; omega)]
  · rw [if_neg h]
    by_cases hi : i < n
    · rw [needRow_at hi, needRow_at hi]; unfold setN; rw [if_neg (fun e => h e.symm)]
    · rw [List.getElem?_eq_none (by rw [needRow_len]; omega), List.getElem?_eq_none (by rw [needRow_len]; omega)]
theorem needRow_none (n : Nat) : List.replicate n [bv false] = needRow (fun _ => false) n := by
  apply List.ext_getElem?
  intro i
  by_cases hi : i < n
  · rw [needRow_at hi, List.getElem?_replicate, if_pos hi]
  · rw [List.getElem?_eq_none (by rw [List.length_replicate]; omega), List.getElem?_eq_none (by rw [needRow_len]; omega)]
def mixL (N : Nat → Bool) (src : List Int) (q : Nat) : List Int := (src.take q).map (fun k => ((rankN N k.toNat : Nat) : Int)) ++ src.drop q
theorem mixL_len (N : Nat → Bool) (src : List Int) (q : Nat) : (mixL N src q).length = src.length := by simp [mixL]; omega
theorem mixL_at {N : Nat → Bool} {src : List Int} {q : Nat} {z : Int} (h : src[q]? = some z) : (mixL N src q)[q]? = some z := by
  have hq := (List.getElem?_eq_some_iff.1 h).1
  rw [mixL, List.getElem?_append_right (by simp; omega)]
  simp
  rw [show q - min q src.length = 0 by omega]
  simpa using h
theorem mixL_set {N : Nat → Bool} {src : List Int} {q : Nat} {z : Int} (h : src[q]? = some z) : (mixL N src q).set q ((rankN N z.toNat : Nat) : Int) = mixL N src (q + 1) := by
  obtain ⟨hq, hz⟩ := List.getElem?_eq_some_iff.1 h
  unfold mixL
  rw [List.set_append_right _ _ (by simp; omega), List.length_map, List.length_take, show q - min q src.length = 0 by omega, List.drop_eq_getElem_cons hq, List.set_cons_zero, List.take_add_one, h, List.map_append, List.append_assoc]
  rfl
theorem mixL_all (N : Nat → Bool) (src : List Int) : mixL N src src.length = src.map fun k => ((rankN N k.toNat : Nat) : Int) := by simp [mixL]
theorem intE_set (l : List Int) (q : Nat) (z : Int) : (intE l).set q [iv z] = intE (l.set q z) := by simp [intE, List.map_set]
/-- the copied line is handed over and laid behind the others -/
theorem needed_fin {H H4 : AH} {u vc : AV} {bx i : Nat} {x : Lin} {es : List Int} {out : List Lin} {k : List AV → AH → Prop} (hw : WF H) (hle : H.le H4) (hn : H.nx ≤ H4.nx) (hu : Grows 36 5 H H4 u (out.map Lin.cs)) (hv : Grows 3 1 H H4 vc (intE es))
    (hbx : H4.get bx = some (.box 36 [iv x.rule, .p (.bool x.c.so), iv x.c.a, iv x.c.b, vc])) (hb : H.nx ≤ bx) (hbl : bx < H4.nx) (hlen : out.length < 900000) (hi : i < 900000)
    (hk : ∀ v' H', Grows 36 5 H H' v' ((out ++ [Lin.mk x.rule x.c es]).map Lin.cs) → H.le H' → H4.nx ≤ H'.nx → (∀ j o, H4.get j = some o → (∀ n, vc ≠ .osl j 1 0 n) → (∀ n, u ≠ .osl j 5 0 n) → j ≠ bx → j < H4.nx → H'.get j = some o) → k [v', iv ((i + 1 : Nat) : Int)] H') :
    Gq Try.prog (Rg 5 fun b => RdS Try.prog (.ld 5 true) [.ptr bx 0] fun v115 =>
      Al (b + 2) (.bs 36 5 1 [.p (.int .i64 0), .p (.bool false), .p (.int .i64 0), .p (.int .i64 0), .p (.slice none 0 0)] [(0, 5)]) [v115] fun v116 =>
      WrS Try.prog (b + 3) (.app 36 5 56) [u, v116] fun v117 =>
      Pu Try.prog (.bin .add 3) [.p (.int .i64 (i : Int)), .p (.int .i64 1)] fun v118 => k [v117, v118]) H4 := by
  have hmx : maxLen = 9223372036854775807 := by decide
  obtain ⟨H5, f1, f2, f3, f4, f5⟩ := hv.fz (P := Try.prog) hw hle hn
  have hvb : ∀ n, vc ≠ .osl bx 1 0 n := hv.not fun ys e => by rw [hbx] at e; cases e
  have hb5 := (f4 bx hvb).trans hbx
  have hub : ∀ n, u ≠ .osl bx 5 0 n := hu.not fun ys e => by rw [hbx] at e; cases e
  have hu5 : Grows 36 5 H H5 u (out.map Lin.cs) := hu.same (by omega) fun j hj hn => f4 j (hv.apart hu (by decide) hn)
  refine ⟨H5.put bx (.box 36 [iv x.rule, .p (.bool x.c.so), iv x.c.a, iv x.c.b, .dsl 1 (intE es)]), f1.trans (Gst.box hb5 (.cons (.refl _) (.cons (.refl _) (.cons (.refl _) (.cons (.refl _) (.cons f5 .nil)))))), ?_⟩
  have hiv := ivn (i := i) (by omega)
  simp (disch := first | omega | simp) [iv, hiv]
  refine Grows.app (t := 36) hw (hu5.same (by first | omega | (simp only [up_nx, put_nx, kill_nx]; done) | (simp only [up_nx, put_nx, kill_nx]; omega)) fun j hj ⟨n, hn⟩ => ?_) (by repeat (first | with_reducible assumption | with_reducible exact AH.le.refl _ | with_reducible apply AH.le.up | (with_reducible refine AH.le.put hw ?_ ?_; · first | omega | (simp only [up_nx, put_nx, kill_nx]; done) | (simp only [up_nx, put_nx, kill_nx]; omega)) | (with_reducible refine AH.le.kill hw ?_ ?_; · first | omega | (simp only [up_nx, put_nx, kill_nx]; done) | (simp only [up_nx, put_nx, kill_nx]; omega)))) (by first | omega | (simp only [up_nx, put_nx, kill_nx]; done) | (simp only [up_nx, put_nx, kill_nx]; omega)) (by first | omega | (simp only [up_nx, put_nx, kill_nx]; done) | (simp only [up_nx, put_nx, kill_nx]; omega)) (ys := [Lin.cs ⟨x.rule, x.c, es⟩]) ?_ (dt_lin [⟨x.rule, x.c, es⟩]) ?_ ?_ fun v' H' g2 l2 n2 k2 hfr => ?_
  · have : j ≠ bx := fun e => by subst e; exact hub n hn
    simp (disch := first | omega | simp) [put_get_ne, this]
  · simp [Lin.cs, iv, intE]
  · simp; omega
  · simp; omega
  · rw [q_add_i, hiv]
    refine hk v' H' (by rw [List.map_append]; exact g2) l2 (by rw [n2]; first | omega | (simp only [up_nx, put_nx, kill_nx]; done) | (simp only [up_nx, put_nx, kill_nx]; omega)) fun j o hj h1 h2 h3 h4 => ?_
    rw [k2 j (by omega) h2]
    simp (disch := first | omega | simp) [put_get_ne, h3]
    rw [f4 j h1]; exact hj
set_option maxHeartbeats 2000000 in
theorem c_needed {H : AH} {a m : Nat} {v : AV} {l : List Lin} (hbx : H.get a = some (.box 52 [v, .mp m])) (hgr : Grows 36 5 AH.nil H v (l.map Lin.cs)) (hr : ∀ (i : Nat) (x : Lin), l[i]? = some x → x.rule ≠ 1 → ∀ k ∈ x.src, 0 ≤ k ∧ k < (i : Int)) (hsl : ∀ x ∈ l, x.src.length ≤ 2)
    {last : Nat} (hlast : last < l.length) (hb : l.length < 900000) :
    Tri Try.prog 29 [.ptr a 0, iv last] H (fun r H' => H' = H ∧ r = .dsl 5 ((outL (theN l last) l (last + 1)).map Lin.cs)) := tri_wf fun hw => tri_arguer_needed (by
  have hmx : maxLen = 9223372036854775807 := by decide
  obtain ⟨r, xs, rfl, hrn, hrow, hat⟩ := hgr.at_ (by rw [List.length_map]; omega)
  rw [List.length_map] at hbx hgr hat
  unfold S_arguer_needed
  simp (disch := first | omega | simp) [iv, hbx, hlast, put_get_ne]
  refine ⟨by omega, by omega, ?_⟩
  have hN0 : Need l last (last + 1) (setN (fun _ => false) last) := ⟨setN_at _ _, fun i hi => Nat.le_of_eq (setN_one hi), fun i x hx hji hi => by have := setN_one hi; omega⟩
  refine loop_st (fun p : Nat × (Nat → Bool) => [iv ((p.1 : Int) - 1)]) (fun p H' => p.1 ≤ last + 1 ∧ p.2 = downN l last (last + 1 - p.1) ∧ Need l last p.1 p.2 ∧ H.le H' ∧ H.nx + 11 ≤ H'.nx ∧ H'.get (H.nx + 5) = some (.row 4 1 (needRow p.2 l.length))) (fun p => p.1) (last + 1, setN (fun _ => false) last) (by dsimp only; rw [show ((last + 1 : Nat) : Int) - 1 = (last : Int) by omega]; exact .refl (by first | omega | (simp only [up_nx, put_nx, kill_nx]; done) | (simp only [up_nx, put_nx, kill_nx]; omega))) ⟨Nat.le_refl _, by dsimp only; rw [Nat.sub_self]; rfl, hN0, (by repeat (first | with_reducible assumption | with_reducible exact AH.le.refl _ | with_reducible apply AH.le.up | (with_reducible refine AH.le.put hw ?_ ?_; · first | omega | (simp only [up_nx, put_nx, kill_nx]; done) | (simp only [up_nx, put_nx, kill_nx]; omega)) | (with_reducible refine AH.le.kill hw ?_ ?_; · first | omega | (simp only [up_nx, put_nx, kill_nx]; done) | (simp only [up_nx, put_nx, kill_nx]; omega)))), (by first | omega | (simp only [up_nx, put_nx, kill_nx]; done) | (simp only [up_nx, put_nx, kill_nx]; omega)), ?_⟩ ?_
  · rw [put_get]
    congr 2
    rw [← needRow_set, ← needRow_none]
    simp [bv]
  rintro ⟨j, N⟩ H1 hn1 ⟨hj, hNe, hN, hle, hn, hrw⟩ k hk
  dsimp only at hj hNe hN hrw hk
  have hb1 := hle _ _ hbx
  have hr1 := hle _ _ hrow
  cases j with
  | succ j =>
    have e1 : ((j + 1 : Nat) : Int) - 1 = (j : Int) := by omega
    have hjl : j < l.length := by omega
    obtain ⟨x, hx⟩ : ∃ x, l[j]? = some x := ⟨_, List.getElem?_eq_getElem hjl⟩
    have hxj : xs[j]? = some x.cs := by rw [hat j hjl, List.getElem?_map, hx]; rfl
    have hnj := needRow_at (N := N) hjl
    have hws : IntKind.i64.wrap ((j : Int) - 1) = (j : Int) - 1 := by rw [IntKind.wrap_i64]; omega
    dsimp only
    rw [e1]
    have next : ∀ N' H', N' = stepN l N j → Need l last j N' → H.le H' → H.nx + 11 ≤ H'.nx → H1.nx ≤ H'.nx → H'.get (H.nx + 5) = some (.row 4 1 (needRow N' l.length)) → k [iv ((j : Int) - 1)] H' := fun N' H' q0 q1 q2 q3 q4 q5 => hk (j, N') _ _ _ (.refl (Nat.le_trans hn1 q4)) ⟨by dsimp only; omega, by dsimp only; rw [q0, hNe, downN_next l last (by omega)], q1, q2, q3, q5⟩ (by dsimp only; omega)
    have down : ∀ N', Need l last (j + 1) N' → (N' j = true → x.rule ≠ 1 → ∀ k ∈ x.src, N' k.toNat = true) → Need l last j N' := fun N' q1 q2 => ⟨q1.top, q1.low, fun i y hy hji hi hr => by
      by_cases e : i = j
      · subst e; rw [hx] at hy; injection hy with hy; subst hy; exact q2 hi hr
      · exact q1.shut i y hy (by omega) hi hr⟩
    cases hNj : N j with
    | false =>
      rw [hNj] at hnj
      simp (disch := first | omega | simp) [iv, hrw, hnj, bv, hjl, hws]
      exact next N H1 (by unfold stepN; rw [hNj]; rfl) (down N hN fun h => by rw [hNj] at h; cases h) hle hn (Nat.le_refl _) hrw
    | true =>
      rw [hNj] at hnj
      by_cases hrule : x.rule = 1
      · simp (disch := first | omega | simp) [iv, hrw, hnj, bv, hjl, hb1, hr1, hxj, Lin.cs, hrule, hws]
        exact next N H1 (by unfold stepN; rw [hNj, hx]; simp [hrule]) (down N hN fun _ h => absurd hrule h) hle hn (Nat.le_refl _) hrw
      · have hsrc := hr j x hx hrule
        have hx2 := hsl x (List.mem_of_getElem? hx)
        simp (disch := first | omega | simp) [iv, hrw, hnj, bv, hjl, hb1, hr1, hxj, Lin.cs, hrule, hws]
        refine loop_st (fun p : Nat × (Nat → Bool) => [iv (p.1 : Int)]) (fun p H' => p.1 ≤ x.src.length ∧ p.2 = setAll N (x.src.take p.1) ∧ Need l last (j + 1) p.2 ∧ (∀ k ∈ x.src.take p.1, p.2 k.toNat = true) ∧ H.le H' ∧ H1.nx ≤ H'.nx ∧ H'.get (H.nx + 5) = some (.row 4 1 (needRow p.2 l.length))) (fun p => x.src.length - p.1) (0, N) (.refl (Nat.le_refl _)) ⟨Nat.zero_le _, rfl, hN, by simp, hle, Nat.le_refl _, hrw⟩ ?_
        rintro ⟨q, N2⟩ H2 hn2 ⟨hq, hN2e, hN2, hall, hle2, hn3, hrw2⟩ k2 hk2
        dsimp only at hq hN2e hN2 hall hrw2 hk2
        by_cases hql : q < x.src.length
        · obtain ⟨z, hz⟩ : ∃ z, x.src[q]? = some z := ⟨_, List.getElem?_eq_getElem hql⟩
          obtain ⟨hz0, hzj⟩ := hsrc z (List.mem_of_getElem? hz)
          obtain ⟨zn, rfl⟩ := Int.eq_ofNat_of_zero_le hz0
          have hznl : (zn : Int) < (l.length : Int) := by omega
          have hzat := needRow_at (N := N2) (n := l.length) (k := zn) (by omega)
          have hmap : (List.map (fun i => [AV.p (Value.int IntKind.i64 i)]) x.src)[q]? = some [.p (.int .i64 (zn : Int))] := by rw [List.getElem?_map, hz]; rfl
          generalize hS : List.map (fun i => [AV.p (Value.int IntKind.i64 i)]) x.src = src at hmap
          have hsl2 : src.length = x.src.length := by rw [← hS, List.length_map]
          have hqi := ivn (i := q) (by omega)
          have hmg : ∀ h, src[q]'h = [.p (.int .i64 (zn : Int))] := fun h => by have := hmap; rw [List.getElem?_eq_getElem h] at this; injection this
          simp (disch := first | omega | simp) [iv, hql, hsl2, hmg, hznl, hrw2, hzat, hqi]
          refine hk2 (q + 1, setN N2 zn) _ _ _ (.refl (by first | omega | (simp only [up_nx, put_nx, kill_nx]; done) | (simp only [up_nx, put_nx, kill_nx]; omega))) ⟨hql, by dsimp only; rw [hN2e, setAll_next hz]; rfl, hN2.set (by omega) (by omega), fun k hk => ?_, (by repeat (first | with_reducible assumption | with_reducible exact AH.le.refl _ | with_reducible apply AH.le.up | (with_reducible refine AH.le.put hw ?_ ?_; · first | omega | (simp only [up_nx, put_nx, kill_nx]; done) | (simp only [up_nx, put_nx, kill_nx]; omega)) | (with_reducible refine AH.le.kill hw ?_ ?_; · first | omega | (simp only [up_nx, put_nx, kill_nx]; done) | (simp only [up_nx, put_nx, kill_nx]; omega)))), (by first | omega | (simp only [up_nx, put_nx, kill_nx]; done) | (simp only [up_nx, put_nx, kill_nx]; omega)), ?_⟩ (by dsimp only; omega)
          · dsimp only at hk ⊢
            rw [List.take_add_one, hz] at hk
            rcases List.mem_append.1 hk with hk | hk
            · exact setN_up (hall k hk)
            · simp at hk; subst hk; exact setN_at _ _
          · dsimp only
            rw [put_get, ← needRow_set]
            rfl
        · simp (disch := first | omega | simp) [iv, hql, hws]
          refine next N2 H2 (by rw [hN2e, List.take_of_length_le (by omega)]; unfold stepN; rw [hNj, hx]; simp [hrule]) (down N2 hN2 fun _ _ k hk => hall k ?_) hle2 (by omega) hn3 hrw2
          rw [List.take_of_length_le (by omega)]; exact hk
  | zero =>
    have hw1 : IntKind.i64.wrap ((last : Int) + 1) = ((last + 1 : Nat) : Int) := ivn (by omega)
    simp (disch := first | omega | simp) [iv, hb1, hw1]
    refine ⟨by omega, by omega, ?_⟩
    have hnr : ∀ {H' : AH} {u : AV} {es : List (List AV)}, Grows 36 5 H H' u es → ∀ j t ys, H'.get j = some (.row t 1 ys) → ∀ n, u ≠ .osl j 5 0 n := fun g j t ys h => g.not fun xs e => by rw [h] at e; cases e
    refine loop_st (fun p : Nat × AV => [p.2, iv (p.1 : Int)]) (fun p H' => p.1 ≤ last + 1 ∧ Grows 36 5 H H' p.2 ((outL N l p.1).map Lin.cs) ∧ H.le H' ∧ H1.nx + 7 ≤ H'.nx ∧ H'.get (H.nx + 5) = some (.row 4 1 (needRow N l.length)) ∧ ∃ num : List Int, num.length = l.length ∧ H'.get (H1.nx + 5) = some (.row 3 1 (intE num)) ∧ ∀ k, k < p.1 → N k = true → num[k]? = some ((rankN N k : Nat) : Int)) (fun p => last + 1 - p.1) (0, .p (.slice none 0 0)) (.refl (by first | omega | (simp only [up_nx, put_nx, kill_nx]; done) | (simp only [up_nx, put_nx, kill_nx]; omega))) ⟨Nat.zero_le _, .nil _ _ _ _, (by repeat (first | with_reducible assumption | with_reducible exact AH.le.refl _ | with_reducible apply AH.le.up | (with_reducible refine AH.le.put hw ?_ ?_; · first | omega | (simp only [up_nx, put_nx, kill_nx]; done) | (simp only [up_nx, put_nx, kill_nx]; omega)) | (with_reducible refine AH.le.kill hw ?_ ?_; · first | omega | (simp only [up_nx, put_nx, kill_nx]; done) | (simp only [up_nx, put_nx, kill_nx]; omega)))), (by first | omega | (simp only [up_nx, put_nx, kill_nx]; done) | (simp only [up_nx, put_nx, kill_nx]; omega)), ?_, List.replicate l.length 0, by simp, ?_, fun k hk => absurd hk (Nat.not_lt_zero _)⟩ ?_
    · simp (disch := first | omega | simp) [put_get_ne, hrw]
    · rw [put_get]; simp [intE, iv]
    rintro ⟨i, u⟩ H2 hn2 ⟨hi, hg, hle2, hn3, hrw2, num, hnl, hnum, hrk⟩ k2 hk2
    dsimp only at hi hg hrk hk2
    by_cases hil : i < last + 1
    · have hnl2 : i < l.length := by omega
      obtain ⟨x, hx⟩ : ∃ x, l[i]? = some x := ⟨_, List.getElem?_eq_getElem hnl2⟩
      have hxi : xs[i]? = some x.cs := by rw [hat i hnl2, List.getElem?_map, hx]; rfl
      have hni := needRow_at (N := N) hnl2
      have hiv := ivn (i := i) (by omega)
      have hic : (i : Int) < ((last + 1 : Nat) : Int) := by omega
      push_cast at hic
      cases hNi : N i with
      | false =>
        rw [hNi] at hni
        simp (disch := first | omega | simp) [iv, hic, hrw2, hni, bv, hnl2, hiv]
        exact hk2 (i + 1, u) _ _ _ (.refl (by omega)) ⟨hil, by rw [outL_no hNi]; exact hg, hle2, hn3, hrw2, num, hnl, hnum, fun k h1 h2 => hrk k (by dsimp only at h1; rcases Nat.lt_succ_iff_lt_or_eq.1 h1 with h | h; exact h; subst h; rw [hNi] at h2; cases h2) h2⟩ (by dsimp only; omega)
      | true =>
        rw [hNi] at hni
        have hb2 := hle2 _ _ hbx
        have hr2 := hle2 _ _ hrow
        have hal := (hw _ _ hbx).1
        have hane : a ≠ H1.nx + 5 := by omega
        have hrne : r ≠ H1.nx + 5 := by omega
        have hlo : (outL N l i).length = rankN N i := outL_len N l i (by omega)
        have hgl : ∀ (k : AV → AH → Prop) (H' : AH), Pu Try.prog .len [u] k H' = k (.p (.int .i64 ((rankN N i : Nat) : Int))) H' := fun k H' => by rw [hg.len, List.length_map, hlo]
        simp (disch := first | omega | simp) [iv, hic, hrw2, hni, bv, hnl2, hgl, hnum, intE, hnl, put_get_ne, hb2, hr2, hxi, Lin.cs]
        have hx2 := hsl x (List.mem_of_getElem? hx)
        refine ca_of (by kernel_rfl) (c_Clone x.src (by omega)) ?_
        rintro vc H3 ⟨g3, l3, n3⟩
        have n3' : H2.nx + 20 ≤ H3.nx := by simp only [up_nx, put_nx] at n3; omega
        have c3 : H3.get (H2.nx + 13) = some (.box 36 x.cs) := l3 _ _ (by simp (disch := first | omega | simp) [put_get_ne, Lin.cs, iv])
        have num3 : H3.get (H1.nx + 5) = some (.row 3 1 (intE (num.set i (rankN N i : Nat)))) := l3 _ _ (by simp (disch := first | omega | simp) [put_get_ne, intE, iv])
        have rw3 : H3.get (H.nx + 5) = some (.row 4 1 (needRow N l.length)) := l3 _ _ (by simp (disch := first | omega | simp) [put_get_ne, hrw2])
        have le3 : H.le H3 := AH.le.trans (by repeat (first | with_reducible assumption | with_reducible exact AH.le.refl _ | with_reducible apply AH.le.up | (with_reducible refine AH.le.put hw ?_ ?_; · first | omega | (simp only [up_nx, put_nx, kill_nx]; done) | (simp only [up_nx, put_nx, kill_nx]; omega)) | (with_reducible refine AH.le.kill hw ?_ ?_; · first | omega | (simp only [up_nx, put_nx, kill_nx]; done) | (simp only [up_nx, put_nx, kill_nx]; omega)))) l3
        obtain ⟨pv, pc⟩ := g3.part
        have g3' : Grows 3 1 H H3 vc (intE x.src) := g3.base (by simp only [up_nx, put_nx]; omega)
        have ge3 : ∀ n j, vc = .osl j 1 0 n → H2.nx + 20 ≤ j := fun n j e => by have := g3.ge e; simp only [up_nx, put_nx] at this; omega
        have gu3 : Grows 36 5 H H3 u ((outL N l i).map Lin.cs) := hg.up_ (by omega) fun j o hj ⟨n, hn⟩ ho => l3 _ _ (by
          have hjne : j ≠ H1.nx + 5 := fun e => by subst e; exact hnr hg _ _ _ hnum n hn
          simp (disch := first | omega | simp) [put_get_ne, hjne]; exact ho)
        have fin : ∀ (es : List Int) (H4 : AH), Grows 3 1 H H4 vc (intE es) → Grows 36 5 H H4 u ((outL N l i).map Lin.cs) → mapS N x = ⟨x.rule, x.c, es⟩ → H.le H4 → H3.nx ≤ H4.nx → H4.get (H2.nx + 13) = some (.box 36 [iv x.rule, .p (.bool x.c.so), iv x.c.a, iv x.c.b, vc]) → H4.get (H1.nx + 5) = some (.row 3 1 (intE (num.set i (rankN N i : Nat)))) → H4.get (H.nx + 5) = some (.row 4 1 (needRow N l.length)) → ∀ v' H', Grows 36 5 H H' v' ((outL N l i ++ [Lin.mk x.rule x.c es]).map Lin.cs) → H.le H' → H4.nx ≤ H'.nx → (∀ j o, H4.get j = some o → (∀ n, vc ≠ .osl j 1 0 n) → (∀ n, u ≠ .osl j 5 0 n) → j ≠ H2.nx + 13 → j < H4.nx → H'.get j = some o) → k2 [v', iv ((i + 1 : Nat) : Int)] H' := by
          intro es H4 q1 q2 q3 q4 q5 q6 q7 q8 v' H' p1 p2 p3 p4
          refine hk2 (i + 1, v') _ _ _ (.refl (by first | omega | (simp only [up_nx, put_nx, kill_nx]; done) | (simp only [up_nx, put_nx, kill_nx]; omega))) ⟨hil, ?_, p2, by omega, p4 _ _ q8 (fun n e => by have := ge3 _ _ e; omega) (hnr q2 _ _ _ q8) (by omega) (by omega), num.set i (rankN N i : Nat), by rw [List.length_set]; exact hnl, p4 _ _ q7 (fun n e => by have := ge3 _ _ e; omega) (hnr q2 _ _ _ q7) (by omega) (by omega), fun k h1 h2 => ?_⟩ (by dsimp only; omega)
          · dsimp only
            rw [outL_yes hnl2 hNi, show l[i]'hnl2 = x by have := hx; rw [List.getElem?_eq_getElem hnl2] at this; injection this, q3]; exact p1
          · dsimp only at h1
            rw [List.getElem?_set]
            by_cases e : i = k
            · subst e; rw [if_pos rfl, if_pos (by omega)]
            · rw [if_neg e]; exact hrk k (by omega) h2
        have hu13 : ∀ n, u ≠ .osl (H2.nx + 13) 5 0 n := gu3.not fun ys e => by rw [c3] at e; cases e
        have hv13 : ∀ n, vc ≠ .osl (H2.nx + 13) 1 0 n := g3'.not fun ys e => by rw [c3] at e; cases e
        obtain ⟨H4, hH4⟩ : ∃ H4, H4 = H3.put (H2.nx + 13) (.box 36 [.p (.int .i64 x.rule), .p (.bool x.c.so), .p (.int .i64 x.c.a), .p (.int .i64 x.c.b), vc]) := ⟨_, rfl⟩
        have n4 : H4.nx = H3.nx := by rw [hH4]; rfl
        have k4 : ∀ j, j ≠ H2.nx + 13 → H4.get j = H3.get j := fun j hj => by rw [hH4]; exact put_get_ne _ _ _ hj
        have c4 : H4.get (H2.nx + 13) = some (.box 36 [iv x.rule, .p (.bool x.c.so), iv x.c.a, iv x.c.b, vc]) := by rw [hH4, put_get]; rfl
        have g4 : Grows 3 1 H H4 vc (intE x.src) := g3'.same (by omega) fun j hj ⟨n, hn⟩ => k4 j fun e => hv13 n (by rw [← e]; exact hn)
        have gu4 : Grows 36 5 H H4 u ((outL N l i).map Lin.cs) := gu3.same (by omega) fun j hj ⟨n, hn⟩ => k4 j fun e => hu13 n (by rw [← e]; exact hn)
        have num4 : H4.get (H1.nx + 5) = some (.row 3 1 (intE (num.set i (rankN N i : Nat)))) := (k4 _ (by omega)).trans num3
        have rw4 : H4.get (H.nx + 5) = some (.row 4 1 (needRow N l.length)) := (k4 _ (by omega)).trans rw3
        have le4 : H.le H4 := by rw [hH4]; exact (by repeat (first | with_reducible assumption | with_reducible exact AH.le.refl _ | with_reducible apply AH.le.up | (with_reducible refine AH.le.put hw ?_ ?_; · first | omega | (simp only [up_nx, put_nx, kill_nx]; done) | (simp only [up_nx, put_nx, kill_nx]; omega)) | (with_reducible refine AH.le.kill hw ?_ ?_; · first | omega | (simp only [up_nx, put_nx, kill_nx]; done) | (simp only [up_nx, put_nx, kill_nx]; omega))))
        simp (disch := first | omega | simp) [c3, Lin.cs, iv, pv, pc]
        rw [← hH4]
        refine ⟨fun hrule => ?_, fun hrule => ?_⟩
        · have hil2 : (intE x.src).length = x.src.length := by simp [intE]
          have hsrc := hr i x hx hrule
          simp (disch := first | omega | simp) [g3'.len, hil2]
          refine loop_st (fun p : Nat => [iv (p : Int)]) (fun p H' => p ≤ x.src.length ∧ Grows 3 1 H H' vc (intE (mixL N x.src p)) ∧ Grows 36 5 H H' u ((outL N l i).map Lin.cs) ∧ H.le H' ∧ H3.nx ≤ H'.nx ∧ H'.get (H2.nx + 13) = some (.box 36 [iv x.rule, .p (.bool x.c.so), iv x.c.a, iv x.c.b, vc]) ∧ H'.get (H1.nx + 5) = some (.row 3 1 (intE (num.set i (rankN N i : Nat)))) ∧ H'.get (H.nx + 5) = some (.row 4 1 (needRow N l.length))) (fun p => x.src.length - p) 0 (.refl (Nat.le_refl _)) ⟨Nat.zero_le _, by simpa [mixL] using g4, gu4, le4, by omega, c4, num4, rw4⟩ ?_
          rintro q H5 hn5 ⟨hq, gv5, gu5, le5, n5, c5, num5, rw5⟩ k5 hk5
          by_cases hql : q < x.src.length
          · obtain ⟨z, hz⟩ : ∃ z, x.src[q]? = some z := ⟨_, List.getElem?_eq_getElem hql⟩
            obtain ⟨hz0, hzj⟩ := hsrc z (List.mem_of_getElem? hz)
            obtain ⟨zn, rfl⟩ := Int.eq_ofNat_of_zero_le hz0
            have hNz : N zn = true := by have := hN.shut i x hx (Nat.zero_le _) hNi hrule zn (List.mem_of_getElem? hz); simpa using this
            have hrz := hrk zn (by omega) hNz
            have hmz := mixL_at (N := N) hz
            have hms := mixL_set (N := N) hz
            have hml := mixL_len N x.src q
            have hqi := ivn (i := q) (by omega)
            have hzi : zn ≠ i := by omega
            obtain ⟨r5, x5, rfl, h5l, h5g, h5at⟩ := gv5.at_ (by simp [intE, hml]; omega)
            have hx5 : x5[q]? = some [.p (.int .i64 (zn : Int))] := by rw [h5at q (by simp [intE, hml]; omega)]; simp [intE, hmz, iv]
            have hnr5 : (intE (num.set i (rankN N i : Nat)))[zn]? = some [.p (.int .i64 ((rankN N zn : Nat) : Int))] := by simp [intE, List.getElem?_map, List.getElem?_set, hzi.symm, hrz, iv]
            have hnrl : (intE (num.set i (rankN N i : Nat))).length = l.length := by simp [intE, hnl]
            have hil5 : (intE (mixL N x.src q)).length = x.src.length := by simp [intE, hml]
            have hznl : (zn : Int) < (l.length : Int) := by omega
            have hge5 := ge3 _ _ rfl
            have h5c : ¬ r5 = H2.nx + 13 := fun e => by subst e; rw [h5g] at c5; cases c5
            have hxlt := (List.getElem?_eq_some_iff.1 hx5).1
            generalize intE (num.set i (rankN N i : Nat)) = nr at *
            have hxg : ∀ h, x5[q]'h = [.p (.int .i64 (zn : Int))] := fun h => (List.getElem?_eq_some_iff.1 hx5).2
            have hng : ∀ h, nr[zn]'h = [.p (.int .i64 ((rankN N zn : Nat) : Int))] := fun h => (List.getElem?_eq_some_iff.1 hnr5).2
            have hu5 := gu5.apart gv5 (by decide) ⟨_, rfl⟩
            have gvu : Grows 3 1 H (H5.up 13) (.osl r5 1 0 (intE (mixL N x.src q)).length) (intE (mixL N x.src q)) := gv5.up_ (by first | omega | (simp only [up_nx, put_nx, kill_nx]; done) | (simp only [up_nx, put_nx, kill_nx]; omega)) fun j o _ _ h => h
            have gvp := gvu.put h5g (q := q) (e := [iv ((rankN N zn : Nat) : Int)]) (by intro a ha; simp at ha; subst ha; exact Dt.p _)
            simp (disch := first | omega | simp) [iv, hql, c5, h5g, hxg, num5, hng, hqi, hil5, hznl, hxlt, hnrl]
            rw [Int.toNat_natCast] at hms
            refine hk5 (q + 1) _ _ _ (.refl (by first | omega | (simp only [up_nx, put_nx, kill_nx]; done) | (simp only [up_nx, put_nx, kill_nx]; omega))) ⟨hql, ?_, gu5.up_ (by first | omega | (simp only [up_nx, put_nx, kill_nx]; done) | (simp only [up_nx, put_nx, kill_nx]; omega)) (fun j o hj ⟨n, hn⟩ ho => ?_), (by repeat (first | with_reducible assumption | with_reducible exact AH.le.refl _ | with_reducible apply AH.le.up | (with_reducible refine AH.le.put hw ?_ ?_; · first | omega | (simp only [up_nx, put_nx, kill_nx]; done) | (simp only [up_nx, put_nx, kill_nx]; omega)) | (with_reducible refine AH.le.kill hw ?_ ?_; · first | omega | (simp only [up_nx, put_nx, kill_nx]; done) | (simp only [up_nx, put_nx, kill_nx]; omega)))), (by first | omega | (simp only [up_nx, put_nx, kill_nx]; done) | (simp only [up_nx, put_nx, kill_nx]; omega)), ?_, ?_, ?_⟩ (by omega)
            · rw [← hms, ← intE_set]; exact gvp
            · rw [put_get_ne _ _ _ (fun e => by subst e; exact hu5 n hn)]; exact ho
            · rw [put_get_ne _ _ _ (fun e => h5c e.symm)]; exact c5
            · rw [put_get_ne _ _ _ (by omega)]; exact num5
            · rw [put_get_ne _ _ _ (by omega)]; exact rw5
          · have hqe : q = x.src.length := by omega
            subst hqe
            rw [mixL_all] at gv5
            simp (disch := first | omega | simp) [iv]
            refine needed_fin (x := x) hw le5 (by first | omega | (simp only [up_nx, put_nx, kill_nx]; done) | (simp only [up_nx, put_nx, kill_nx]; omega)) gu5 gv5 c5 (by first | omega | (simp only [up_nx, put_nx, kill_nx]; done) | (simp only [up_nx, put_nx, kill_nx]; omega)) (by first | omega | (simp only [up_nx, put_nx, kill_nx]; done) | (simp only [up_nx, put_nx, kill_nx]; omega)) (by rw [hlo]; have := rank_le N i; omega) (by omega) (fin _ H5 gv5 gu5 ?_ le5 n5 c5 num5 rw5)
            unfold mapS; rw [if_neg hrule]
        · refine needed_fin (x := x) hw le4 (by first | omega | (simp only [up_nx, put_nx, kill_nx]; done) | (simp only [up_nx, put_nx, kill_nx]; omega)) gu4 g4 c4 (by first | omega | (simp only [up_nx, put_nx, kill_nx]; done) | (simp only [up_nx, put_nx, kill_nx]; omega)) (by first | omega | (simp only [up_nx, put_nx, kill_nx]; done) | (simp only [up_nx, put_nx, kill_nx]; omega)) (by rw [hlo]; have := rank_le N i; omega) (by omega) (fin x.src H4 g4 gu4 ?_ le4 (by omega) c4 num4 rw4)
          unfold mapS; rw [if_pos hrule]
    · have hie : i = last + 1 := by omega
      subst hie
      simp (disch := first | omega | simp) [iv]
      exact hg.rt hw hle2 (by omega) ⟨rfl, by rw [hNe]; rfl⟩)
end Go.Proofs.Ytcmnjoepadjioaa

/- The arguer's lines, plainly: each is right, no claim stands twice; all has come of all. No walk in sight. -/
namespace Go.Proofs.Ytcmnjoepadjioaa
open Go.RowKit Go.Maps
def cl (l : List Lin) : List Clm := l.map (·.c)
theorem idxC_some {l : List Lin} {c : Clm} {i : Nat} (h : idxC l c = some i) : ∃ x, l[i]? = some x ∧ x.c = c := by
  unfold idxC at h
  rw [List.findIdx?_eq_some_iff_getElem] at h
  obtain ⟨h1, h2, _⟩ := h
  exact ⟨l[i], List.getElem?_eq_getElem h1, by simpa using h2⟩
theorem idxC_none {l : List Lin} {c : Clm} : idxC l c = none ↔ c ∉ cl l := by
  unfold idxC cl
  rw [List.findIdx?_eq_none_iff]
  simp
theorem idxC_mem {l : List Lin} {c : Clm} (h : c ∈ cl l) : ∃ i, idxC l c = some i := by
  cases hi : idxC l c with
  | none => exact absurd h (idxC_none.1 hi)
  | some i => exact ⟨i, rfl⟩
/-- the one goes on as the other -/
def pre (l l' : List Lin) : Prop := ∃ t, l' = l ++ t
theorem pre.refl (l : List Lin) : pre l l := ⟨[], by simp⟩
theorem pre.trans {a b c : List Lin} (h : pre a b) (k : pre b c) : pre a c := by
  obtain ⟨t, rfl⟩ := h; obtain ⟨u, rfl⟩ := k; exact ⟨t ++ u, by simp⟩
theorem pre.at_ {l l' : List Lin} (h : pre l l') {i : Nat} {x : Lin} (hx : l[i]? = some x) : l'[i]? = some x := by
  obtain ⟨t, rfl⟩ := h
  rw [List.getElem?_append_left (List.getElem?_eq_some_iff.1 hx).1]; exact hx
theorem pre.mem {l l' : List Lin} (h : pre l l') {c : Clm} (hc : c ∈ cl l) : c ∈ cl l' := by
  obtain ⟨t, rfl⟩ := h
  unfold cl at hc ⊢
  rw [List.map_append]; exact List.mem_append_left _ hc
theorem pre.len {l l' : List Lin} (h : pre l l') : l.length ≤ l'.length := by
  obtain ⟨t, rfl⟩ := h
  rw [List.length_append]; omega
theorem pre.back {l l' : List Lin} (h : pre l l') {i : Nat} {x : Lin} (hi : i < l.length) (hx : l'[i]? = some x) : l[i]? = some x := by
  obtain ⟨t, rfl⟩ := h
  rwa [List.getElem?_append_left hi] at hx
theorem putL_pre (l : List Lin) (x : Lin) : pre l (putL l x) := by
  cases h : idxC l x.c with
  | none => rw [putL_new h]; exact ⟨_, rfl⟩
  | some i => rw [putL_old h]; exact .refl l
theorem putL_mem (l : List Lin) (x : Lin) : x.c ∈ cl (putL l x) := by
  cases h : idxC l x.c with
  | none => rw [putL_new h]; simp [cl]
  | some i =>
    rw [putL_old h]
    obtain ⟨y, hy, e⟩ := idxC_some h
    rw [← e]
    exact List.mem_map.2 ⟨y, List.mem_of_getElem? hy, rfl⟩
theorem pickC_append {l t : List Clm} {n : Nat} (hn : n ≤ l.length) : ∀ src, pickC (l ++ t) n src = pickC l n src
  | [] => rfl
  | k :: r => by
    rw [pickC, pickC]
    by_cases h : 0 ≤ k ∧ k < (n : Int)
    · rw [if_pos h, if_pos h, pickC_append hn r, List.getElem?_append_left (by omega)]
    · rw [if_neg h, if_neg h]
structure LI (p : List Clm) (l : List Lin) : Prop where
  right : allRight p l
  ok : ∀ x ∈ l, x.c.ok
  nd : (cl l).Nodup
  src : ∀ x ∈ l, x.src.length ≤ 2
theorem LI.nil (p : List Clm) : LI p [] := ⟨fun n x h => by simp at h, by simp, by simp [cl], by simp⟩
theorem right_append {p : List Clm} {l t : List Lin} {n : Nat} {x : Lin} (hn : n ≤ l.length) : rightB p ((l ++ t).map (·.c)) n x = rightB p (l.map (·.c)) n x := by
  unfold rightB
  rw [List.map_append, pickC_append (by rw [List.length_map]; exact hn)]
theorem LI.put {p : List Clm} {l : List Lin} (h : LI p l) {x : Lin} (hc : x.c.ok) (hs : x.src.length ≤ 2) (hr : rightB p (l.map (·.c)) l.length x = true) : LI p (putL l x) := by
  cases hi : idxC l x.c with
  | some i => rw [putL_old hi]; exact h
  | none =>
    rw [putL_new hi]
    refine ⟨fun n y hy => ?_, fun y hy => ?_, ?_, fun y hy => ?_⟩
    · by_cases hn : n < l.length
      · rw [List.getElem?_append_left hn] at hy
        rw [right_append (by omega)]; exact h.right n y hy
      · rw [List.getElem?_append_right (by omega)] at hy
        have h0 : n - l.length = 0 := by have := (List.getElem?_eq_some_iff.1 hy).1; simp at this; omega
        rw [h0] at hy
        simp at hy; subst hy
        rw [show n = l.length by omega, right_append (Nat.le_refl _)]; exact hr
    · rcases List.mem_append.1 hy with hy | hy
      · exact h.ok y hy
      · simp at hy; subst hy; exact hc
    · have := idxC_none.1 hi
      unfold cl at this ⊢
      rw [List.map_append]
      exact List.nodup_append.2 ⟨h.nd, by simp, fun a ha b hb e => by simp at hb; subst hb; subst e; exact this ha⟩
    · rcases List.mem_append.1 hy with hy | hy
      · exact h.src y hy
      · simp at hy; subst hy; exact hs
theorem nat_bound : ∀ (n : Nat) (l : List Nat), l.Nodup → (∀ x ∈ l, x < n) → l.length ≤ n
  | 0, l, _, h => by
    cases l with
    | nil => simp
    | cons a r => exact absurd (h a (by simp)) (Nat.not_lt_zero _)
  | n + 1, l, hd, h => by
    have ih := nat_bound n (l.erase n) (hd.erase n) (fun x hx => by
      have := (List.Nodup.mem_erase_iff hd).1 hx
      have := h x this.2
      omega)
    have := List.length_erase (a := n) (l := l)
    split at this <;> omega
def litN (x : Int) : Nat := if x < 0 then (x + 6).toNat else (x + 5).toNat
def clmN (c : Clm) : Nat := (if c.so then 144 else 0) + litN c.a * 12 + litN c.b
theorem litN_lt {x : Int} (h : litOk x) : litN x < 12 := by unfold litOk at h; unfold litN; split <;> omega
theorem litN_inj {x y : Int} (h : litOk x) (k : litOk y) (e : litN x = litN y) : x = y := by
  unfold litOk at h k; unfold litN at e
  split at e <;> split at e <;> omega
theorem clmN_lt {c : Clm} (h : c.ok) : clmN c < 288 := by
  have h1 := litN_lt h.1; have h2 := litN_lt h.2
  unfold clmN; split <;> omega
theorem clmN_inj {c d : Clm} (h : c.ok) (k : d.ok) (e : clmN c = clmN d) : c = d := by
  have h1 := litN_lt h.1; have h2 := litN_lt h.2; have k1 := litN_lt k.1; have k2 := litN_lt k.2
  unfold clmN at e
  refine clm_ext ?_ (litN_inj h.1 k.1 ?_) (litN_inj h.2 k.2 ?_)
  · cases hc : c.so <;> cases hd : d.so <;> simp [hc, hd] at e <;> first | rfl | omega
  · split at e <;> split at e <;> omega
  · split at e <;> split at e <;> omega
theorem LI.len {p : List Clm} {l : List Lin} (h : LI p l) : l.length ≤ 288 := by
  have hok : ∀ c ∈ cl l, c.ok := fun c hc => by obtain ⟨x, hx, rfl⟩ := List.mem_map.1 hc; exact h.ok x hx
  have := nat_bound 288 ((cl l).map clmN) (by
    rw [List.Nodup, List.pairwise_map]
    exact List.Pairwise.imp_of_mem (fun {a b} ha hb hne e => hne (clmN_inj (hok a ha) (hok b hb) e)) h.nd) (fun x hx => by
    obtain ⟨c, hc, rfl⟩ := List.mem_map.1 hx
    exact clmN_lt (hok c hc))
  simpa [cl] using this
def oneC (l : List Lin) (c : Clm) : Prop :=
  (c.so = true → (⟨true, c.b, c.a⟩ : Clm) ∈ cl l ∧ (⟨true, c.a, c.a⟩ : Clm) ∈ cl l) ∧ (c.so = false → (⟨false, -c.b, -c.a⟩ : Clm) ∈ cl l ∧ (c.b = -c.a → ∀ y, litOk y → (⟨false, c.a, y⟩ : Clm) ∈ cl l))
def twoC (l : List Lin) (c d : Clm) : Prop := d.so = false → c.b = d.a → (⟨c.so, c.a, d.b⟩ : Clm) ∈ cl l
theorem oneC.pre {l l' : List Lin} (h : pre l l') {c : Clm} (k : oneC l c) : oneC l' c :=
  ⟨fun e => ⟨h.mem (k.1 e).1, h.mem (k.1 e).2⟩, fun e => ⟨h.mem (k.2 e).1, fun e2 y hy => h.mem ((k.2 e).2 e2 y hy)⟩⟩
theorem twoC.pre {l l' : List Lin} (h : pre l l') {c d : Clm} (k : twoC l c d) : twoC l' c d := fun e1 e2 => h.mem (k e1 e2)
theorem pick_one {l : List Clm} {n i : Nat} {c : Clm} (h : l[i]? = some c) (hi : i < n) : pickC l n [(i : Int)] = some [c] := by
  rw [pickC, if_pos ⟨by omega, by omega⟩, Int.toNat_natCast, h]; rfl
theorem pick_two {l : List Clm} {n i k : Nat} {c d : Clm} (h : l[i]? = some c) (hi : i < n) (h2 : l[k]? = some d) (hk : k < n) : pickC l n [(i : Int), (k : Int)] = some [c, d] := by
  rw [pickC, if_pos ⟨by omega, by omega⟩, Int.toNat_natCast, h, pick_one h2 hk]
theorem right_one {p : List Clm} {l : List Lin} {i : Nat} {x y : Lin} (hx : l[i]? = some x) (hs : y.src = [(i : Int)]) (h1 : y.rule ≠ 1) (hr : ruleB y.rule y.c [x.c] = true) : rightB p (l.map (·.c)) l.length y = true := by
  have hi := (List.getElem?_eq_some_iff.1 hx).1
  unfold rightB
  rw [if_neg h1, hs, pick_one (c := x.c) (by rw [List.getElem?_map, hx]; rfl) hi]; exact hr
theorem right_two {p : List Clm} {l : List Lin} {i k : Nat} {x y z : Lin} (hx : l[i]? = some x) (hz : l[k]? = some z) (hs : y.src = [(i : Int), (k : Int)]) (h1 : y.rule ≠ 1) (hr : ruleB y.rule y.c [x.c, z.c] = true) : rightB p (l.map (·.c)) l.length y = true := by
  have hi := (List.getElem?_eq_some_iff.1 hx).1
  have hk := (List.getElem?_eq_some_iff.1 hz).1
  unfold rightB
  rw [if_neg h1, hs, pick_two (c := x.c) (d := z.c) (by rw [List.getElem?_map, hx]; rfl) hi (by rw [List.getElem?_map, hz]; rfl) hk]; exact hr
theorem litOk_nouns {y : Int} : y ∈ nouns ↔ litOk y := by
  constructor
  · intro h; simp [nouns] at h; rcases h with rfl | rfl | rfl | rfl | rfl | rfl | rfl | rfl | rfl | rfl | rfl | rfl <;> decide
  · intro h; unfold litOk at h; simp [nouns]; omega
theorem LI.void {p : List Clm} {i : Nat} {x : Lin} (hok : x.c.ok) (hso : x.c.so = false) (hb : x.c.b = -x.c.a) : ∀ (ns : List Int) (l : List Lin), LI p l → l[i]? = some x → (∀ n ∈ ns, litOk n) →
    LI p (voidL x.c i l ns) ∧ pre l (voidL x.c i l ns) ∧ ∀ n ∈ ns, (⟨false, x.c.a, n⟩ : Clm) ∈ cl (voidL x.c i l ns)
  | [], l, h, _, _ => ⟨h, .refl l, by simp⟩
  | n :: r, l, h, hx, hn => by
    have h1 := h.put (x := ⟨5, ⟨false, x.c.a, n⟩, [(i : Int)]⟩) ⟨hok.1, hn n (by simp)⟩ (by simp) (right_one hx rfl (by show (5 : Int) ≠ 1; decide) (by simp [ruleB, hso, hb]))
    have p1 := putL_pre l ⟨5, ⟨false, x.c.a, n⟩, [(i : Int)]⟩
    obtain ⟨h2, p2, q⟩ := LI.void hok hso hb r _ h1 (p1.at_ hx) (fun n hn' => hn n (by simp [hn']))
    refine ⟨h2, p1.trans p2, fun m hm => ?_⟩
    rcases List.mem_cons.1 hm with rfl | hm
    · exact p2.mem (putL_mem l ⟨5, ⟨false, x.c.a, m⟩, [(i : Int)]⟩)
    · exact q m hm
theorem LI.one {p : List Clm} {l : List Lin} (h : LI p l) {i : Nat} {x : Lin} (hx : l[i]? = some x) : LI p (oneL l x.c i) ∧ pre l (oneL l x.c i) ∧ oneC (oneL l x.c i) x.c := by
  have hok := h.ok x (List.mem_of_getElem? hx)
  unfold oneL
  cases hso : x.c.so with
  | true =>
    rw [if_pos rfl]
    have h1 := h.put (x := ⟨7, ⟨true, x.c.b, x.c.a⟩, [(i : Int)]⟩) ⟨hok.2, hok.1⟩ (by simp) (right_one hx rfl (by show (7 : Int) ≠ 1; decide) (by simp [ruleB, hso]))
    have p1 := putL_pre l ⟨7, ⟨true, x.c.b, x.c.a⟩, [(i : Int)]⟩
    have h2 := h1.put (x := ⟨8, ⟨true, x.c.a, x.c.a⟩, [(i : Int)]⟩) ⟨hok.1, hok.1⟩ (by simp) (right_one (p1.at_ hx) rfl (by show (8 : Int) ≠ 1; decide) (by simp [ruleB, hso]))
    have p2 := putL_pre (putL l ⟨7, ⟨true, x.c.b, x.c.a⟩, [(i : Int)]⟩) ⟨8, ⟨true, x.c.a, x.c.a⟩, [(i : Int)]⟩
    exact ⟨h2, p1.trans p2, fun _ => ⟨p2.mem (putL_mem l ⟨7, ⟨true, x.c.b, x.c.a⟩, [(i : Int)]⟩), putL_mem _ ⟨8, ⟨true, x.c.a, x.c.a⟩, [(i : Int)]⟩⟩, fun e => by rw [hso] at e; cases e⟩
  | false =>
    rw [if_neg (by decide)]
    have h1 := h.put (x := ⟨4, ⟨false, -x.c.b, -x.c.a⟩, [(i : Int)]⟩) ⟨lit_neg hok.2, lit_neg hok.1⟩ (by simp) (right_one hx rfl (by show (4 : Int) ≠ 1; decide) (by simp [ruleB, hso]))
    have p1 := putL_pre l ⟨4, ⟨false, -x.c.b, -x.c.a⟩, [(i : Int)]⟩
    have m1 := putL_mem l ⟨4, ⟨false, -x.c.b, -x.c.a⟩, [(i : Int)]⟩
    by_cases hb : x.c.b = -x.c.a
    · rw [if_pos hb]
      obtain ⟨h2, p2, q⟩ := LI.void hok hso hb nouns _ h1 (p1.at_ hx) (fun n hn => litOk_nouns.1 hn)
      exact ⟨h2, p1.trans p2, ⟨fun e => (by rw [hso] at e; cases e), fun _ => ⟨p2.mem m1, fun _ y hy => q y (litOk_nouns.2 hy)⟩⟩⟩
    · rw [if_neg hb]
      exact ⟨h1, p1, ⟨fun e => (by rw [hso] at e; cases e), fun _ => ⟨m1, fun e => absurd e hb⟩⟩⟩
theorem LI.two {p : List Clm} {l : List Lin} (h : LI p l) {i k : Nat} {x y : Lin} (hx : l[i]? = some x) (hy : l[k]? = some y) : LI p (twoL l x.c y.c i k) ∧ pre l (twoL l x.c y.c i k) ∧ twoC (twoL l x.c y.c i k) x.c y.c := by
  have hok := h.ok x (List.mem_of_getElem? hx)
  have hok2 := h.ok y (List.mem_of_getElem? hy)
  unfold twoL
  cases hso : y.c.so with
  | true => exact ⟨by simpa using h, by simpa using pre.refl l, fun e => by rw [hso] at e; cases e⟩
  | false =>
    rw [if_neg (by decide)]
    by_cases hb : x.c.b = y.c.a
    · rw [if_pos hb]
      refine ⟨h.put ⟨hok.1, hok2.2⟩ (by simp) (right_two hx hy rfl (by show (if x.c.so then (9 : Int) else 3) ≠ 1; split <;> decide) ?_), putL_pre _ _, fun _ _ => putL_mem l ⟨_, ⟨x.c.so, x.c.a, y.c.b⟩, _⟩⟩
      cases hxs : x.c.so <;> simp [ruleB, hso, hxs, hb]
    · rw [if_neg hb]
      exact ⟨h, .refl l, fun _ e => absurd e hb⟩
def DoneL (l : List Lin) (d : Nat) : Prop := ∀ (i : Nat) (x : Lin), i < d → l[i]? = some x → oneC l x.c ∧ ∀ (j : Nat) (y : Lin), j < d → l[j]? = some y → twoC l x.c y.c
theorem DoneL.pre {l l' : List Lin} {d : Nat} (h : DoneL l d) (k : pre l l') (hd : d ≤ l.length) : DoneL l' d := fun i x hi hx => by
  obtain ⟨q1, q2⟩ := h i x hi (k.back (by omega) hx)
  exact ⟨q1.pre k, fun j y hj hy => (q2 j y hj (k.back (by omega) hy)).pre k⟩
def MidL (l : List Lin) (d k : Nat) : Prop := ∀ x, l[d]? = some x → oneC l x.c ∧ ∀ (j : Nat) (y : Lin), j < k → l[j]? = some y → twoC l x.c y.c ∧ twoC l y.c x.c
theorem MidL.pre {l l' : List Lin} {d k : Nat} (h : MidL l d k) (q : pre l l') (hd : d < l.length) (hk : k ≤ l.length) : MidL l' d k := fun x hx => by
  obtain ⟨q1, q2⟩ := h x (q.back hd hx)
  exact ⟨q1.pre q, fun j y hj hy => by
    obtain ⟨r1, r2⟩ := q2 j y hj (q.back (by omega) hy)
    exact ⟨r1.pre q, r2.pre q⟩⟩
theorem DoneL.next {l : List Lin} {d : Nat} (h : DoneL l d) (k : MidL l d (d + 1)) : DoneL l (d + 1) := fun i x hi hx => by
  by_cases e : i = d
  · subst e
    obtain ⟨q1, q2⟩ := k x hx
    exact ⟨q1, fun j y hj hy => (q2 j y hj hy).1⟩
  · obtain ⟨q1, q2⟩ := h i x (by omega) hx
    refine ⟨q1, fun j y hj hy => ?_⟩
    by_cases e2 : j = d
    · subst e2; exact ((k y hy).2 i x hi hx).2
    · exact q2 j y (by omega) hy
theorem DoneL.closed {p : List Clm} {l : List Lin} (h : LI p l) (d : DoneL l l.length) (hp : ∀ c ∈ p, c ∈ cl l) (hs : ∀ x, litOk x → (⟨false, x, x⟩ : Clm) ∈ cl l) : Closed p (cl l) := by
  have at_ : ∀ {c : Clm}, c ∈ cl l → ∃ i x, i < l.length ∧ l[i]? = some x ∧ x.c = c := fun {c} hc => by
    obtain ⟨x, hx, rfl⟩ := List.mem_map.1 hc
    obtain ⟨i, hi⟩ := List.getElem?_of_mem hx
    exact ⟨i, x, (List.getElem?_eq_some_iff.1 hi).1, hi, rfl⟩
  have one : ∀ {c : Clm}, c ∈ cl l → oneC l c := fun {c} hc => by
    obtain ⟨i, x, hi, hx, rfl⟩ := at_ hc; exact (d i x hi hx).1
  have two : ∀ {c e : Clm}, c ∈ cl l → e ∈ cl l → twoC l c e := fun {c e} hc he => by
    obtain ⟨i, x, hi, hx, rfl⟩ := at_ hc
    obtain ⟨j, y, hj, hy, rfl⟩ := at_ he
    exact (d i x hi hx).2 j y hj hy
  refine ⟨fun c hc => ?_, hp, hs, fun a b c h1 h2 => two h1 h2 rfl rfl, fun a b h1 => ((one h1).2 rfl).1, fun a y h1 hy => ((one h1).2 rfl).2 rfl y hy, fun a b h1 => ((one h1).1 rfl).1, fun a b h1 => ((one h1).1 rfl).2, fun a b c h1 h2 => two h1 h2 rfl rfl⟩
  obtain ⟨i, x, hi, hx, rfl⟩ := at_ hc
  exact h.ok x (List.mem_of_getElem? hx)
theorem no_clash {l : List Lin} (h : ∀ x ∈ l, x.c.so = false → idxC l (opp x.c) = none) : ¬ clashed (cl l) := by
  rintro ⟨a, b, h1, h2⟩
  obtain ⟨x, hx, e⟩ := List.mem_map.1 h1
  have := idxC_none.1 (h x hx (by rw [e]))
  unfold opp at this
  rw [e] at this
  exact this h2
theorem LI.out {p : List Clm} {l : List Lin} (h : LI p l) {last : Nat} {x : Lin} (hx : l[last]? = some x) :
    allRight p (outL (theN l last) l (last + 1)) ∧ (∀ y ∈ outL (theN l last) l (last + 1), y.c.ok) ∧ (outL (theN l last) l (last + 1)).length ≤ 288 ∧ ∃ init y, outL (theN l last) l (last + 1) = init ++ [y] ∧ y.c = x.c := by
  have hl := (List.getElem?_eq_some_iff.1 hx).1
  have hle := h.len
  have hN := need_the (last := last) fun i y hy h1 => right_src h.right hy h1
  refine ⟨out_right h.right (fun i y hy hi h1 => hN.shut i y hy (Nat.zero_le _) hi h1) (by omega), out_ok h.ok (by omega), ?_, outL (theN l last) l last, mapS (theN l last) x, ?_, mapS_c _ _⟩
  · rw [outL_len _ _ _ (by omega)]; have := rank_le (theN l last) (last + 1); omega
  · rw [outL_yes hl hN.top, (List.getElem?_eq_some_iff.1 hx).2]
end Go.Proofs.Ytcmnjoepadjioaa

/- Argue: an argument just for what follows. -/
namespace Go.Proofs.Ytcmnjoepadjioaa
open Go.RowKit Go.Maps
/-- what Argue answers -/
def argR (p : List Clm) (c : Clm) (r : AV) : Prop :=
  (okP p [c] ≠ 0 ∧ r = .tup [.p (.slice none 0 0), bv false, iv (okP p [c])]) ∨
  (okP p [c] = 0 ∧ agB p c = false ∧ ∃ out : List Lin, r = .tup [.dsl 5 (out.map Lin.cs), bv true, iv 0] ∧ allRight p out ∧ (∀ y ∈ out, y.c.ok) ∧ out.length ≤ 288 ∧ ∃ init y, out = init ++ [y] ∧ y.c = c) ∨
  (okP p [c] = 0 ∧ agB p c = true ∧ r = .tup [.p (.slice none 0 0), bv false, iv 0])
theorem okP_zero {p l : List Clm} (h : okP p l = 0) : p.length ≤ 20 ∧ ∀ c ∈ p ++ l, c.ok := by
  unfold okP at h
  split at h
  · cases h
  · unfold okL at h
    split at h
    · rename_i h1 h2
      exact ⟨by omega, fun c hc => by simpa using (List.all_eq_true.1 h2) c hc⟩
    · cases h
/-- a row laid for a call is handed over -/
theorem ca_row {P : Program} {H : AH} {f : FuncId} {r n : Nat} {t : TypeId} {sz : Nat} {es : List (List AV)} {ps qs : List AV} {Q : AV → AH → Prop} {k : AV → AH → Prop} (hc : callable P f = true) (hr : H.get r = some (.row t sz es)) (hd : DtR es) (hn : n = es.length)
    (h : Tri P f (ps ++ .dsl sz es :: qs) (H.put r (.frz sz es)) Q) (hk : ∀ v H', Q v H' → k v H') : Ca P (.fn (.func f) [] []) (ps ++ .osl r sz 0 n :: qs) k H := by
  subst hn
  refine ca_of hc (Tri.st (.freeze hr hd) (Tri.args (qs := ps ++ .dsl sz es :: qs) ⟨by simp, fun i a b ha hb => ?_⟩ h)) hk
  have hs := Sub.frz (P := P) (H := H.put r (.frz sz es)) (r := r) (off := 0) (n := es.length) (put_get _ _) (by simp)
  rw [List.drop_zero, List.take_length] at hs
  simp only [List.nil_append, List.append_nil] at ha
  rw [List.getElem?_append] at ha hb
  split at ha
  · rename_i hi
    rw [if_pos hi] at hb
    rw [ha] at hb; injection hb with hb; subst hb; exact Sub.refl _
  · rename_i hi
    rw [if_neg hi] at hb
    cases he : i - ps.length with
    | zero => rw [he] at ha hb; simp at ha hb; subst ha; subst hb; exact hs
    | succ q => rw [he] at ha hb; simp at ha hb; rw [ha] at hb; injection hb with hb; subst hb; exact Sub.refl _
/-- put is called with no numbers -/
theorem ca_put0 {H : AH} {a m : Nat} {v : AV} {l : List Lin} (h : ArgH H a m v l) (rule : Int) (c : Clm) (hc : c.ok) (hb : l.length < 1000000) {k : AV → AH → Prop}
    (hk : ∀ v' H', ArgH H' a m v' (putL l ⟨rule, c, []⟩) → Fr a m H v H' v' → k (.tup []) H') : Ca Try.prog (.fn (.func 26) [] []) [.ptr a 0, .p (.int .i64 rule), .agg [.p (.bool c.so), .p (.int .i64 c.a), .p (.int .i64 c.b)], .p (.slice none 0 0)] k H := by
  refine ca_of (by kernel_rfl) (Tri.args (.cons (Sub.refl _) (.cons (Sub.refl _) (.cons (Sub.refl _) (.cons (Sub.nil 1 0 (Nat.zero_le _)) .nil)))) (c_put h rule [] c hc hb)) ?_
  rintro _ H' ⟨rfl, v', h3, h4⟩
  exact hk v' H' h3 h4
theorem ArgH.frz {H : AH} {a m : Nat} {v : AV} {l : List Lin} (h : ArgH H a m v l) {r : Nat} {o : AO} (hr : H.nx ≤ r) : ArgH (H.put r o) a m v l := by
  have h1 := h.la; have h2 := h.lm
  exact h.keep (Nat.le_refl _) fun j hj => put_get_ne _ _ _ (by omega)
/-- while Argue runs -/
def Arv (H : AH) (p : List Clm) (c : Clm) (H1 : AH) (l : List Lin) (v : AV) : Prop :=
  ArgH H1 (H.nx + 11) (H.nx + 9) v l ∧ LI p l ∧ H.le H1 ∧ H.nx + 13 ≤ H1.nx ∧ H1.get H.nx = some (.box 24 c.cs) ∧ ∀ j, j < H.nx + 12 → ∀ n, v ≠ .osl j 5 0 n
theorem Arv.next {H H1 H2 : AH} {p : List Clm} {c : Clm} {l l' : List Lin} {v v' : AV} (hw : WF H) (h : Arv H p c H1 l v) (ha : ArgH H2 (H.nx + 11) (H.nx + 9) v' l') (hl : LI p l') (hn : H1.nx ≤ H2.nx)
    (hf : ∀ j, j < H.nx + 9 → (∀ n, v ≠ .osl j 5 0 n) → H2.get j = H1.get j) (hv : ∀ j, j < H.nx + 12 → ∀ n, v' ≠ .osl j 5 0 n) : Arv H p c H2 l' v' := by
  obtain ⟨h1, h2, h3, h4, h5, h6⟩ := h
  refine ⟨ha, hl, fun j o ho => ?_, by omega, ?_, hv⟩
  · have := (hw j o ho).1
    rw [hf j (by omega) (h6 j (by omega))]; exact h3 j o ho
  · rw [hf H.nx (by omega) (h6 _ (by omega))]; exact h5
theorem Arv.of_fr {H H1 H2 : AH} {p : List Clm} {c : Clm} {l l' : List Lin} {v v' : AV} (hw : WF H) (h : Arv H p c H1 l v) (ha : ArgH H2 (H.nx + 11) (H.nx + 9) v' l') (hl : LI p l') (hf : Fr (H.nx + 11) (H.nx + 9) H1 v H2 v') : Arv H p c H2 l' v' := by
  have h6 := h.2.2.2.2.2
  have h4 := h.2.2.2.1
  refine h.next hw ha hl hf.1 (fun j hj hv => (hf.2 j (by omega) (by omega) (by omega) hv).1) fun j hj n e => ?_
  by_cases h11 : j = H.nx + 11
  · subst h11; exact ha.row.not (fun xs hx => by rw [ha.box] at hx; cases hx) n e
  · by_cases h9 : j = H.nx + 9
    · subst h9; obtain ⟨f, hm, _⟩ := ha.map; exact ha.row.not (fun xs hx => by rw [hm] at hx; cases hx) n e
    · exact (hf.2 j (by omega) h11 h9 (h6 j hj)).2 n e
set_option maxHeartbeats 2000000 in
theorem c_Argue (p : List Clm) (c : Clm) (H : AH) : Tri Try.prog 16 [cE p, c.av] H (fun r H' => H' = H ∧ argR p c r) := tri_wf fun hw => tri_prove_Argue (by
  unfold S_prove_Argue
  have hmx : maxLen = 9223372036854775807 := by decide
  simp (disch := first | omega | simp) [cE, Clm.av, Clm.cs, put_get_ne]
  refine ca_row (ps := [.dsl 3 (p.map Clm.cs)]) (qs := []) (es := [c].map Clm.cs) (by kernel_rfl) (put_get _ _) (dt_cs [c]) rfl (c_checkAll p [c] (by simp) _) ?_
  rintro _ H1 ⟨rfl, rfl⟩
  generalize hokv : okP p [c] = e
  simp (disch := first | omega | simp) [iv]
  refine ⟨fun he => ?_, fun he => ?_⟩
  · exact rt_tup hw (by repeat (first | with_reducible assumption | with_reducible exact AH.le.refl _ | with_reducible apply AH.le.up | (with_reducible refine AH.le.put hw ?_ ?_; · first | omega | (simp only [up_nx, put_nx, kill_nx]; done) | (simp only [up_nx, put_nx, kill_nx]; omega)) | (with_reducible refine AH.le.kill hw ?_ ?_; · first | omega | (simp only [up_nx, put_nx, kill_nx]; done) | (simp only [up_nx, put_nx, kill_nx]; omega)))) (by repeat (first | exact Cl.p _ | exact Cl.dsl _ _ | exact Cl.any | refine Cl.tup ?_ | refine Cl.agg ?_ | exact Clo.nil | refine Clo.cons ?_ ?_)) ⟨rfl, .inl ⟨by rw [hokv]; exact he, by rw [hokv]; rfl⟩⟩
  subst he
  obtain ⟨hpl, hpo⟩ := okP_zero hokv
  refine loop_st (fun i : Nat × List Lin => [iv i.1]) (fun s H' => s.1 ≤ p.length ∧ (∃ v, Arv H p c H' s.2 v) ∧ ∀ c ∈ p.take s.1, c ∈ cl s.2) (fun s => p.length - s.1) (0, []) (.refl (Nat.le_refl _)) ⟨Nat.zero_le _, ⟨.p (.slice none 0 0), ?_⟩, by simp⟩ ?_
  · exact ⟨⟨(by first | omega | (simp only [up_nx, put_nx, kill_nx]; done) | (simp only [up_nx, put_nx, kill_nx]; omega)), (by first | omega | (simp only [up_nx, put_nx, kill_nx]; done) | (simp only [up_nx, put_nx, kill_nx]; omega)), put_get _ _, .nil _ _ _ _, fun _ => none, by rw [put_get_ne _ _ _ (by omega), put_get]; rfl, fun c => rfl⟩, .nil p, (by repeat (first | with_reducible assumption | with_reducible exact AH.le.refl _ | with_reducible apply AH.le.up | (with_reducible refine AH.le.put hw ?_ ?_; · first | omega | (simp only [up_nx, put_nx, kill_nx]; done) | (simp only [up_nx, put_nx, kill_nx]; omega)) | (with_reducible refine AH.le.kill hw ?_ ?_; · first | omega | (simp only [up_nx, put_nx, kill_nx]; done) | (simp only [up_nx, put_nx, kill_nx]; omega)))), (by first | omega | (simp only [up_nx, put_nx, kill_nx]; done) | (simp only [up_nx, put_nx, kill_nx]; omega)), by simp (disch := first | omega | simp) [put_get_ne]; rfl, fun j _ n e => by cases e⟩
  rintro ⟨i, l⟩ H1 hn1 ⟨hi, ⟨v, hA⟩, hin⟩ k hk
  dsimp only at hi hin hk
  by_cases hil : i < p.length
  · obtain ⟨q, hq⟩ : ∃ q, p[i]? = some q := ⟨_, List.getElem?_eq_getElem hil⟩
    have hqm : (p.map Clm.cs)[i]? = some q.cs := by rw [List.getElem?_map, hq]; rfl
    have hqg : ∀ h, (p.map Clm.cs)[i]'h = q.cs := fun h => (List.getElem?_eq_some_iff.1 hqm).2
    have hiv := ivn (i := i) (by omega)
    have hlen := hA.2.1.len
    have hpg : ∀ h, p[i]'h = q := fun h => (List.getElem?_eq_some_iff.1 hq).2
    have hn1' := hA.2.2.2.1
    have hri : rightB p (l.map (·.c)) l.length ⟨1, q, [(i : Int)]⟩ = true := by
      unfold rightB
      rw [if_pos rfl, pick_one hq hil]
      simp [ruleB]
    simp (disch := first | omega | simp) [iv, hil, hpg, Clm.cs, put_get_ne]
    refine ca_put (hA.1.keep (by first | omega | (simp only [up_nx, put_nx, kill_nx]; done) | (simp only [up_nx, put_nx, kill_nx]; omega)) fun j hj => by simp (disch := first | omega | simp) [put_get_ne]) 1 [(i : Int)] q (hpo q (List.mem_append_left _ (List.mem_of_getElem? hq))) (by omega) (put_get _ _) rfl fun v1 H2 h1 n1 k1 => ?_
    simp only [up_nx, put_nx] at n1 k1
    rw [q_add_i, hiv]
    refine hk (i + 1, putL l ⟨1, q, [(i : Int)]⟩) _ _ _ (.refl (by first | omega | (simp only [up_nx, put_nx, kill_nx]; done) | (simp only [up_nx, put_nx, kill_nx]; omega))) ⟨hil, ⟨v1, hA.next hw h1 (hA.2.1.put (hpo q (List.mem_append_left _ (List.mem_of_getElem? hq))) (by simp) hri) (by omega) (fun j hj hv => ?_) fun j hj n e => ?_⟩, fun c hc => ?_⟩ (by dsimp only; omega)
    · have := (k1 j (by omega) (by omega) (by omega) (by omega) hv).1
      rw [this]; simp (disch := first | omega | simp) [put_get_ne]
    · by_cases h11 : j = H.nx + 11
      · subst h11; exact h1.row.not (fun xs hx => by rw [h1.box] at hx; cases hx) n e
      · by_cases h9 : j = H.nx + 9
        · subst h9; obtain ⟨f, hm, _⟩ := h1.map; exact h1.row.not (fun xs hx => by rw [hm] at hx; cases hx) n e
        · exact (k1 j (by omega) (by omega) h11 h9 (hA.2.2.2.2.2 j hj)).2 n e
    · dsimp only at hc ⊢
      rw [List.take_add_one, hq] at hc
      rcases List.mem_append.1 hc with hc | hc
      · exact (putL_pre _ _).mem (hin c hc)
      · simp at hc; subst hc; exact putL_mem l ⟨1, c, [(i : Int)]⟩
  have hpin : ∀ c ∈ p, c ∈ cl l := fun c hc => hin c (by rw [List.take_of_length_le (by omega)]; exact hc)
  simp (disch := first | omega | simp) [iv, hil]
  refine loop_st (fun s : Nat × List Lin => [iv ((s.1 : Int) + 1)]) (fun s H' => s.1 ≤ 6 ∧ (∃ v, Arv H p c H' s.2 v) ∧ (∀ c ∈ p, c ∈ cl s.2) ∧ ∀ n, n < s.1 → (⟨false, (n : Int) + 1, (n : Int) + 1⟩ : Clm) ∈ cl s.2 ∧ (⟨false, -((n : Int) + 1), -((n : Int) + 1)⟩ : Clm) ∈ cl s.2) (fun s => 6 - s.1) (0, l) (.refl (Nat.le_refl _)) ⟨Nat.zero_le _, ⟨v, hA⟩, hpin, fun n hn => absurd hn (Nat.not_lt_zero _)⟩ ?_
  clear hin hpin hi hil hA hk hn1
  rintro ⟨i, l⟩ H2 hn2 ⟨hi, ⟨v, hA⟩, hpin, hself⟩ k2 hk2
  dsimp only at hi hA hpin hself hk2
  have hlen := hA.2.1.len
  by_cases hil : i < 6
  · simp (disch := first | omega | simp) [iv, le6 hil, wneg6 hil, wn2 hil]
    have hk1 : litOk ((i : Int) + 1) := by unfold litOk; omega
    refine ca_put0 hA.1 2 ⟨false, (i : Int) + 1, (i : Int) + 1⟩ ⟨hk1, hk1⟩ (by omega) fun v1 H3 h1 f1 => ?_
    have l1 := hA.2.1.put (x := ⟨2, ⟨false, (i : Int) + 1, (i : Int) + 1⟩, []⟩) ⟨hk1, hk1⟩ (by simp) (by simp [rightB, pickC, ruleB])
    have a1 := hA.of_fr hw h1 l1 f1
    have hlen1 := l1.len
    simp (disch := first | omega | simp) [iv, le6 hil, wneg6 hil, wn2 hil]
    refine ca_put0 a1.1 2 ⟨false, -((i : Int) + 1), -((i : Int) + 1)⟩ ⟨lit_neg hk1, lit_neg hk1⟩ (by omega) fun v2 H4 h2 f2 => ?_
    have l2 := l1.put (x := ⟨2, ⟨false, -((i : Int) + 1), -((i : Int) + 1)⟩, []⟩) ⟨lit_neg hk1, lit_neg hk1⟩ (by simp) (by simp [rightB, pickC, ruleB])
    have a2 := a1.of_fr hw h2 l2 f2
    simp (disch := first | omega | simp) [iv, le6 hil, wneg6 hil, wn2 hil]
    have p1 := putL_pre l ⟨2, ⟨false, (i : Int) + 1, (i : Int) + 1⟩, []⟩
    have p2 := putL_pre (putL l ⟨2, ⟨false, (i : Int) + 1, (i : Int) + 1⟩, []⟩) ⟨2, ⟨false, -((i : Int) + 1), -((i : Int) + 1)⟩, []⟩
    refine hk2 (i + 1, _) _ _ _ (.refl (by have := f1.1; have := f2.1; omega)) ⟨hil, ⟨v2, a2⟩, fun c hc => (p1.trans p2).mem (hpin c hc), fun n hn => ?_⟩ (by dsimp only; omega)
    dsimp only at hn
    by_cases e : n = i
    · subst e; exact ⟨p2.mem (putL_mem l ⟨2, ⟨false, (n : Int) + 1, (n : Int) + 1⟩, []⟩), putL_mem _ ⟨2, ⟨false, -((n : Int) + 1), -((n : Int) + 1)⟩, []⟩⟩
    · obtain ⟨q1, q2⟩ := hself n (by omega)
      exact ⟨(p1.trans p2).mem q1, (p1.trans p2).mem q2⟩
  have hs : ∀ x, litOk x → (⟨false, x, x⟩ : Clm) ∈ cl l := fun x hx => by
    unfold litOk at hx
    by_cases h0 : 0 < x
    · have := (hself (x - 1).toNat (by omega)).1
      rwa [show (((x - 1).toNat : Nat) : Int) + 1 = x by omega] at this
    · have := (hself (-x - 1).toNat (by omega)).2
      rwa [show -((((-x - 1).toNat : Nat) : Int) + 1) = x by omega] at this
  simp (disch := first | omega | simp) [iv, nle6 hil]
  refine loop_st (fun s : Nat × List Lin => [iv (s.1 : Int)]) (fun s H' => s.1 ≤ s.2.length ∧ (∃ v, Arv H p c H' s.2 v) ∧ pre l s.2 ∧ DoneL s.2 s.1) (fun s => 289 - s.1) (0, l) (.refl (Nat.le_refl _)) ⟨Nat.zero_le _, ⟨v, hA⟩, .refl l, fun i x hi => absurd hi (Nat.not_lt_zero _)⟩ ?_
  clear hA hk2 hn2 hself hlen
  rintro ⟨d, m⟩ H3 hn3 ⟨hd, ⟨v, hA⟩, hpre, hdone⟩ k3 hk3
  dsimp only at hd hA hpre hdone hk3
  have hlen := hA.2.1.len
  have hbx := hA.1.box
  have hlm : (m.map Lin.cs).length = m.length := List.length_map ..
  have hgl : ∀ (k : AV → AH → Prop) (H' : AH), Pu Try.prog .len [v] k H' = k (.p (.int .i64 (m.length : Int))) H' := fun k H' => by rw [hA.1.row.len, List.length_map]
  by_cases hdl : d < m.length
  · obtain ⟨x, hx⟩ : ∃ x, m[d]? = some x := ⟨_, List.getElem?_eq_getElem hdl⟩
    have hxo := hA.2.1.ok x (List.mem_of_getElem? hx)
    have hiv := ivn (i := d) (by omega)
    obtain ⟨o1, o2, o3⟩ := hA.2.1.one hx
    simp (disch := first | omega | simp) [iv, hbx, hgl, hdl]
    refine ca_of (by kernel_rfl) (c_one hA.1 hx hxo (by omega)) ?_
    rintro _ H4 ⟨rfl, v4, h4, f4⟩
    have a4 := hA.of_fr hw h4 o1 f4
    have mid0 : MidL (oneL m x.c d) d 0 := fun y hy => by
      rw [o2.at_ hx] at hy; injection hy with hy; subst hy
      exact ⟨o3, fun j y hj => absurd hj (Nat.not_lt_zero _)⟩
    have n4 := f4.1
    simp (disch := first | omega | simp) [iv, hiv]
    refine loop_st (fun s : Nat × List Lin => [iv (s.1 : Int)]) (fun s H' => s.1 ≤ d + 1 ∧ (∃ v, Arv H p c H' s.2 v) ∧ pre m s.2 ∧ DoneL s.2 d ∧ MidL s.2 d s.1) (fun s => d + 1 - s.1) (0, oneL m x.c d) (.refl (Nat.le_refl _)) ⟨Nat.zero_le _, ⟨v4, a4⟩, o2, hdone.pre o2 hd, mid0⟩ ?_
    clear mid0 a4
    rintro ⟨q, u⟩ H5 hn5 ⟨hq, ⟨v5, hA5⟩, hpre5, hdone5, hmid5⟩ k5 hk5
    dsimp only at hq hA5 hpre5 hdone5 hmid5 hk5
    have hlen5 := hA5.2.1.len
    have hul := hpre5.len
    by_cases hqd : q < d + 1
    · obtain ⟨y, hy⟩ : ∃ y, u[q]? = some y := ⟨_, List.getElem?_eq_getElem (by omega)⟩
      have hx5 := hpre5.at_ hx
      have hyo := hA5.2.1.ok y (List.mem_of_getElem? hy)
      have hqi := ivn (i := q) (by omega)
      have hqc : (q : Int) < (d : Int) + 1 := by omega
      obtain ⟨t1, t2, t3⟩ := hA5.2.1.two hx5 hy
      have t1l := t1.len
      obtain ⟨r1, r2, r3⟩ := t1.two (t2.at_ hy) (t2.at_ hx5)
      simp (disch := first | omega | simp) [iv, hqc, hqi]
      refine ca_of (by kernel_rfl) (c_two hA5.1 hx5 hy hxo hyo (by omega)) ?_
      rintro _ H6 ⟨rfl, v6, h6, f6⟩
      have a6 := hA5.of_fr hw h6 t1 f6
      refine ca_of (by kernel_rfl) (c_two a6.1 (t2.at_ hy) (t2.at_ hx5) hyo hxo (by omega)) ?_
      rintro _ H7 ⟨rfl, v7, h7, f7⟩
      have a7 := a6.of_fr hw h7 r1 f7
      rw [q_add_i, hqi]
      have hp7 := t2.trans r2
      refine hk5 (q + 1, twoL (twoL u x.c y.c (d : Int) (q : Int)) y.c x.c (q : Int) (d : Int)) _ _ _ (.refl (by have := f6.1; have := f7.1; omega)) ⟨hqd, ⟨v7, a7⟩, hpre5.trans hp7, hdone5.pre hp7 (by omega), fun z hz => ?_⟩ (by dsimp only; omega)
      dsimp only at hz ⊢
      rw [hp7.at_ hx5] at hz; injection hz with hz; subst hz
      refine ⟨(hmid5 _ hx5).1.pre hp7, fun j w hj hwj => ?_⟩
      have hwj5 := hp7.back (show j < u.length by omega) hwj
      by_cases e : j = q
      · subst e
        rw [hy] at hwj5; injection hwj5 with hwj5; subst hwj5
        exact ⟨t3.pre r2, r3⟩
      · obtain ⟨s1, s2⟩ := (hmid5 _ hx5).2 j w (by omega) hwj5
        exact ⟨s1.pre hp7, s2.pre hp7⟩
    · have hqe : q = d + 1 := by omega
      subst hqe
      simp (disch := first | omega | simp) [iv, hiv]
      exact hk3 (d + 1, u) _ _ _ (.refl (by omega)) ⟨by dsimp only; omega, ⟨v5, hA5⟩, hpre.trans hpre5, hdone5.next hmid5⟩ (by dsimp only; omega)
  have hde : d = m.length := by omega
  subst hde
  have hcl := hdone.closed hA.2.1 (fun c hc => hpre.mem (hpin c hc)) (fun x hx => hpre.mem (hs x hx))
  obtain ⟨f, hm, hf⟩ := hA.1.map
  have hco : c.ok := hpo c (by simp)
  have hfits : (keyOf Try.prog 24 (cv c)).isSome = true := keyClm hco
  have hfc := hf c
  unfold cv at hfits hfc
  have hcb := hA.2.2.2.2.1
  unfold Clm.cs at hcb
  have hrs : ∀ (i : Nat) (x : Lin), m[i]? = some x → x.rule ≠ 1 → ∀ k ∈ x.src, 0 ≤ k ∧ k < (i : Int) := fun i x hx h1 => right_src hA.2.1.right hx h1
  simp (disch := first | omega | simp) [iv, hbx, hgl, hcb, hm, lawClm, hfits]
  rw [hfc]
  cases hi : idxC m c with
  | some i =>
    obtain ⟨x, hx, hxc⟩ := idxC_some hi
    obtain ⟨q1, q2, q3, q4⟩ := hA.2.1.out hx
    rw [hxc] at q4
    simp (disch := first | omega | simp) [iv]
    refine ca_pure (by kernel_rfl) (c_needed hbx hA.1.row hrs hA.2.1.src (List.getElem?_eq_some_iff.1 hx).1 (by omega)) ?_
    exact rt_tup hw hA.2.2.1 (by repeat (first | exact Cl.p _ | exact Cl.dsl _ _ | exact Cl.any | refine Cl.tup ?_ | refine Cl.agg ?_ | exact Clo.nil | refine Clo.cons ?_ ?_)) ⟨rfl, .inr (.inl ⟨hokv, sound_no hA.2.1.right (fun c hc => hpo c (List.mem_append_left _ hc)) hA.2.1.ok (List.mem_map.2 ⟨x, List.mem_of_getElem? hx, hxc⟩), _, rfl, q1, q2, q3, q4⟩)⟩
  | none =>
    simp (disch := first | omega | simp) [iv]
    refine ca_of (by kernel_rfl) (c_clash hA.1 hA.2.1.ok (by omega)) ?_
    rintro _ H4 ⟨rfl, ⟨i, k, x, hx, hxs, hk, rfl⟩ | ⟨hno, rfl⟩⟩
    · obtain ⟨y, hy, hyc⟩ := idxC_some hk
      have hlast : (m ++ [Lin.mk 10 c [(i : Int), (k : Int)]])[m.length]? = some ⟨10, c, [(i : Int), (k : Int)]⟩ := by simp
      have l5 := hA.2.1.put (x := ⟨10, c, [(i : Int), (k : Int)]⟩) hco (by simp) (right_two hx hy rfl (by show (10 : Int) ≠ 1; decide) (by rw [hyc]; simp [ruleB, opp, hxs]))
      rw [putL_new (x := ⟨10, c, [(i : Int), (k : Int)]⟩) hi] at l5
      have n4 := hA.2.2.2.1
      simp (disch := first | omega | simp) [iv, bv, hcb, put_get_ne]
      refine ca_put (hA.1.keep (by first | omega | (simp only [up_nx, put_nx, kill_nx]; done) | (simp only [up_nx, put_nx, kill_nx]; omega)) fun j hj => by simp (disch := first | omega | simp) [put_get_ne]) 10 [(i : Int), (k : Int)] c hco (by omega) (put_get _ _) rfl fun v1 H5 h5 n5 k5 => ?_
      simp only [up_nx, put_nx] at n5 k5
      rw [putL_new (x := ⟨10, c, [(i : Int), (k : Int)]⟩) hi] at h5
      have a5 := hA.next hw h5 l5 (by omega) (fun j hj hv => by
        have := (k5 j (by omega) (by omega) (by omega) (by omega) hv).1
        rw [this]; simp (disch := first | omega | simp) [put_get_ne]) (fun j hj n e => by
        by_cases h11 : j = H.nx + 11
        · subst h11; exact h5.row.not (fun xs hx => by rw [h5.box] at hx; cases hx) n e
        · by_cases h9 : j = H.nx + 9
          · subst h9; obtain ⟨f, hm, _⟩ := h5.map; exact h5.row.not (fun xs hx => by rw [hm] at hx; cases hx) n e
          · exact (k5 j (by omega) (by omega) h11 h9 (hA.2.2.2.2.2 j hj)).2 n e)
      obtain ⟨f5, hm5, hf5⟩ := a5.1.map
      have hfc5 := hf5 c
      unfold cv at hfc5
      have hcb5 := a5.2.2.2.2.1
      unfold Clm.cs at hcb5
      have hbx5 := a5.1.box
      have hi5 : idxC (m ++ [Lin.mk 10 c [(i : Int), (k : Int)]]) c = some m.length := by rw [idxC_snoc, hi]; simp
      rw [hi5] at hfc5
      simp only [Option.map_some] at hfc5
      simp (disch := first | omega | simp) [iv, hbx5, hcb5, hm5, lawClm, hfits, hfc5]
      have hlen5 := l5.len
      obtain ⟨q1, q2, q3, q4⟩ := l5.out hlast
      refine cav_pure (by kernel_rfl) (fun H6 hle6 => tri_wf fun hw6 => c_needed (hle6 _ _ hbx5) (a5.1.row.wf hw6 hle6) (fun i x hx h1 => right_src l5.right hx h1) l5.src (last := m.length) (by simp) (by omega)) ?_
      exact rt_tup hw a5.2.2.1 (by repeat (first | exact Cl.p _ | exact Cl.dsl _ _ | exact Cl.any | refine Cl.tup ?_ | refine Cl.agg ?_ | exact Clo.nil | refine Clo.cons ?_ ?_)) ⟨rfl, .inr (.inl ⟨hokv, sound_no l5.right (fun c hc => hpo c (List.mem_append_left _ hc)) l5.ok (List.mem_map.2 ⟨_, List.mem_of_getElem? hlast, rfl⟩), _, rfl, q1, q2, q3, q4⟩)⟩
    · simp (disch := first | omega | simp) [iv, bv]
      exact rt_tup hw hA.2.2.1 (by repeat (first | exact Cl.p _ | exact Cl.dsl _ _ | exact Cl.any | refine Cl.tup ?_ | refine Cl.agg ?_ | exact Clo.nil | refine Clo.cons ?_ ?_)) ⟨rfl, .inr (.inr ⟨hokv, complete hcl hco (idxC_none.1 hi) (no_clash hno), rfl⟩)⟩)
end Go.Proofs.Ytcmnjoepadjioaa
