/- Of lines those that a line needs, numbered anew. -/
import Derived.Test.YtcmnjoepadjioaaPc7
import Derived.Test.YtcmnjoepadjioaaPv8
import Derived.Test.YtcmnjoepadjioaaAwL
namespace Go.Proofs.Ytcmnjoepadjioaa
open Go.RowKit Go.Maps
/-- what is needed so far: from line j on all that is needed brings what it needs -/
structure Need (l : List Lin) (last j : Nat) (N : Nat → Bool) : Prop where
  top : N last = true
  low : ∀ i, N i = true → i ≤ last
  shut : ∀ (i : Nat) (x : Lin), l[i]? = some x → j ≤ i → N i = true → x.rule ≠ 1 → ∀ k ∈ x.src, N k.toNat = true
def setN (N : Nat → Bool) (k : Nat) : Nat → Bool := fun i => if i = k then true else N i
theorem setN_at (N : Nat → Bool) (k : Nat) : setN N k k = true := by simp [setN]
theorem setN_up {N : Nat → Bool} {k i : Nat} (h : N i = true) : setN N k i = true := by unfold setN; split <;> simp [h]
theorem setN_one {k i : Nat} (h : setN (fun _ => false) k i = true) : i = k := by
  unfold setN at h
  split at h
  · assumption
  · cases h
theorem Need.set {l : List Lin} {last j : Nat} {N : Nat → Bool} (h : Need l last (j + 1) N) {k : Nat} (hk : k < j) (hj : j ≤ last) : Need l last (j + 1) (setN N k) where
  top := setN_up h.top
  low i hi := by
    unfold setN at hi
    split at hi
    · omega
    · exact h.low i hi
  shut i x hx hji hi hr := fun q hq => by
    have : N i = true := by
      unfold setN at hi
      rw [if_neg (by omega)] at hi; exact hi
    exact setN_up (h.shut i x hx hji this hr q hq)
def setAll (N : Nat → Bool) (src : List Int) : Nat → Bool := src.foldl (fun N k => setN N k.toNat) N
theorem setAll_next {N : Nat → Bool} {src : List Int} {q : Nat} {z : Int} (h : src[q]? = some z) : setAll N (src.take (q + 1)) = setN (setAll N (src.take q)) z.toNat := by unfold setAll; rw [List.take_add_one, h, List.foldl_append]; rfl
def stepN (l : List Lin) (N : Nat → Bool) (j : Nat) : Nat → Bool := if N j then (match l[j]? with | some x => if x.rule = 1 then N else setAll N x.src | none => N) else N
def downN (l : List Lin) (last : Nat) : Nat → Nat → Bool
  | 0 => setN (fun _ => false) last
  | t + 1 => stepN l (downN l last t) (last - t)
def theN (l : List Lin) (last : Nat) : Nat → Bool := downN l last (last + 1)
theorem downN_next (l : List Lin) (last : Nat) {j : Nat} (hj : j ≤ last) : stepN l (downN l last (last + 1 - (j + 1))) j = downN l last (last + 1 - j) := by
  rw [show last + 1 - j = (last + 1 - (j + 1)) + 1 by omega, downN]
  congr 1; omega
theorem setAll_need {l : List Lin} {last j : Nat} : ∀ {src : List Int} {N : Nat → Bool}, Need l last (j + 1) N → j ≤ last → (∀ k ∈ src, 0 ≤ k ∧ k < (j : Int)) → Need l last (j + 1) (setAll N src) ∧ (∀ k ∈ src, setAll N src k.toNat = true) ∧ ∀ i, N i = true → setAll N src i = true
  | [], N, h, _, _ => ⟨h, by simp, fun _ h => h⟩
  | z :: r, N, h, hj, hs => by
    have hz := hs z (by simp)
    obtain ⟨q1, q2, q3⟩ := setAll_need (src := r) (h.set (k := z.toNat) (by omega) hj) hj (fun k hk => hs k (by simp [hk]))
    refine ⟨q1, fun k hk => ?_, fun i hi => q3 i (setN_up hi)⟩
    rcases List.mem_cons.1 hk with rfl | hk
    · exact q3 _ (setN_at _ _)
    · exact q2 k hk
theorem need_down {l : List Lin} {last : Nat} (hr : ∀ (i : Nat) (x : Lin), l[i]? = some x → x.rule ≠ 1 → ∀ k ∈ x.src, 0 ≤ k ∧ k < (i : Int)) : ∀ t, t ≤ last + 1 → Need l last (last + 1 - t) (downN l last t)
  | 0, _ => ⟨setN_at _ _, fun i hi => Nat.le_of_eq (setN_one hi), fun i x hx hji hi => by have := setN_one hi; omega⟩
  | t + 1, ht => by
    have ih := need_down (last := last) hr t (by omega)
    have e1 : last + 1 - t = (last - t) + 1 := by omega
    have e2 : last + 1 - (t + 1) = last - t := by omega
    rw [e1] at ih
    rw [e2, downN]
    generalize downN l last t = N at *
    have down : ∀ N', Need l last (last - t + 1) N' → (∀ x, l[last - t]? = some x → N' (last - t) = true → x.rule ≠ 1 → ∀ k ∈ x.src, N' k.toNat = true) → Need l last (last - t) N' := fun N' q1 q2 => ⟨q1.top, q1.low, fun i y hy hji hi hr => by
      by_cases e : i = last - t
      · subst e; exact q2 y hy hi hr
      · exact q1.shut i y hy (show last - t + 1 ≤ i by omega) hi hr⟩
    unfold stepN
    by_cases hN : N (last - t) = true
    · rw [if_pos hN]
      cases hx : l[last - t]? with
      | none => exact down N ih fun x h => by rw [hx] at h; cases h
      | some x =>
        by_cases h1 : x.rule = 1
        · simp only [h1, if_true]
          exact down N ih fun y hy _ h2 => by rw [hx] at hy; injection hy with hy; subst hy; exact absurd h1 h2
        · simp only [h1, if_false]
          obtain ⟨q1, q2, _⟩ := setAll_need ih (show last - t ≤ last by omega) (hr _ x hx h1)
          exact down _ q1 fun y hy _ _ => by rw [hx] at hy; injection hy with hy; subst hy; exact q2
    · rw [if_neg hN]
      exact down N ih fun x _ h => absurd h hN
theorem need_the {l : List Lin} {last : Nat} (hr : ∀ (i : Nat) (x : Lin), l[i]? = some x → x.rule ≠ 1 → ∀ k ∈ x.src, 0 ≤ k ∧ k < (i : Int)) : Need l last 0 (theN l last) := by
  have := need_down (last := last) hr (last + 1) (Nat.le_refl _)
  rwa [Nat.sub_self] at this
def needRow (N : Nat → Bool) (n : Nat) : List (List AV) := (List.range n).map fun i => [bv (N i)]
theorem needRow_len (N : Nat → Bool) (n : Nat) : (needRow N n).length = n := by simp [needRow]
theorem needRow_at {N : Nat → Bool} {n k : Nat} (h : k < n) : (needRow N n)[k]? = some [bv (N k)] := by simp [needRow, h]
theorem needRow_set (N : Nat → Bool) (n k : Nat) : (needRow N n).set k [bv true] = needRow (setN N k) n := by
  apply List.ext_getElem?
  intro i
  rw [List.getElem?_set]
  by_cases h : k = i
  · subst h
    rw [if_pos rfl]
    by_cases hk : k < n
    · rw [if_pos (by rw [needRow_len]; exact hk), needRow_at hk, setN_at]
    · rw [if_neg (by rw [needRow_len]; exact hk), List.getElem?_eq_none (by rw [needRow_len]; omega)]
  · rw [if_neg h]
    by_cases hi : i < n
    · rw [needRow_at hi, needRow_at hi]; unfold setN; rw [if_neg (fun e => h e.symm)]
    · rw [List.getElem?_eq_none (by rw [needRow_len]; omega), List.getElem?_eq_none (by rw [needRow_len]; omega)]
theorem needRow_none (n : Nat) : List.replicate n [bv false] = needRow (fun _ => false) n := by
  apply List.ext_getElem?
  intro i
  by_cases hi : i < n
  · rw [needRow_at hi, List.getElem?_replicate, if_pos hi]
  · rw [List.getElem?_eq_none (by rw [List.length_replicate]; omega), List.getElem?_eq_none (by rw [needRow_len]; omega)]
def mixL (N : Nat → Bool) (src : List Int) (q : Nat) : List Int := (src.take q).map (fun k => ((rankN N k.toNat : Nat) : Int)) ++ src.drop q
theorem mixL_len (N : Nat → Bool) (src : List Int) (q : Nat) : (mixL N src q).length = src.length := by simp [mixL]; omega
theorem mixL_at {N : Nat → Bool} {src : List Int} {q : Nat} {z : Int} (h : src[q]? = some z) : (mixL N src q)[q]? = some z := by
  have hq := (List.getElem?_eq_some_iff.1 h).1
  rw [mixL, List.getElem?_append_right (by simp; omega)]
  simp
  rw [show q - min q src.length = 0 by omega]
  simpa using h
theorem mixL_set {N : Nat → Bool} {src : List Int} {q : Nat} {z : Int} (h : src[q]? = some z) : (mixL N src q).set q ((rankN N z.toNat : Nat) : Int) = mixL N src (q + 1) := by
  obtain ⟨hq, hz⟩ := List.getElem?_eq_some_iff.1 h
  unfold mixL
  rw [List.set_append_right _ _ (by simp; omega), List.length_map, List.length_take, show q - min q src.length = 0 by omega, List.drop_eq_getElem_cons hq, List.set_cons_zero, List.take_add_one, h, List.map_append, List.append_assoc]
  rfl
theorem mixL_all (N : Nat → Bool) (src : List Int) : mixL N src src.length = src.map fun k => ((rankN N k.toNat : Nat) : Int) := by simp [mixL]
theorem intE_set (l : List Int) (q : Nat) (z : Int) : (intE l).set q [iv z] = intE (l.set q z) := by simp [intE, List.map_set]
/-- the copied line is handed over and laid behind the others -/
theorem needed_fin {H H4 : AH} {u vc : AV} {bx i : Nat} {x : Lin} {es : List Int} {out : List Lin} {k : List AV → AH → Prop} (hw : WF H) (hle : H.le H4) (hn : H.nx ≤ H4.nx) (hu : Grows 36 5 H H4 u (out.map Lin.cs)) (hv : Grows 3 1 H H4 vc (intE es))
    (hbx : H4.get bx = some (.box 36 [iv x.rule, .p (.bool x.c.so), iv x.c.a, iv x.c.b, vc])) (hb : H.nx ≤ bx) (hbl : bx < H4.nx) (hlen : out.length < 900000) (hi : i < 900000)
    (hk : ∀ v' H', Grows 36 5 H H' v' ((out ++ [Lin.mk x.rule x.c es]).map Lin.cs) → H.le H' → H4.nx ≤ H'.nx → (∀ j o, H4.get j = some o → (∀ n, vc ≠ .osl j 1 0 n) → (∀ n, u ≠ .osl j 5 0 n) → j ≠ bx → j < H4.nx → H'.get j = some o) → k [v', iv ((i + 1 : Nat) : Int)] H') :
    Gq Try.prog (Rg 5 fun b => RdS Try.prog (.ld 5 true) [.ptr bx 0] fun v115 =>
      Al (b + 2) (.bs 36 5 1 [.p (.int .i64 0), .p (.bool false), .p (.int .i64 0), .p (.int .i64 0), .p (.slice none 0 0)] [(0, 5)]) [v115] fun v116 =>
      WrS Try.prog (b + 3) (.app 36 5 56) [u, v116] fun v117 =>
      Pu Try.prog (.bin .add 3) [.p (.int .i64 (i : Int)), .p (.int .i64 1)] fun v118 => k [v117, v118]) H4 := by
  have hmx : maxLen = 9223372036854775807 := by decide
  obtain ⟨H5, f1, f2, f3, f4, f5⟩ := hv.fz (P := Try.prog) hw hle hn
  have hvb : ∀ n, vc ≠ .osl bx 1 0 n := hv.not fun ys e => by rw [hbx] at e; cases e
  have hb5 := (f4 bx hvb).trans hbx
  have hub : ∀ n, u ≠ .osl bx 5 0 n := hu.not fun ys e => by rw [hbx] at e; cases e
  have hu5 : Grows 36 5 H H5 u (out.map Lin.cs) := hu.same (by omega) fun j hj hn => f4 j (hv.apart hu (by decide) hn)
  refine ⟨H5.put bx (.box 36 [iv x.rule, .p (.bool x.c.so), iv x.c.a, iv x.c.b, .dsl 1 (intE es)]), f1.trans (Gst.box hb5 (.cons (.refl _) (.cons (.refl _) (.cons (.refl _) (.cons (.refl _) (.cons f5 .nil)))))), ?_⟩
  have hiv := ivn (i := i) (by omega)
  simp (disch := first | omega | simp) [iv, hiv]
  refine Grows.app (t := 36) hw (hu5.same (by first | omega | (simp only [up_nx, put_nx, kill_nx]; done) | (simp only [up_nx, put_nx, kill_nx]; omega)) fun j hj ⟨n, hn⟩ => ?_) (by repeat (first | exact AH.le.refl _ | assumption | apply AH.le.up | apply AH.le.put hw (by first | omega | (simp only [up_nx, put_nx, kill_nx]; done) | (simp only [up_nx, put_nx, kill_nx]; omega)) | apply AH.le.kill hw (by first | omega | (simp only [up_nx, put_nx, kill_nx]; done) | (simp only [up_nx, put_nx, kill_nx]; omega)))) (by first | omega | (simp only [up_nx, put_nx, kill_nx]; done) | (simp only [up_nx, put_nx, kill_nx]; omega)) (by first | omega | (simp only [up_nx, put_nx, kill_nx]; done) | (simp only [up_nx, put_nx, kill_nx]; omega)) (ys := [Lin.cs ⟨x.rule, x.c, es⟩]) ?_ (dt_lin [⟨x.rule, x.c, es⟩]) ?_ ?_ fun v' H' g2 l2 n2 k2 hfr => ?_
  · have : j ≠ bx := fun e => by subst e; exact hub n hn
    simp (disch := first | omega | simp) [put_get_ne, this]
  · simp [Lin.cs, iv, intE]
  · simp; omega
  · simp; omega
  · rw [q_add_i, hiv]
    refine hk v' H' (by rw [List.map_append]; exact g2) l2 (by rw [n2]; first | omega | (simp only [up_nx, put_nx, kill_nx]; done) | (simp only [up_nx, put_nx, kill_nx]; omega)) fun j o hj h1 h2 h3 h4 => ?_
    rw [k2 j (by omega) h2]
    simp (disch := first | omega | simp) [put_get_ne, h3]
    rw [f4 j h1]; exact hj
set_option maxHeartbeats 2000000 in
theorem c_needed {H : AH} {a m : Nat} {v : AV} {l : List Lin} (hbx : H.get a = some (.box 52 [v, .mp m])) (hgr : Grows 36 5 AH.nil H v (l.map Lin.cs)) (hr : ∀ (i : Nat) (x : Lin), l[i]? = some x → x.rule ≠ 1 → ∀ k ∈ x.src, 0 ≤ k ∧ k < (i : Int)) (hsl : ∀ x ∈ l, x.src.length ≤ 2)
    {last : Nat} (hlast : last < l.length) (hb : l.length < 900000) :
    Tri Try.prog 29 [.ptr a 0, iv last] H (fun r H' => H' = H ∧ r = .dsl 5 ((outL (theN l last) l (last + 1)).map Lin.cs)) := tri_wf fun hw => tri_arguer_needed (by
  have hmx : maxLen = 9223372036854775807 := by decide
  obtain ⟨r, xs, rfl, hrn, hrow, hat⟩ := hgr.at_ (by rw [List.length_map]; omega)
  rw [List.length_map] at hbx hgr hat
  unfold S_arguer_needed
  simp (disch := first | omega | simp) [iv, hbx, hlast, put_get_ne]
  refine ⟨by omega, by omega, ?_⟩
  have hN0 : Need l last (last + 1) (setN (fun _ => false) last) := ⟨setN_at _ _, fun i hi => Nat.le_of_eq (setN_one hi), fun i x hx hji hi => by have := setN_one hi; omega⟩
  refine loop_st (fun p : Nat × (Nat → Bool) => [iv ((p.1 : Int) - 1)]) (fun p H' => p.1 ≤ last + 1 ∧ p.2 = downN l last (last + 1 - p.1) ∧ Need l last p.1 p.2 ∧ H.le H' ∧ H.nx + 11 ≤ H'.nx ∧ H'.get (H.nx + 5) = some (.row 4 1 (needRow p.2 l.length))) (fun p => p.1) (last + 1, setN (fun _ => false) last) (by dsimp only; rw [show ((last + 1 : Nat) : Int) - 1 = (last : Int) by omega]; exact .refl (by first | omega | (simp only [up_nx, put_nx, kill_nx]; done) | (simp only [up_nx, put_nx, kill_nx]; omega))) ⟨Nat.le_refl _, by dsimp only; rw [Nat.sub_self]; rfl, hN0, (by repeat (first | exact AH.le.refl _ | assumption | apply AH.le.up | apply AH.le.put hw (by first | omega | (simp only [up_nx, put_nx, kill_nx]; done) | (simp only [up_nx, put_nx, kill_nx]; omega)) | apply AH.le.kill hw (by first | omega | (simp only [up_nx, put_nx, kill_nx]; done) | (simp only [up_nx, put_nx, kill_nx]; omega)))), (by first | omega | (simp only [up_nx, put_nx, kill_nx]; done) | (simp only [up_nx, put_nx, kill_nx]; omega)), ?_⟩ ?_
  · rw [put_get]
    congr 2
    rw [← needRow_set, ← needRow_none]
    simp [bv]
  rintro ⟨j, N⟩ H1 hn1 ⟨hj, hNe, hN, hle, hn, hrw⟩ k hk
  dsimp only at hj hNe hN hrw hk
  have hb1 := hle _ _ hbx
  have hr1 := hle _ _ hrow
  cases j with
  | succ j =>
    have e1 : ((j + 1 : Nat) : Int) - 1 = (j : Int) := by omega
    have hjl : j < l.length := by omega
    obtain ⟨x, hx⟩ : ∃ x, l[j]? = some x := ⟨_, List.getElem?_eq_getElem hjl⟩
    have hxj : xs[j]? = some x.cs := by rw [hat j hjl, List.getElem?_map, hx]; rfl
    have hnj := needRow_at (N := N) hjl
    have hws : IntKind.i64.wrap ((j : Int) - 1) = (j : Int) - 1 := by rw [IntKind.wrap_i64]; omega
    dsimp only
    rw [e1]
    have next : ∀ N' H', N' = stepN l N j → Need l last j N' → H.le H' → H.nx + 11 ≤ H'.nx → H1.nx ≤ H'.nx → H'.get (H.nx + 5) = some (.row 4 1 (needRow N' l.length)) → k [iv ((j : Int) - 1)] H' := fun N' H' q0 q1 q2 q3 q4 q5 => hk (j, N') _ _ _ (.refl (Nat.le_trans hn1 q4)) ⟨by dsimp only; omega, by dsimp only; rw [q0, hNe, downN_next l last (by omega)], q1, q2, q3, q5⟩ (by dsimp only; omega)
    have down : ∀ N', Need l last (j + 1) N' → (N' j = true → x.rule ≠ 1 → ∀ k ∈ x.src, N' k.toNat = true) → Need l last j N' := fun N' q1 q2 => ⟨q1.top, q1.low, fun i y hy hji hi hr => by
      by_cases e : i = j
      · subst e; rw [hx] at hy; injection hy with hy; subst hy; exact q2 hi hr
      · exact q1.shut i y hy (by omega) hi hr⟩
    cases hNj : N j with
    | false =>
      rw [hNj] at hnj
      simp (disch := first | omega | simp) [iv, hrw, hnj, bv, hjl, hws]
      exact next N H1 (by unfold stepN; rw [hNj]; rfl) (down N hN fun h => by rw [hNj] at h; cases h) hle hn (Nat.le_refl _) hrw
    | true =>
      rw [hNj] at hnj
      by_cases hrule : x.rule = 1
      · simp (disch := first | omega | simp) [iv, hrw, hnj, bv, hjl, hb1, hr1, hxj, Lin.cs, hrule, hws]
        exact next N H1 (by unfold stepN; rw [hNj, hx]; simp [hrule]) (down N hN fun _ h => absurd hrule h) hle hn (Nat.le_refl _) hrw
      · have hsrc := hr j x hx hrule
        have hx2 := hsl x (List.mem_of_getElem? hx)
        simp (disch := first | omega | simp) [iv, hrw, hnj, bv, hjl, hb1, hr1, hxj, Lin.cs, hrule, hws]
        refine loop_st (fun p : Nat × (Nat → Bool) => [iv (p.1 : Int)]) (fun p H' => p.1 ≤ x.src.length ∧ p.2 = setAll N (x.src.take p.1) ∧ Need l last (j + 1) p.2 ∧ (∀ k ∈ x.src.take p.1, p.2 k.toNat = true) ∧ H.le H' ∧ H1.nx ≤ H'.nx ∧ H'.get (H.nx + 5) = some (.row 4 1 (needRow p.2 l.length))) (fun p => x.src.length - p.1) (0, N) (.refl (Nat.le_refl _)) ⟨Nat.zero_le _, rfl, hN, by simp, hle, Nat.le_refl _, hrw⟩ ?_
        rintro ⟨q, N2⟩ H2 hn2 ⟨hq, hN2e, hN2, hall, hle2, hn3, hrw2⟩ k2 hk2
        dsimp only at hq hN2e hN2 hall hrw2 hk2
        by_cases hql : q < x.src.length
        · obtain ⟨z, hz⟩ : ∃ z, x.src[q]? = some z := ⟨_, List.getElem?_eq_getElem hql⟩
          obtain ⟨hz0, hzj⟩ := hsrc z (List.mem_of_getElem? hz)
          obtain ⟨zn, rfl⟩ := Int.eq_ofNat_of_zero_le hz0
          have hznl : (zn : Int) < (l.length : Int) := by omega
          have hzat := needRow_at (N := N2) (n := l.length) (k := zn) (by omega)
          have hmap : (List.map (fun i => [AV.p (Value.int IntKind.i64 i)]) x.src)[q]? = some [.p (.int .i64 (zn : Int))] := by rw [List.getElem?_map, hz]; rfl
          generalize hS : List.map (fun i => [AV.p (Value.int IntKind.i64 i)]) x.src = src at hmap
          have hsl2 : src.length = x.src.length := by rw [← hS, List.length_map]
          have hqi := ivn (i := q) (by omega)
          have hmg : ∀ h, src[q]'h = [.p (.int .i64 (zn : Int))] := fun h => by have := hmap; rw [List.getElem?_eq_getElem h] at this; injection this
          simp (disch := first | omega | simp) [iv, hql, hsl2, hmg, hznl, hrw2, hzat, hqi]
          refine hk2 (q + 1, setN N2 zn) _ _ _ (.refl (by first | omega | (simp only [up_nx, put_nx, kill_nx]; done) | (simp only [up_nx, put_nx, kill_nx]; omega))) ⟨hql, by dsimp only; rw [hN2e, setAll_next hz]; rfl, hN2.set (by omega) (by omega), fun k hk => ?_, (by repeat (first | exact AH.le.refl _ | assumption | apply AH.le.up | apply AH.le.put hw (by first | omega | (simp only [up_nx, put_nx, kill_nx]; done) | (simp only [up_nx, put_nx, kill_nx]; omega)) | apply AH.le.kill hw (by first | omega | (simp only [up_nx, put_nx, kill_nx]; done) | (simp only [up_nx, put_nx, kill_nx]; omega)))), (by first | omega | (simp only [up_nx, put_nx, kill_nx]; done) | (simp only [up_nx, put_nx, kill_nx]; omega)), ?_⟩ (by dsimp only; omega)
          · dsimp only at hk ⊢
            rw [List.take_add_one, hz] at hk
            rcases List.mem_append.1 hk with hk | hk
            · exact setN_up (hall k hk)
            · simp at hk; subst hk; exact setN_at _ _
          · dsimp only
            rw [put_get, ← needRow_set]
            rfl
        · simp (disch := first | omega | simp) [iv, hql, hws]
          refine next N2 H2 (by rw [hN2e, List.take_of_length_le (by omega)]; unfold stepN; rw [hNj, hx]; simp [hrule]) (down N2 hN2 fun _ _ k hk => hall k ?_) hle2 (by omega) hn3 hrw2
          rw [List.take_of_length_le (by omega)]; exact hk
  | zero =>
    have hw1 : IntKind.i64.wrap ((last : Int) + 1) = ((last + 1 : Nat) : Int) := ivn (by omega)
    simp (disch := first | omega | simp) [iv, hb1, hw1]
    refine ⟨by omega, by omega, ?_⟩
    have hnr : ∀ {H' : AH} {u : AV} {es : List (List AV)}, Grows 36 5 H H' u es → ∀ j t ys, H'.get j = some (.row t 1 ys) → ∀ n, u ≠ .osl j 5 0 n := fun g j t ys h => g.not fun xs e => by rw [h] at e; cases e
    refine loop_st (fun p : Nat × AV => [p.2, iv (p.1 : Int)]) (fun p H' => p.1 ≤ last + 1 ∧ Grows 36 5 H H' p.2 ((outL N l p.1).map Lin.cs) ∧ H.le H' ∧ H1.nx + 7 ≤ H'.nx ∧ H'.get (H.nx + 5) = some (.row 4 1 (needRow N l.length)) ∧ ∃ num : List Int, num.length = l.length ∧ H'.get (H1.nx + 5) = some (.row 3 1 (intE num)) ∧ ∀ k, k < p.1 → N k = true → num[k]? = some ((rankN N k : Nat) : Int)) (fun p => last + 1 - p.1) (0, .p (.slice none 0 0)) (.refl (by first | omega | (simp only [up_nx, put_nx, kill_nx]; done) | (simp only [up_nx, put_nx, kill_nx]; omega))) ⟨Nat.zero_le _, .nil _ _ _ _, (by repeat (first | exact AH.le.refl _ | assumption | apply AH.le.up | apply AH.le.put hw (by first | omega | (simp only [up_nx, put_nx, kill_nx]; done) | (simp only [up_nx, put_nx, kill_nx]; omega)) | apply AH.le.kill hw (by first | omega | (simp only [up_nx, put_nx, kill_nx]; done) | (simp only [up_nx, put_nx, kill_nx]; omega)))), (by first | omega | (simp only [up_nx, put_nx, kill_nx]; done) | (simp only [up_nx, put_nx, kill_nx]; omega)), ?_, List.replicate l.length 0, by simp, ?_, fun k hk => absurd hk (Nat.not_lt_zero _)⟩ ?_
    · simp (disch := first | omega | simp) [put_get_ne, hrw]
    · rw [put_get]; simp [intE, iv]
    rintro ⟨i, u⟩ H2 hn2 ⟨hi, hg, hle2, hn3, hrw2, num, hnl, hnum, hrk⟩ k2 hk2
    dsimp only at hi hg hrk hk2
    by_cases hil : i < last + 1
    · have hnl2 : i < l.length := by omega
      obtain ⟨x, hx⟩ : ∃ x, l[i]? = some x := ⟨_, List.getElem?_eq_getElem hnl2⟩
      have hxi : xs[i]? = some x.cs := by rw [hat i hnl2, List.getElem?_map, hx]; rfl
      have hni := needRow_at (N := N) hnl2
      have hiv := ivn (i := i) (by omega)
      have hic : (i : Int) < ((last + 1 : Nat) : Int) := by omega
      push_cast at hic
      cases hNi : N i with
      | false =>
        rw [hNi] at hni
        simp (disch := first | omega | simp) [iv, hic, hrw2, hni, bv, hnl2, hiv]
        exact hk2 (i + 1, u) _ _ _ (.refl (by omega)) ⟨hil, by rw [outL_no hNi]; exact hg, hle2, hn3, hrw2, num, hnl, hnum, fun k h1 h2 => hrk k (by dsimp only at h1; rcases Nat.lt_succ_iff_lt_or_eq.1 h1 with h | h; exact h; subst h; rw [hNi] at h2; cases h2) h2⟩ (by dsimp only; omega)
      | true =>
        rw [hNi] at hni
        have hb2 := hle2 _ _ hbx
        have hr2 := hle2 _ _ hrow
        have hal := (hw _ _ hbx).1
        have hane : a ≠ H1.nx + 5 := by omega
        have hrne : r ≠ H1.nx + 5 := by omega
        have hlo : (outL N l i).length = rankN N i := outL_len N l i (by omega)
        have hgl : ∀ (k : AV → AH → Prop) (H' : AH), Pu Try.prog .len [u] k H' = k (.p (.int .i64 ((rankN N i : Nat) : Int))) H' := fun k H' => by rw [hg.len, List.length_map, hlo]
        simp (disch := first | omega | simp) [iv, hic, hrw2, hni, bv, hnl2, hgl, hnum, intE, hnl, put_get_ne, hb2, hr2, hxi, Lin.cs]
        have hx2 := hsl x (List.mem_of_getElem? hx)
        refine ca_of (by kernel_rfl) (c_Clone x.src (by omega)) ?_
        rintro vc H3 ⟨g3, l3, n3⟩
        have n3' : H2.nx + 20 ≤ H3.nx := by simp only [up_nx, put_nx] at n3; omega
        have c3 : H3.get (H2.nx + 13) = some (.box 36 x.cs) := l3 _ _ (by simp (disch := first | omega | simp) [put_get_ne, Lin.cs, iv])
        have num3 : H3.get (H1.nx + 5) = some (.row 3 1 (intE (num.set i (rankN N i : Nat)))) := l3 _ _ (by simp (disch := first | omega | simp) [put_get_ne, intE, iv])
        have rw3 : H3.get (H.nx + 5) = some (.row 4 1 (needRow N l.length)) := l3 _ _ (by simp (disch := first | omega | simp) [put_get_ne, hrw2])
        have le3 : H.le H3 := AH.le.trans (by repeat (first | exact AH.le.refl _ | assumption | apply AH.le.up | apply AH.le.put hw (by first | omega | (simp only [up_nx, put_nx, kill_nx]; done) | (simp only [up_nx, put_nx, kill_nx]; omega)) | apply AH.le.kill hw (by first | omega | (simp only [up_nx, put_nx, kill_nx]; done) | (simp only [up_nx, put_nx, kill_nx]; omega)))) l3
        obtain ⟨pv, pc⟩ := g3.part
        have g3' : Grows 3 1 H H3 vc (intE x.src) := g3.base (by simp only [up_nx, put_nx]; omega)
        have ge3 : ∀ n j, vc = .osl j 1 0 n → H2.nx + 20 ≤ j := fun n j e => by have := g3.ge e; simp only [up_nx, put_nx] at this; omega
        have gu3 : Grows 36 5 H H3 u ((outL N l i).map Lin.cs) := hg.up_ (by omega) fun j o hj ⟨n, hn⟩ ho => l3 _ _ (by
          have hjne : j ≠ H1.nx + 5 := fun e => by subst e; exact hnr hg _ _ _ hnum n hn
          simp (disch := first | omega | simp) [put_get_ne, hjne]; exact ho)
        have fin : ∀ (es : List Int) (H4 : AH), Grows 3 1 H H4 vc (intE es) → Grows 36 5 H H4 u ((outL N l i).map Lin.cs) → mapS N x = ⟨x.rule, x.c, es⟩ → H.le H4 → H3.nx ≤ H4.nx → H4.get (H2.nx + 13) = some (.box 36 [iv x.rule, .p (.bool x.c.so), iv x.c.a, iv x.c.b, vc]) → H4.get (H1.nx + 5) = some (.row 3 1 (intE (num.set i (rankN N i : Nat)))) → H4.get (H.nx + 5) = some (.row 4 1 (needRow N l.length)) → ∀ v' H', Grows 36 5 H H' v' ((outL N l i ++ [Lin.mk x.rule x.c es]).map Lin.cs) → H.le H' → H4.nx ≤ H'.nx → (∀ j o, H4.get j = some o → (∀ n, vc ≠ .osl j 1 0 n) → (∀ n, u ≠ .osl j 5 0 n) → j ≠ H2.nx + 13 → j < H4.nx → H'.get j = some o) → k2 [v', iv ((i + 1 : Nat) : Int)] H' := by
          intro es H4 q1 q2 q3 q4 q5 q6 q7 q8 v' H' p1 p2 p3 p4
          refine hk2 (i + 1, v') _ _ _ (.refl (by first | omega | (simp only [up_nx, put_nx, kill_nx]; done) | (simp only [up_nx, put_nx, kill_nx]; omega))) ⟨hil, ?_, p2, by omega, p4 _ _ q8 (fun n e => by have := ge3 _ _ e; omega) (hnr q2 _ _ _ q8) (by omega) (by omega), num.set i (rankN N i : Nat), by rw [List.length_set]; exact hnl, p4 _ _ q7 (fun n e => by have := ge3 _ _ e; omega) (hnr q2 _ _ _ q7) (by omega) (by omega), fun k h1 h2 => ?_⟩ (by dsimp only; omega)
          · dsimp only
            rw [outL_yes hnl2 hNi, show l[i]'hnl2 = x by have := hx; rw [List.getElem?_eq_getElem hnl2] at this; injection this, q3]; exact p1
          · dsimp only at h1
            rw [List.getElem?_set]
            by_cases e : i = k
            · subst e; rw [if_pos rfl, if_pos (by omega)]
            · rw [if_neg e]; exact hrk k (by omega) h2
        have hu13 : ∀ n, u ≠ .osl (H2.nx + 13) 5 0 n := gu3.not fun ys e => by rw [c3] at e; cases e
        have hv13 : ∀ n, vc ≠ .osl (H2.nx + 13) 1 0 n := g3'.not fun ys e => by rw [c3] at e; cases e
        obtain ⟨H4, hH4⟩ : ∃ H4, H4 = H3.put (H2.nx + 13) (.box 36 [.p (.int .i64 x.rule), .p (.bool x.c.so), .p (.int .i64 x.c.a), .p (.int .i64 x.c.b), vc]) := ⟨_, rfl⟩
        have n4 : H4.nx = H3.nx := by rw [hH4]; rfl
        have k4 : ∀ j, j ≠ H2.nx + 13 → H4.get j = H3.get j := fun j hj => by rw [hH4]; exact put_get_ne _ _ _ hj
        have c4 : H4.get (H2.nx + 13) = some (.box 36 [iv x.rule, .p (.bool x.c.so), iv x.c.a, iv x.c.b, vc]) := by rw [hH4, put_get]; rfl
        have g4 : Grows 3 1 H H4 vc (intE x.src) := g3'.same (by omega) fun j hj ⟨n, hn⟩ => k4 j fun e => hv13 n (by rw [← e]; exact hn)
        have gu4 : Grows 36 5 H H4 u ((outL N l i).map Lin.cs) := gu3.same (by omega) fun j hj ⟨n, hn⟩ => k4 j fun e => hu13 n (by rw [← e]; exact hn)
        have num4 : H4.get (H1.nx + 5) = some (.row 3 1 (intE (num.set i (rankN N i : Nat)))) := (k4 _ (by omega)).trans num3
        have rw4 : H4.get (H.nx + 5) = some (.row 4 1 (needRow N l.length)) := (k4 _ (by omega)).trans rw3
        have le4 : H.le H4 := by rw [hH4]; exact (by repeat (first | exact AH.le.refl _ | assumption | apply AH.le.up | apply AH.le.put hw (by first | omega | (simp only [up_nx, put_nx, kill_nx]; done) | (simp only [up_nx, put_nx, kill_nx]; omega)) | apply AH.le.kill hw (by first | omega | (simp only [up_nx, put_nx, kill_nx]; done) | (simp only [up_nx, put_nx, kill_nx]; omega))))
        simp (disch := first | omega | simp) [c3, Lin.cs, iv, pv, pc]
        rw [← hH4]
        refine ⟨fun hrule => ?_, fun hrule => ?_⟩
        · have hil2 : (intE x.src).length = x.src.length := by simp [intE]
          have hsrc := hr i x hx hrule
          simp (disch := first | omega | simp) [g3'.len, hil2]
          refine loop_st (fun p : Nat => [iv (p : Int)]) (fun p H' => p ≤ x.src.length ∧ Grows 3 1 H H' vc (intE (mixL N x.src p)) ∧ Grows 36 5 H H' u ((outL N l i).map Lin.cs) ∧ H.le H' ∧ H3.nx ≤ H'.nx ∧ H'.get (H2.nx + 13) = some (.box 36 [iv x.rule, .p (.bool x.c.so), iv x.c.a, iv x.c.b, vc]) ∧ H'.get (H1.nx + 5) = some (.row 3 1 (intE (num.set i (rankN N i : Nat)))) ∧ H'.get (H.nx + 5) = some (.row 4 1 (needRow N l.length))) (fun p => x.src.length - p) 0 (.refl (Nat.le_refl _)) ⟨Nat.zero_le _, by simpa [mixL] using g4, gu4, le4, by omega, c4, num4, rw4⟩ ?_
          rintro q H5 hn5 ⟨hq, gv5, gu5, le5, n5, c5, num5, rw5⟩ k5 hk5
          by_cases hql : q < x.src.length
          · obtain ⟨z, hz⟩ : ∃ z, x.src[q]? = some z := ⟨_, List.getElem?_eq_getElem hql⟩
            obtain ⟨hz0, hzj⟩ := hsrc z (List.mem_of_getElem? hz)
            obtain ⟨zn, rfl⟩ := Int.eq_ofNat_of_zero_le hz0
            have hNz : N zn = true := by have := hN.shut i x hx (Nat.zero_le _) hNi hrule zn (List.mem_of_getElem? hz); simpa using this
            have hrz := hrk zn (by omega) hNz
            have hmz := mixL_at (N := N) hz
            have hms := mixL_set (N := N) hz
            have hml := mixL_len N x.src q
            have hqi := ivn (i := q) (by omega)
            have hzi : zn ≠ i := by omega
            obtain ⟨r5, x5, rfl, h5l, h5g, h5at⟩ := gv5.at_ (by simp [intE, hml]; omega)
            have hx5 : x5[q]? = some [.p (.int .i64 (zn : Int))] := by rw [h5at q (by simp [intE, hml]; omega)]; simp [intE, hmz, iv]
            have hnr5 : (intE (num.set i (rankN N i : Nat)))[zn]? = some [.p (.int .i64 ((rankN N zn : Nat) : Int))] := by simp [intE, List.getElem?_map, List.getElem?_set, hzi.symm, hrz, iv]
            have hnrl : (intE (num.set i (rankN N i : Nat))).length = l.length := by simp [intE, hnl]
            have hil5 : (intE (mixL N x.src q)).length = x.src.length := by simp [intE, hml]
            have hznl : (zn : Int) < (l.length : Int) := by omega
            have hge5 := ge3 _ _ rfl
            have h5c : ¬ r5 = H2.nx + 13 := fun e => by subst e; rw [h5g] at c5; cases c5
            have hxlt := (List.getElem?_eq_some_iff.1 hx5).1
            generalize intE (num.set i (rankN N i : Nat)) = nr at *
            have hxg : ∀ h, x5[q]'h = [.p (.int .i64 (zn : Int))] := fun h => (List.getElem?_eq_some_iff.1 hx5).2
            have hng : ∀ h, nr[zn]'h = [.p (.int .i64 ((rankN N zn : Nat) : Int))] := fun h => (List.getElem?_eq_some_iff.1 hnr5).2
            have hu5 := gu5.apart gv5 (by decide) ⟨_, rfl⟩
            have gvu : Grows 3 1 H (H5.up 13) (.osl r5 1 0 (intE (mixL N x.src q)).length) (intE (mixL N x.src q)) := gv5.up_ (by first | omega | (simp only [up_nx, put_nx, kill_nx]; done) | (simp only [up_nx, put_nx, kill_nx]; omega)) fun j o _ _ h => h
            have gvp := gvu.put h5g (q := q) (e := [iv ((rankN N zn : Nat) : Int)]) (by intro a ha; simp at ha; subst ha; exact Dt.p _)
            simp (disch := first | omega | simp) [iv, hql, c5, h5g, hxg, num5, hng, hqi, hil5, hznl, hxlt, hnrl]
            rw [Int.toNat_natCast] at hms
            refine hk5 (q + 1) _ _ _ (.refl (by first | omega | (simp only [up_nx, put_nx, kill_nx]; done) | (simp only [up_nx, put_nx, kill_nx]; omega))) ⟨hql, ?_, gu5.up_ (by first | omega | (simp only [up_nx, put_nx, kill_nx]; done) | (simp only [up_nx, put_nx, kill_nx]; omega)) (fun j o hj ⟨n, hn⟩ ho => ?_), (by repeat (first | exact AH.le.refl _ | assumption | apply AH.le.up | apply AH.le.put hw (by first | omega | (simp only [up_nx, put_nx, kill_nx]; done) | (simp only [up_nx, put_nx, kill_nx]; omega)) | apply AH.le.kill hw (by first | omega | (simp only [up_nx, put_nx, kill_nx]; done) | (simp only [up_nx, put_nx, kill_nx]; omega)))), (by first | omega | (simp only [up_nx, put_nx, kill_nx]; done) | (simp only [up_nx, put_nx, kill_nx]; omega)), ?_, ?_, ?_⟩ (by omega)
            · rw [← hms, ← intE_set]; exact gvp
            · rw [put_get_ne _ _ _ (fun e => by subst e; exact hu5 n hn)]; exact ho
            · rw [put_get_ne _ _ _ (fun e => h5c e.symm)]; exact c5
            · rw [put_get_ne _ _ _ (by omega)]; exact num5
            · rw [put_get_ne _ _ _ (by omega)]; exact rw5
          · have hqe : q = x.src.length := by omega
            subst hqe
            rw [mixL_all] at gv5
            simp (disch := first | omega | simp) [iv]
            refine needed_fin (x := x) hw le5 (by first | omega | (simp only [up_nx, put_nx, kill_nx]; done) | (simp only [up_nx, put_nx, kill_nx]; omega)) gu5 gv5 c5 (by first | omega | (simp only [up_nx, put_nx, kill_nx]; done) | (simp only [up_nx, put_nx, kill_nx]; omega)) (by first | omega | (simp only [up_nx, put_nx, kill_nx]; done) | (simp only [up_nx, put_nx, kill_nx]; omega)) (by rw [hlo]; have := rank_le N i; omega) (by omega) (fin _ H5 gv5 gu5 ?_ le5 n5 c5 num5 rw5)
            unfold mapS; rw [if_neg hrule]
        · refine needed_fin (x := x) hw le4 (by first | omega | (simp only [up_nx, put_nx, kill_nx]; done) | (simp only [up_nx, put_nx, kill_nx]; omega)) gu4 g4 c4 (by first | omega | (simp only [up_nx, put_nx, kill_nx]; done) | (simp only [up_nx, put_nx, kill_nx]; omega)) (by first | omega | (simp only [up_nx, put_nx, kill_nx]; done) | (simp only [up_nx, put_nx, kill_nx]; omega)) (by rw [hlo]; have := rank_le N i; omega) (by omega) (fin x.src H4 g4 gu4 ?_ le4 (by omega) c4 num4 rw4)
          unfold mapS; rw [if_pos hrule]
    · have hie : i = last + 1 := by omega
      subst hie
      simp (disch := first | omega | simp) [iv]
      exact hg.rt hw hle2 (by omega) ⟨rfl, by rw [hNe]; rfl⟩)
end Go.Proofs.Ytcmnjoepadjioaa
