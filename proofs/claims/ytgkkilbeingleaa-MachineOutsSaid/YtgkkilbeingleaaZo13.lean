/- Texts that the proof rests on, part 13: what each holds stands at its head. -/
import Derived.Test.YtgkkilbeingleaaZo12

/- Machines that are made are machines; what they cost. Plain. -/
namespace Go.Proofs.Ytgkkilbeingleaa
end Go.Proofs.Ytgkkilbeingleaa

/- Any number of walks: the table of again. -/
namespace Go.Proofs.Ytgkkilbeingleaa
open Go.RowKit Go.Maps
/-- what stands in the table so far -/
def Bst (a : Mac) (I O : List Int) (n k : Nat) (L : List Int) (i j : Nat) : Prop := ∀ i' j', i' < n → j' < k → (i' < i ∨ (i' = i ∧ j' < j)) → ∃ v, L[i' * k + j']? = some v ∧ Least (Star a (I.take i') (O.take j')) v
theorem pl_inj {k i j i' j' : Nat} (hj : j < k) (hj' : j' < k) (h : i * k + j = i' * k + j') : i = i' ∧ j = j' := by
  have := ix_inj (n := i + i' + 1) (k := k) (s := 0) (s' := 0) (i := i) (i' := i') (by omega) hj (by omega) hj' (by unfold ix; simpa using h)
  exact ⟨this.2.1, this.2.2⟩
theorem Bst.set {a : Mac} {I O : List Int} {n k : Nat} {L : List Int} {i j : Nat} (h : Bst a I O n k L i j) (hj : j < k) (x : Int) : Bst a I O n k (L.set (i * k + j) x) i j := fun i' j' h1 h2 h3 => by
  obtain ⟨v, hv, hl⟩ := h i' j' h1 h2 h3
  refine ⟨v, ?_, hl⟩
  rw [List.getElem?_set_ne (fun e => by obtain ⟨e1, e2⟩ := pl_inj hj h2 e; omega)]
  exact hv
theorem Bst.next {a : Mac} {I O : List Int} {n k : Nat} {L : List Int} {i j : Nat} {u : Int} (h : Bst a I O n k L i j) (hu : L[i * k + j]? = some u) (hl : Least (Star a (I.take i) (O.take j)) u) : Bst a I O n k L i (j + 1) := fun i' j' h1 h2 h3 => by
  by_cases e : i' = i ∧ j' = j
  · obtain ⟨rfl, rfl⟩ := e; exact ⟨u, hu, hl⟩
  · exact h i' j' h1 h2 (by omega)
theorem Bst.row {a : Mac} {I O : List Int} {n k : Nat} {L : List Int} {i : Nat} (h : Bst a I O n k L i k) : Bst a I O n k L (i + 1) 0 := fun i' j' h1 h2 h3 => h i' j' h1 h2 (by omega)
end Go.Proofs.Ytgkkilbeingleaa

/- The arcs of each state. -/
namespace Go.Proofs.Ytgkkilbeingleaa
open Go.RowKit Go.Maps
section
variable {P : Program} {H H1 H2 : AH} {B : Nat}
/-- what a row holds is told anew -/
theorem Gst.resub {r : Nat} {t : TypeId} {sz : Nat} {es es' : List (List AV)} (hg : H.get r = some (.row t sz es)) (hl : es'.length = es.length) (h : ∀ (i : Nat) (e e' : List AV), es[i]? = some e → es'[i]? = some e' → Subs P H e e') : Gst P H (H.put r (.row t sz es')) := by
  have hget : ∀ id o, (H.put r (.row t sz es')).get id = some o → ∃ o', H.get id = some o' ∧ o'.owned = o.owned ∧ ((id = r ∧ o = .row t sz es') ∨ (id ≠ r ∧ o' = o)) := by
    intro id o ho
    by_cases e : id = r
    · subst e; rw [AH.get_put_self] at ho; injection ho with ho; subst ho; exact ⟨_, hg, rfl, .inl ⟨rfl, rfl⟩⟩
    · rw [AH.get_put_ne e] at ho; exact ⟨o, ho, rfl, .inr ⟨e, rfl⟩⟩
  refine ⟨Nat.le_refl _, fun w S σ hs => ⟨S, ⟨hs.sb, hs.dom, fun id o ho => ?_, fun i j o o' b h h' k k' => ?_, fun i o b h k hb => ?_, hs.sl⟩, fun _ h => h, fun _ h => .inl h, ?_⟩⟩
  · obtain ⟨o', h1, _, ⟨rfl, rfl⟩ | ⟨_, rfl⟩⟩ := hget id o ho
    · obtain ⟨A, c, h1, h2, h3, h4, h5⟩ := hs.obj id _ hg
      have hlen : ∀ i e', es'[i]? = some e' → ∃ e, es[i]? = some e := fun i e' he' => by
        have := (List.getElem?_eq_some_iff.1 he').1
        exact ⟨_, List.getElem?_eq_getElem (by omega)⟩
      refine ⟨A, c, by rw [hl]; exact h1, fun e' he' => ?_, by omega, h4, ?_⟩
      · obtain ⟨i, hi⟩ := List.getElem?_of_mem he'
        obtain ⟨e, he⟩ := hlen i e' hi
        rw [← (h i e e' he hi).1]; exact h2 e (List.mem_of_getElem? he)
      · refine h5.imp_right fun ⟨g, o, arr, k0, k1, k2, k3, k4⟩ => ⟨g, o, arr, k0, k1, k2, k3, fun i e' j a' he' ha' => ?_⟩
        obtain ⟨e, he⟩ := hlen i e' he'
        have hsub := h i e e' he he'
        obtain ⟨a, ha⟩ : ∃ a, e[j]? = some a := ⟨_, List.getElem?_eq_getElem (by have := (List.getElem?_eq_some_iff.1 ha').1; have := hsub.1; omega)⟩
        obtain ⟨v, hv, hr⟩ := k4 i e j a he ha
        exact ⟨v, hv, hsub.2 j a a' ha ha' w S σ v hs hr⟩
    · exact hs.obj id _ h1
  · obtain ⟨o1, h1, e1, _⟩ := hget i o h
    obtain ⟨o2, h2, e2, _⟩ := hget j o' h'
    exact hs.dj i j o1 o2 b h1 h2 (e1.trans k) (e2.trans k')
  · obtain ⟨o1, h1, e1, _⟩ := hget i o h
    exact hs.sep i o1 b h1 (e1.trans k) hb
  · rintro b ⟨i, o, h, k, hb⟩
    obtain ⟨o1, h1, e1, _⟩ := hget i o h
    exact ⟨i, o1, h1, e1.trans k, hb⟩
theorem rt_st {v : AV} {Q : AV → AH → Prop} (hs : Gst P H1 H2) (hb : B ≤ H1.nx) (h : Rt P B v Q H2) : Rt P B v Q H1 := Gh.step (.st hs hb) h
end
/-- the arcs that begin at a state -/
def outs (l : List Arc) (s : Nat) : List Arc := l.filter fun a => decide (a.fr = (s : Int))
theorem outs_snoc (l : List Arc) (a : Arc) (s : Nat) : outs (l ++ [a]) s = if a.fr = (s : Int) then outs l s ++ [a] else outs l s := by
  unfold outs
  rw [List.filter_append]
  by_cases h : a.fr = (s : Int) <;> simp [h]
theorem outs_le (l : List Arc) (s : Nat) : (outs l s).length ≤ l.length := List.length_filter_le _ _
/-- a row of slices -/
def oV (V : Nat → AV) (n : Nat) : List (List AV) := (List.range n).map fun i => [V i]
@[simp] theorem oV_len (V : Nat → AV) (n : Nat) : (oV V n).length = n := by simp [oV]
theorem oV_get {V : Nat → AV} {n i : Nat} (h : i < n) : (oV V n)[i]? = some [V i] := by simp [oV, h]
theorem oV_set {V : Nat → AV} {n j : Nat} (x : AV) : (oV V n).set j [x] = oV (fun k => if k = j then x else V k) n := by
  refine List.ext_getElem (by simp [oV]) fun i h1 h2 => ?_
  rw [List.getElem_set]
  simp only [oV, List.getElem_map, List.getElem_range]
  by_cases e : j = i
  · subst e; simp
  · rw [if_neg e, if_neg (fun c => e c.symm)]
def fromE (m : Mac) : List (List AV) := oV (fun s => .dsl 5 ((outs m.arcs s).map Arc.cs)) m.states.toNat
/-- the rows of the states as they lie -/
structure FrAt (B H : AH) (R n : Nat) (V : Nat → AV) (l : List Arc) : Prop where
  le : B.le H
  bR : B.nx ≤ R
  row : H.get R = some (.row 22 1 (oV V n))
  at_ : ∀ s, s < n → (V s = .p (.slice none 0 0) ∧ outs l s = []) ∨ ∃ r, V s = .osl r 5 0 (outs l s).length ∧ B.nx ≤ r ∧ H.get r = some (.row 53 5 ((outs l s).map Arc.cs))
  inj : ∀ s t r a b, s < n → t < n → V s = .osl r 5 0 a → V t = .osl r 5 0 b → s = t
theorem FrAt.same {B H H' : AH} {R n : Nat} {V : Nat → AV} {l : List Arc} (h : FrAt B H R n V l) (_hw : WF B) (hwH : WF H) (hk : ∀ j, j < H.nx → H'.get j = H.get j) : FrAt B H' R n V l := by
  have hb : ∀ j o, H.get j = some o → H'.get j = some o := fun j o ho => by rw [hk j (hwH _ _ ho).1]; exact ho
  exact ⟨fun j o ho => hb _ _ (h.le _ _ ho), h.bR, hb _ _ h.row, fun s hs => (h.at_ s hs).imp id fun ⟨r, h1, h2, h3⟩ => ⟨r, h1, h2, hb _ _ h3⟩, h.inj⟩
/-- the rows become data, one after the other -/
theorem from_frz {B H1 : AH} {R n : Nat} {V : Nat → AV} {l : List Arc} (hw : WF B) (hn : B.nx ≤ H1.nx) (h : FrAt B H1 R n V l) : ∀ k, k ≤ n → ∃ H2, Gst Try.prog H1 H2 ∧ B.le H2 ∧ H2.nx = H1.nx ∧ H2.get R = some (.row 22 1 (oV (fun s => if s < k then .dsl 5 ((outs l s).map Arc.cs) else V s) n)) ∧
    ∀ s, k ≤ s → s < n → ∀ r a, V s = .osl r 5 0 a → H2.get r = H1.get r
  | 0, _ => ⟨H1, .refl _, h.le, rfl, by simpa using h.row, fun _ _ _ _ _ _ => rfl⟩
  | k + 1, hk => by
    obtain ⟨H2, g1, g2, g3, g4, g5⟩ := from_frz hw hn h k (by omega)
    have hup : ∀ (H3 : AH), Sub Try.prog H3 (V k) (.dsl 5 ((outs l k).map Arc.cs)) → H3.get R = some (.row 22 1 (oV (fun s => if s < k then .dsl 5 ((outs l s).map Arc.cs) else V s) n)) →
        Gst Try.prog H3 (H3.put R (.row 22 1 (oV (fun s => if s < k + 1 then .dsl 5 ((outs l s).map Arc.cs) else V s) n))) := fun H3 hs hg => by
      refine .resub hg (by simp) fun i e e' he he' => ?_
      have hi : i < n := by have := (List.getElem?_eq_some_iff.1 he).1; simpa using this
      rw [oV_get hi] at he he'
      injection he with he; injection he' with he'
      subst he he'
      by_cases e : i = k
      · subst e
        rw [if_neg (by omega), if_pos (by omega)]
        exact .cons hs .nil
      · by_cases e2 : i < k
        · rw [if_pos e2, if_pos (by omega)]; exact .refl _
        · rw [if_neg e2, if_neg (by omega)]; exact .refl _
    have hrR : ∀ s, s < n → ∀ r a, V s = .osl r 5 0 a → r ≠ R := fun s hs r a e q => by
      rcases h.at_ s hs with ⟨h1, _⟩ | ⟨r', h1, _, h3⟩
      · rw [h1] at e; cases e
      · rw [h1] at e; injection e with e; subst e; subst q
        rw [h.row] at h3; injection h3 with h3; injection h3 with h3; exact absurd h3 (by decide)
    rcases h.at_ k (by omega) with ⟨h1, h2⟩ | ⟨r, h1, h2, h3⟩
    · refine ⟨_, g1.trans (hup H2 (by rw [h1, h2]; exact .nil _ _ (Nat.zero_le _)) g4), AH.le.put hw h.bR g2, by simp only [put_nx]; exact g3, put_get _ _, fun s hs1 hs2 r a e => ?_⟩
      rw [AH.get_put_ne (hrR s hs2 r a e)]
      exact g5 s (by omega) hs2 r a e
    · have hg := (g5 k (Nat.le_refl _) (by omega) r _ h1).trans h3
      have hne := hrR k (by omega) r _ h1
      have hg4 : (H2.put r (.frz 5 ((outs l k).map Arc.cs))).get R = _ := (AH.get_put_ne (Ne.symm hne)).trans g4
      have hsub : Sub Try.prog (H2.put r (.frz 5 ((outs l k).map Arc.cs))) (V k) (.dsl 5 ((outs l k).map Arc.cs)) := by
        rw [h1]
        have := Sub.frz (P := Try.prog) (H := H2.put r (.frz 5 ((outs l k).map Arc.cs))) (r := r) (off := 0) (n := (outs l k).length) (put_get _ _) (by simp)
        rw [List.drop_zero, List.take_of_length_le (by simp)] at this
        exact this
      refine ⟨_, g1.trans ((Gst.freeze hg (dt_arcs _)).trans (hup _ hsub hg4)), AH.le.put hw h.bR (AH.le.put hw h2 g2), by simp only [put_nx]; exact g3, put_get _ _, fun s hs1 hs2 r' a e => ?_⟩
      rw [AH.get_put_ne (hrR s hs2 r' a e), AH.get_put_ne (fun q => by subst q; have := h.inj s k r' a _ hs2 (by omega) e h1; omega)]
      exact g5 s (by omega) hs2 r' a e
set_option maxHeartbeats 1000000 in
theorem c_from {m : Mac} (h1 : 1 ≤ m.states) (h2 : m.states ≤ 3000) (h3 : m.arcs.length ≤ 20000) (h4 : ∀ a ∈ m.arcs, 0 ≤ a.fr ∧ a.fr < m.states) : PF Try.prog 36 [m.av] (.dsl 1 (fromE m)) := fun H => tri_wf fun hw => tri_machine_from (by
  have hml : maxLen = 9223372036854775807 := by decide
  obtain ⟨n, hn⟩ : ∃ n : Nat, m.states = (n : Int) := ⟨m.states.toNat, by omega⟩
  unfold S_machine_from Mac.av Mac.cs
  rw [hn]
  simp (disch := first | omega | simp) [iv, put_get_ne]
  refine ⟨by omega, by omega, ?_⟩
  obtain ⟨R, hR⟩ : ∃ R, R = H.nx + 2 + 2 := ⟨_, rfl⟩
  rw [← hR]
  generalize hMe : AH.put _ _ _ = M
  have hMl : H.le M := by rw [← hMe]; exact (by repeat (first | with_reducible assumption | with_reducible exact AH.le.refl _ | with_reducible apply AH.le.up | (with_reducible refine AH.le.put hw ?_ ?_; · first | omega | (simp only [up_nx, put_nx, kill_nx]; done) | (simp only [up_nx, put_nx, kill_nx]; omega)) | (with_reducible refine AH.le.kill hw ?_ ?_; · first | omega | (simp only [up_nx, put_nx, kill_nx]; done) | (simp only [up_nx, put_nx, kill_nx]; omega))))
  have hMn : M.nx = H.nx + 6 := by rw [← hMe]; rfl
  have hMR : M.get R = some (.row 22 1 (oV (fun _ => .p (.slice none 0 0)) n)) := by
    rw [← hMe, put_get]
    congr 2
    refine List.ext_getElem (by simp) fun i h1 h2 => ?_
    simp [oV]
  clear hMe
  refine loop_wf (fun i : Nat => [iv i]) (fun i H' => M.nx ≤ H'.nx ∧ i ≤ m.arcs.length ∧ ∃ V, FrAt H H' R n V (m.arcs.take i)) (fun i => m.arcs.length - i) 0 (.refl (Nat.le_refl _)) ⟨Nat.le_refl _, Nat.zero_le _, _, hMl, by omega, hMR, fun s hs => .inl ⟨rfl, rfl⟩, fun s t r a b _ _ e => by cases e⟩ ?_
  rintro i H1 hn1 hw1 ⟨hnx, hi, V, hf⟩ k hk
  unfold S_machine_from_L1
  by_cases hil : i < m.arcs.length
  · obtain ⟨x, hx⟩ : ∃ x, m.arcs[i]? = some x := ⟨_, List.getElem?_eq_getElem hil⟩
    have hxg : ∀ h, m.arcs[i]'h = x := fun h => (List.getElem?_eq_some_iff.1 hx).2
    have hiv := ivn (i := i) (by omega)
    have hb := h4 x (List.mem_of_getElem? hx)
    obtain ⟨s, hs⟩ : ∃ s : Nat, x.fr = (s : Int) := ⟨x.fr.toNat, by omega⟩
    have hsn : s < n := by omega
    have hge := oV_get (V := V) hsn
    have htk : m.arcs.take (i + 1) = m.arcs.take i ++ [x] := by rw [List.take_add_one, hx]; rfl
    have hol := outs_le (m.arcs.take i) s
    rw [List.length_take] at hol
    have hRl : R < H1.nx := by omega
    have hrow := hf.row
    simp (disch := first | omega | simp) [iv, hil, hxg, Arc.cs]
    rw [hs]
    generalize hNe : AH.up _ 13 = N
    have hNn : N.nx = H1.nx + 17 := by rw [← hNe]; rfl
    have hNk : ∀ j, j < H1.nx → N.get j = H1.get j := fun j hj => by rw [← hNe, up_get, AH.get_put_ne (by omega), AH.get_put_ne (by omega), up_get]
    have hNx : N.get (H1.nx + 2) = some (.box 53 [.p (.int .i64 (s : Int)), .p (.int .i64 x.to), .p (.int .i64 x.inn), .p (.int .i64 x.out), .p (.int .i64 x.w)]) := by rw [← hNe, up_get, put_get]
    clear hNe
    have hNf := hf.same hw hw1 hNk
    have hNR := hNf.row
    have hxc : [AV.p (.int .i64 (s : Int)), .p (.int .i64 x.to), .p (.int .i64 x.inn), .p (.int .i64 x.out), .p (.int .i64 x.w)] = x.cs := by unfold Arc.cs iv; rw [hs]
    have hbR := hf.bR
    have hX2 : H1.nx + 2 ≠ R := by omega
    -- what is laid: the new row, and the state's place
    have hgo : ∀ (H5 : AH) (c : Nat), c = (outs (m.arcs.take i) s).length + 1 → H5.nx = N.nx → H5.get R = some (.row 22 1 (oV V n)) → (∀ j o, j < H1.nx → N.get j = some o → (∀ a, V s ≠ .osl j 5 0 a) → H5.get j = some o) → H5.get (H1.nx + 4 + 10) = some (.row 53 5 ((outs (m.arcs.take i) s ++ [x]).map Arc.cs)) →
        k [.p (.int .i64 ((i + 1 : Nat) : Int))] (H5.put R (.row 22 1 ((oV V n).set s [.osl (H1.nx + 4 + 10) 5 0 c]))) := fun H5 c hc hn5 hr5 hk5 hid => by
      refine hk (i + 1) _ _ _ (.refl (by first | omega | (simp only [put_nx]; done) | (simp only [put_nx]; omega))) ⟨(by first | omega | (simp only [put_nx]; done) | (simp only [put_nx]; omega)), hil, fun t => if t = s then .osl (H1.nx + 4 + 10) 5 0 c else V t, ?_⟩ (by omega)
      rw [htk]
      have hVr : ∀ t r a, t < n → V t = .osl r 5 0 a → r < H1.nx ∧ r ≠ R ∧ N.get r = some (.row 53 5 ((outs (m.arcs.take i) t).map Arc.cs)) ∧ H.nx ≤ r := fun t r a ht e => by
        rcases hf.at_ t ht with ⟨g1, _⟩ | ⟨r', g1, g2, g3⟩
        · rw [g1] at e; cases e
        · rw [g1] at e; injection e with e; subst e
          have hlt := (hw1 _ _ g3).1
          exact ⟨hlt, fun q => by subst q; rw [hf.row] at g3; injection g3 with g3; injection g3 with g3; exact absurd g3 (by decide), by rw [hNk _ hlt]; exact g3, g2⟩
      refine ⟨AH.le.put hw hbR (fun j o ho => hk5 j o (by have := (hw _ _ ho).1; omega) (hNf.le _ _ ho) fun a e => by have := (hVr s j a hsn e).2.2.2; have := (hw _ _ ho).1; omega), hbR, by rw [put_get, oV_set], fun t ht => ?_, fun t u r a b ht hu e1 e2 => ?_⟩
      · by_cases e : t = s
        · subst e
          refine .inr ⟨H1.nx + 4 + 10, ?_, by omega, ?_⟩
          · rw [if_pos rfl, outs_snoc, if_pos hs, hc]; simp
          · rw [AH.get_put_ne (by omega), hid, outs_snoc, if_pos hs]
        · rw [if_neg e, outs_snoc, if_neg (by omega)]
          rcases hf.at_ t ht with g | ⟨r, g1, g2, g3⟩
          · exact .inl g
          · obtain ⟨q1, q2, q3, q4⟩ := hVr t r _ ht g1
            refine .inr ⟨r, g1, g2, ?_⟩
            rw [AH.get_put_ne q2]
            exact hk5 r _ q1 q3 fun a e' => e (hf.inj t s r _ a ht hsn g1 e')
      · by_cases et : t = s
        · by_cases eu : u = s
          · rw [et, eu]
          · rw [if_pos et] at e1; rw [if_neg eu] at e2
            injection e1 with e1
            have := (hVr u r b hu e2).1
            omega
        · by_cases eu : u = s
          · rw [if_neg et] at e1; rw [if_pos eu] at e2
            injection e2 with e2
            have := (hVr t r a ht e1).1
            omega
          · rw [if_neg et] at e1; rw [if_neg eu] at e2
            exact hf.inj t u r a b ht hu e1 e2
    rcases hf.at_ s hsn with ⟨g1, g2⟩ | ⟨r, g1, g2, g3⟩
    · refine ⟨[], ?_⟩
      rw [g1] at hge
      simp (disch := first | omega | simp) [hNx, hNR, hge, hsn]
      refine wro_nil (elF_whole (t := 53) (es := [x.cs]) rfl (by rw [put_get, ← hxc]) rfl) (by simp; omega) (by simp) ?_
      have hR9 : R ≠ H1.nx + 4 + 9 := by omega
      have hR10 : R ≠ H1.nx + 4 + 10 := by omega
      simp (disch := first | omega | simp) [put_get_ne, hNR, hge, hsn, hiv]
      refine hgo _ 1 (by rw [g2]; rfl) rfl ?_ (fun j o hj ho _ => ?_) ?_
      · rw [AH.get_put_ne hR10, AH.get_put_ne hR9]; exact hNR
      · rw [AH.get_put_ne (by omega), AH.get_put_ne (by omega)]; exact ho
      · rw [put_get, g2]; rfl
    · refine ⟨[r], ?_⟩
      rw [g1] at hge
      have hlt := (hw1 _ _ g3).1
      have hrR : R ≠ r := fun q => by subst q; rw [hf.row] at g3; injection g3 with g3; injection g3 with g3; exact absurd g3 (by decide)
      have hNr := (hNk r hlt).trans g3
      have hX3 : H1.nx + 2 ≠ r := by omega
      simp (disch := first | omega | simp) [del_get_ne, hNx, hNR, hge, hsn]
      refine wro_own (es := (outs (m.arcs.take i) s).map Arc.cs) (by omega) AH.get_del_self (by rw [AH.get_put_ne (by omega)]; exact hNr) (by simp) (elF_whole (t := 53) (es := [x.cs]) rfl (by rw [put_get, ← hxc]) rfl) (by simp; omega) (by simp; omega) ?_
      have hR9 : R ≠ H1.nx + 4 + 9 := by omega
      have hR10 : R ≠ H1.nx + 4 + 10 := by omega
      have hes : (outs (m.arcs.take i) s).map Arc.cs ++ [x.cs] = (outs (m.arcs.take i) s ++ [x]).map Arc.cs := by simp
      rw [hes]
      simp (disch := first | omega | simp) [put_get_ne, hNR, hge, hsn, hiv, AH.kill]
      refine hgo _ _ (by simp) rfl ?_ (fun j o hj ho hv => ?_) ?_
      · rw [AH.get_put_ne hR10, AH.get_put_ne hrR, AH.get_put_ne hR9]; exact hNR
      · rw [AH.get_put_ne (by omega), AH.get_put_ne (fun e => hv _ (by rw [e]; exact g1)), AH.get_put_ne (by omega)]; exact ho
      · rw [put_get]; simp
  · have hie : m.arcs.take i = m.arcs := List.take_of_length_le (by omega)
    rw [hie] at hf
    simp (disch := first | omega | simp) [iv, hil]
    obtain ⟨H2, g1, g2, g3, g4, _⟩ := from_frz hw (by omega) hf n (Nat.le_refl _)
    refine rt_st g1 (by omega) (rt_st (.freeze g4 ?_) (by omega) ?_)
    · intro e he a ha
      simp only [oV, List.mem_map, List.mem_range] at he
      obtain ⟨s, hs, rfl⟩ := he
      simp only [List.mem_singleton] at ha
      subst ha
      rw [if_pos hs]; exact Dt.dsl _ _
    have hfe : oV (fun s => if s < n then AV.dsl 5 ((outs m.arcs s).map Arc.cs) else V s) n = fromE m := by
      unfold fromE
      rw [show m.states.toNat = n by omega]
      unfold oV
      exact List.map_congr_left fun s hs => by dsimp only; rw [if_pos (List.mem_range.1 hs)]
    rw [hfe] at g4 ⊢
    refine rt_sub (v' := .dsl 1 (fromE m)) hw (AH.le.put hw hf.bR g2) (by simp only [put_nx]; omega) ?_ (by repeat (first | exact Cl.p _ | exact Cl.dsl _ _ | exact Cl.any | refine Cl.tup ?_ | refine Cl.agg ?_ | exact Clo.nil | refine Clo.cons ?_ ?_)) ⟨rfl, rfl⟩
    have := Sub.frz (P := Try.prog) (H := H2.put R (.frz 1 (fromE m))) (r := R) (off := 0) (n := n) (put_get _ _) (by rw [← hfe]; simp)
    rw [List.drop_zero, List.take_of_length_le (by rw [← hfe]; simp)] at this
    exact this)
end Go.Proofs.Ytgkkilbeingleaa

/- Abstract walks of functions, written by a program (wip/aw/aw.py): each equation is checked by the kernel. -/
namespace Go.Proofs.Ytgkkilbeingleaa
open Go.RowKit

/-! slices.IndexFunc[[]int,int] -/
def ac_slices_IndexFunc_s_int_int : AC := (.seq (.reg 0) (.seq (.seq (.reg 1) (.block 0 (.loop [8] [(4, 6), (9, 19)] (.seq (.reg 2) (.seq (.cond (.tmp 9) .skip (.exit 0)) (.seq (.block 1 (.seq (.reg 3) (.seq (.reg 4) (.cond (.tmp 16) (.seq (.reg 5) .ret) .skip)))) (.reg 6))))))) (.seq (.reg 7) .ret)))
def S_slices_IndexFunc_s_int_int_L1 (a0 : AV) (a1 : AV) (Q : AV → AH → Prop) (H : AH) (v7 : AV) (vs : List AV) (k : List AV → AH → Prop) : AH → Prop :=
 Pu Try.prog (.bin .lss 3) [(vs.getD 0 .any), v7] fun v9 =>
 CdA v9
 (
 Pu Try.prog (.idx 1) [a0, (vs.getD 0 .any)] fun v14 =>
 RdS Try.prog (.ld 1 false) [v14] fun v15 =>
 Ca Try.prog a1 [v15] fun v16 =>
 CdA v16
 (
 Rt Try.prog H.nx (vs.getD 0 .any) Q
 ) (
 Pu Try.prog (.bin .add 3) [(vs.getD 0 .any), (.p (.int .i64 1))] fun v18 =>
 k [v18]
 )
 ) (
 Rt Try.prog H.nx (.p (.int .i64 (-1))) Q
 )
def S_slices_IndexFunc_s_int_int (a0 a1 : AV) (Q : AV → AH → Prop) (H : AH) : Prop := (
 Pu Try.prog .len [a0] fun v7 =>
 LoopA Try.prog 1 (S_slices_IndexFunc_s_int_int_L1 a0 a1 Q H v7) [(.p (.int .i64 0))]
 ) H
theorem eq_slices_IndexFunc_s_int_int (a0 a1 : AV) (Q : AV → AH → Prop) (H : AH) : FnA Try.prog 19 (regsF Try.f57) ac_slices_IndexFunc_s_int_int [.tm 4] [a0, a1] H Q = S_slices_IndexFunc_s_int_int a0 a1 Q H := by kernel_rfl
theorem tri_slices_IndexFunc_s_int_int {a0 a1 : AV} {H : AH} {Q : AV → AH → Prop} (h : S_slices_IndexFunc_s_int_int a0 a1 Q H) : Tri Try.prog 57 [a0, a1] H Q :=
  tri_of (Ms := [#[], #[], #[], #[], #[], #[], #[], #[]]) mixed Try.func57 rfl (by kernel_rfl) (by kernel_rfl) rfl (of_decide_eq_true rfl : 2 ≤ 19) (by rw [eq_slices_IndexFunc_s_int_int a0 a1 Q H]; exact h : FnA Try.prog 19 (regsF Try.f57) ac_slices_IndexFunc_s_int_int [.tm 4] [a0, a1] H Q)
end Go.Proofs.Ytgkkilbeingleaa

/- The constant machine: its cost is 3. -/
namespace Go.Proofs.Ytgkkilbeingleaa
open Go.RowKit Go.Maps
theorem c_sp1 (x : Int) : PF Try.prog 55 [iv x] (bv (!(decide (1 ≤ x) && decide (x ≤ 60)))) := fun H => tri_wf fun hw => tri_machine_spoken_fn1 (by
  unfold S_machine_spoken_fn1
  by_cases h1 : x < 1
  · simp (disch := first | omega | simp) [iv, h1]
    exact rt_refl ⟨rfl, by have : ¬ 1 ≤ x := by omega
                           simp [bv, this]⟩ (Nat.le_refl _)
  · by_cases h2 : 60 < x
    · simp (disch := first | omega | simp) [iv, h1, h2]
      exact rt_refl ⟨rfl, by have : ¬ x ≤ 60 := by omega
                             simp [bv, this]⟩ (Nat.le_refl _)
    · simp (disch := first | omega | simp) [iv, h1, h2]
      exact rt_refl ⟨rfl, by have : x ≤ 60 := by omega
                             have : 1 ≤ x := by omega
                             simp [bv, *]⟩ (Nat.le_refl _))
theorem c_spokenIx (l : List Int) {H : AH} : Tri Try.prog 57 [.dsl 1 (nE l), .fn (.func 55) [] []] H (fun r H' => H' = H ∧ ∃ i : Int, r = iv i ∧ ((i < 0 ∧ symB l = true) ∨ (0 ≤ i ∧ symB l = false))) := tri_wf fun hw => tri_len 0 rfl fun hl _ => tri_slices_IndexFunc_s_int_int (by
  have hml : maxLen = 9223372036854775807 := by decide
  rw [nE_len] at hl
  unfold S_slices_IndexFunc_s_int_int
  simp (disch := first | omega | simp) []
  refine loop_st (fun i : Nat => [iv i]) (fun i H' => H = H' ∧ i ≤ l.length ∧ symB l = symB (l.drop i)) (fun i => l.length - i) 0 (.refl (Nat.le_refl _)) ⟨rfl, Nat.zero_le _, by rw [List.drop_zero]⟩ ?_
  rintro i _ _ ⟨rfl, hi, hc⟩ k hk
  unfold S_slices_IndexFunc_s_int_int_L1
  by_cases hil : i < l.length
  · obtain ⟨x, hx⟩ : ∃ x, l[i]? = some x := ⟨_, List.getElem?_eq_getElem hil⟩
    have hil' : (i : Int) < (l.length : Int) := by omega
    have hxe := nE_get hx
    have hiv := ivn (i := i) (by omega)
    unfold symB at hc
    rw [all_at hx] at hc
    unfold iv at hxe
    simp (disch := first | omega | simp) [iv, hil', hxe]
    refine ca_pure (by kernel_rfl) (c_sp1 x _) ?_
    cases q : (decide (1 ≤ x) && decide (x ≤ 60)) with
    | true =>
      rw [q, Bool.true_and] at hc
      simp (disch := first | omega | simp) [bv, hiv]
      exact hk (i + 1) _ _ _ (.refl (Nat.le_refl _)) ⟨rfl, hil, hc⟩ (by omega)
    | false =>
      rw [q, Bool.false_and] at hc
      simp (disch := first | omega | simp) [bv]
      exact rt_refl ⟨rfl, i, rfl, .inr ⟨by omega, hc⟩⟩ (Nat.le_refl _)
  · have hil' : ¬ (i : Int) < (l.length : Int) := by omega
    simp (disch := first | omega | simp) [iv, hil']
    exact rt_refl ⟨rfl, -1, rfl, .inl ⟨by omega, by rw [hc, List.drop_eq_nil_iff.2 (by omega)]; rfl⟩⟩ (Nat.le_refl _))
theorem c_spoken (l : List Int) : PF Try.prog 35 [.dsl 1 (nE l)] (bv (symB l)) := fun H => tri_wf fun hw => tri_machine_spoken (by
  unfold S_machine_spoken
  refine ca_of (Q := fun r H' => H' = H ∧ r = bv (!symB l)) (by kernel_rfl) (tri_slices_ContainsFunc_s_int_int (by
    unfold S_slices_ContainsFunc_s_int_int
    refine ca_of (by kernel_rfl) (c_spokenIx l) ?_
    rintro _ _ ⟨rfl, i, rfl, h | h⟩
    · have : ¬ 0 ≤ i := by omega
      simp (disch := first | omega | simp) [iv, this]
      exact rt_refl ⟨rfl, by rw [h.2]; rfl⟩ (Nat.le_refl _)
    · have : 0 ≤ i := by omega
      simp (disch := first | omega | simp) [iv, this]
      exact rt_refl ⟨rfl, by rw [h.2]; rfl⟩ (Nat.le_refl _))) ?_
  rintro _ _ ⟨rfl, rfl⟩
  simp (disch := first | omega | simp) [bv]
  exact rt_refl ⟨rfl, by simp⟩ (Nat.le_refl _))
def from1 : List (List AV) := [[.dsl 5 (oneM.arcs.map Arc.cs)], [.dsl 5 []]]
set_option maxHeartbeats 1000000 in
theorem c_from1 : PF Try.prog 36 [oneM.av] (.dsl 1 from1) := fun H => tri_wf fun hw => tri_machine_from (by
  have hml : maxLen = 9223372036854775807 := by decide
  unfold S_machine_from Mac.av oneM Mac.cs
  simp (disch := first | omega | simp) [iv, Arc.cs, Fin_.cs, put_get_ne]
  refine ⟨by omega, ?_⟩
  obtain ⟨R, hR⟩ : ∃ R, R = H.nx + 2 + 2 := ⟨_, rfl⟩
  rw [← hR]
  generalize hMe : AH.put _ _ _ = M
  have hMl : H.le M := by rw [← hMe]; exact (by repeat (first | with_reducible assumption | with_reducible exact AH.le.refl _ | with_reducible apply AH.le.up | (with_reducible refine AH.le.put hw ?_ ?_; · first | omega | (simp only [up_nx, put_nx, kill_nx]; done) | (simp only [up_nx, put_nx, kill_nx]; omega)) | (with_reducible refine AH.le.kill hw ?_ ?_; · first | omega | (simp only [up_nx, put_nx, kill_nx]; done) | (simp only [up_nx, put_nx, kill_nx]; omega))))
  have hMn : M.nx = H.nx + 6 := by rw [← hMe]; rfl
  have hMR : M.get R = some (.row 22 1 [[.p (.slice none 0 0)], [.p (.slice none 0 0)]]) := by rw [← hMe, put_get]
  clear hMe
  refine loop_wf (fun i : Nat => [iv i]) (fun i H' => H.le H' ∧ M.nx ≤ H'.nx ∧ ((i = 0 ∧ H'.get R = some (.row 22 1 [[.p (.slice none 0 0)], [.p (.slice none 0 0)]])) ∨ (i = 1 ∧ ∃ r, H.nx ≤ r ∧ r ≠ R ∧ H'.get R = some (.row 22 1 [[.osl r 5 0 1], [.p (.slice none 0 0)]]) ∧ H'.get r = some (.row 53 5 (oneM.arcs.map Arc.cs))))) (fun i => 1 - i) 0 (.refl (Nat.le_refl _)) ⟨hMl, Nat.le_refl _, .inl ⟨rfl, hMR⟩⟩ ?_
  rintro i H1 hn1 hw1 ⟨hle, hnx, ⟨rfl, hr⟩ | ⟨rfl, r, h1, h2, h3, h4⟩⟩ k hk
  · unfold S_machine_from_L1
    simp (disch := first | omega | simp) [iv]
    refine ⟨[], ?_⟩
    have hRl : R < H1.nx := by omega
    simp (disch := first | omega | simp) [put_get_ne, hr]
    refine wro_nil (elF_whole (t := 53) (es := oneM.arcs.map Arc.cs) rfl (by simp (disch := first | omega | simp); rfl) rfl) (by simp [oneM]; omega) (by simp [oneM]) ?_
    have hz : IntKind.i64.wrap ((0 : Int) + 1) = 1 := by decide
    simp (disch := first | omega | simp) [put_get_ne, hr]
    refine hk 1 _ _ _ (.refl (by first | omega | (simp only [up_nx, put_nx]; done) | (simp only [up_nx, put_nx]; omega))) ⟨?_, (by first | omega | (simp only [up_nx, put_nx]; done) | (simp only [up_nx, put_nx]; omega)), .inr ⟨rfl, H1.nx + 4 + 10, by omega, by omega, put_get _ _, by simp (disch := first | omega | simp) [put_get_ne]⟩⟩ (by omega)
    exact AH.le.put hw (by omega) (AH.le.put hw (by omega) (AH.le.put hw (by omega) (AH.le.up (AH.le.put hw (by omega) (AH.le.put hw (by omega) (AH.le.up hle))))))
  · unfold S_machine_from_L1
    simp (disch := first | omega | simp) [iv]
    have dA : DtR (oneM.arcs.map Arc.cs) := dt_arcs _
    refine rt_st (.freeze h4 dA) (by first | omega | (simp only [up_nx, put_nx, kill_nx]; done) | (simp only [up_nx, put_nx, kill_nx]; omega)) ?_
    have h3' : (H1.put r (.frz 5 (oneM.arcs.map Arc.cs))).get R = some (.row 22 1 [[.osl r 5 0 1], [.p (.slice none 0 0)]]) := by rw [AH.get_put_ne (Ne.symm h2)]; exact h3
    refine rt_st (.resub (es' := from1) h3' rfl ?_) (by first | omega | (simp only [put_nx]; done) | (simp only [put_nx]; omega)) ?_
    · rintro i e e' he he'
      match i with
      | 0 => injection he with he; injection he' with he'; subst he he'; exact .cons (.frz (es := oneM.arcs.map Arc.cs) (off := 0) (n := 1) (put_get _ _) (Nat.le_refl _)) .nil
      | 1 => injection he with he; injection he' with he'; subst he he'; exact .cons (.nil _ _ (Nat.zero_le _)) .nil
      | i + 2 => cases he
    refine rt_st (.freeze (put_get _ _) ?_) (by first | omega | (simp only [put_nx]; done) | (simp only [put_nx]; omega)) ?_
    · intro e he x hx
      simp only [from1, List.mem_cons, List.not_mem_nil, or_false] at he
      rcases he with rfl | rfl <;> (simp only [List.mem_singleton] at hx; subst hx; exact Dt.dsl _ _)
    refine rt_sub (v' := .dsl 1 from1) hw (by repeat (first | with_reducible assumption | with_reducible exact AH.le.refl _ | with_reducible apply AH.le.up | (with_reducible refine AH.le.put hw ?_ ?_; · first | omega | (simp only [up_nx, put_nx, kill_nx]; done) | (simp only [up_nx, put_nx, kill_nx]; omega)) | (with_reducible refine AH.le.kill hw ?_ ?_; · first | omega | (simp only [up_nx, put_nx, kill_nx]; done) | (simp only [up_nx, put_nx, kill_nx]; omega)))) (by first | omega | (simp only [put_nx]; done) | (simp only [put_nx]; omega)) ?_ (by repeat (first | exact Cl.p _ | exact Cl.dsl _ _ | exact Cl.any | refine Cl.tup ?_ | refine Cl.agg ?_ | exact Clo.nil | refine Clo.cons ?_ ?_)) ⟨rfl, rfl⟩
    exact .frz (es := from1) (off := 0) (n := 2) (put_get _ _) (Nat.le_refl _))
/-- a place as a key -/
def pv (a b c : Int) : Value := .agg #[.int .i64 a, .int .i64 b, .int .i64 c]
theorem laid : laidOutB Try.prog = true := by kernel_rfl
theorem lawPl : Keyed Try.prog 62 := Keyed.of_law (deep_law_laid laid (m := 3) (by omega) (of_decide_eq_true (by kernel_rfl)) (by kernel_rfl) (by kernel_rfl))
theorem fuel3 : ∃ d, Try.prog.types.size + 1 = d + 3 := ⟨Try.prog.types.size - 2, by
  have : 3 ≤ Try.prog.types.size := of_decide_eq_true (by kernel_rfl)
  omega⟩
theorem cellsInt : Try.prog.cellsOf 3 = 1 := by kernel_rfl
theorem cellsPl : Try.prog.cellsOf 62 = 3 := by kernel_rfl
theorem typePl : Try.prog.keyType 62 = true := by kernel_rfl
theorem keyPl {a b c : Int} (h1 : I64 a) (h2 : I64 b) (h3 : I64 c) : (keyOf Try.prog 62 (pv a b c)).isSome = true := by
  obtain ⟨d, hd⟩ := fuel3
  have w1 := h1.wf; have w2 := h2.wf; have w3 := h3.wf
  unfold keyOf pv
  rw [Try.underlying62, hd]
  simp [typePl, Value.formed, Value.cells, Program.keyLits, Try.underlying62, Try.underlying3, cellsPl, cellsInt, w1, w2, w3]
theorem sm {z : Int} (h : 0 ≤ z) (h2 : z ≤ 100) : I64 z := by unfold I64; omega
noncomputable def best0 : Value → Option AV := putA (fun _ => none) (pv 0 0 0) (iv 0)
noncomputable def best1 : Value → Option AV := putA best0 (pv 1 1 1) (iv 3)
theorem best00 : best0 (pv 0 0 0) = some (iv 0) := putA_same _ _ _
theorem best01 : best0 (pv 1 1 1) = none := by unfold best0; rw [putA_other _ _ (by unfold pv; simp)]
theorem best11 : best1 (pv 1 1 1) = some (iv 3) := putA_same _ _ _
set_option maxHeartbeats 1000000 in
theorem c_Cost1 : PF Try.prog 11 [oneM.av, .dsl 1 (nE [1]), .dsl 1 (nE [2])] (.tup [iv 3, bv true, iv 0]) := fun H => tri_wf fun hw => tri_machine_Cost (by
  have hml : maxLen = 9223372036854775807 := by decide
  have hchk : oneM.chk = 0 := Mac.chk_ok.2 (by
    refine ⟨by decide, by decide, by decide, by decide, fun a ha => ?_, fun f hf => ?_, by decide⟩
    · have := List.mem_singleton.1 (show a ∈ [⟨0, 1, 1, 2, 3⟩] from ha); subst this; decide
    · have := List.mem_singleton.1 (show f ∈ [⟨1, 0⟩] from hf); subst this; decide)
  unfold S_machine_Cost
  have hav : oneM.av = .agg [.p (.int .i64 2), .dsl 5 (oneM.arcs.map Arc.cs), .dsl 2 (oneM.fins.map Fin_.cs)] := rfl
  rw [hav]
  simp (disch := first | omega | simp)
  refine ca_pure (by kernel_rfl) (c_Check oneM _) ?_
  rw [hchk]
  simp (disch := first | omega | simp) [iv]
  unfold S_machine_Cost_C10
  simp (disch := first | omega | simp)
  refine ca_pure (by kernel_rfl) (c_spoken [1] _) ?_
  have hs1 : symB [1] = true := by decide
  have hs2 : symB [2] = true := by decide
  rw [hs1]
  simp (disch := first | omega | simp) [bv]
  refine ca_pure (by kernel_rfl) (c_spoken [2] _) ?_
  rw [hs2]
  simp (disch := first | omega | simp) [bv]
  refine ca_pure (by kernel_rfl) (c_from1 _) ?_
  have hk0 : (keyOf Try.prog 62 (pv 0 0 0)).isSome = true := keyPl (sm (by decide) (by decide)) (sm (by decide) (by decide)) (sm (by decide) (by decide))
  have hk1 : (keyOf Try.prog 62 (pv 1 1 1)).isSome = true := keyPl (sm (by decide) (by decide)) (sm (by decide) (by decide)) (sm (by decide) (by decide))
  unfold pv at hk0 hk1
  simp (disch := first | omega | simp) [lawPl, hk0]
  refine ⟨by omega, ?_⟩
  have b00 := best00
  have b01 := best01
  have b11 := best11
  unfold pv at b00 b01 b11
  unfold iv at b00 b11
  obtain ⟨mp, hmp⟩ : ∃ mp, mp = H.nx + 4 := ⟨_, rfl⟩
  obtain ⟨r0, hr0⟩ : ∃ r0, r0 = H.nx + 4 + 5 + 1 := ⟨_, rfl⟩
  rw [← hr0, ← hmp]
  generalize hMe : AH.put _ _ _ = M
  have hMl : H.le M := by rw [← hMe]; exact (by repeat (first | with_reducible assumption | with_reducible exact AH.le.refl _ | with_reducible apply AH.le.up | (with_reducible refine AH.le.put hw ?_ ?_; · first | omega | (simp only [up_nx, put_nx, kill_nx]; done) | (simp only [up_nx, put_nx, kill_nx]; omega)) | (with_reducible refine AH.le.kill hw ?_ ?_; · first | omega | (simp only [up_nx, put_nx, kill_nx]; done) | (simp only [up_nx, put_nx, kill_nx]; omega))))
  have hMn : M.nx = H.nx + 12 := by rw [← hMe]; rfl
  have hM0 : M.get H.nx = some (.box 25 oneM.cs) := by rw [← hMe]; simp (disch := first | omega | simp) [put_get_ne]; rfl
  have hMm : M.get mp = some (.map 62 1 best0) := by rw [← hMe]; simp (disch := first | omega | simp) [put_get_ne]; rfl
  have hMr : M.get r0 = some (.row 62 3 [[iv 0, iv 0, iv 0]]) := by rw [← hMe, put_get]; rfl
  clear hMe
  have hz : IntKind.i64.wrap ((0 : Int) + 1) = 1 := by decide
  have h33 : IntKind.i64.wrap ((0 : Int) + 3) = 3 := by decide
  have h30 : IntKind.i64.wrap ((3 : Int) + 0) = 3 := by decide
  refine loop_wf (fun x : Nat × AV => [x.2]) (fun x H' => H.le H' ∧ M.nx ≤ H'.nx ∧ H'.get H.nx = some (.box 25 oneM.cs) ∧
    ((x.1 = 0 ∧ x.2 = .osl r0 3 0 1 ∧ H'.get r0 = some (.row 62 3 [[iv 0, iv 0, iv 0]]) ∧ H'.get mp = some (.map 62 1 best0)) ∨
     (x.1 = 1 ∧ ∃ r, mp < r ∧ x.2 = .osl r 3 0 1 ∧ H'.get r = some (.row 62 3 [[iv 1, iv 1, iv 1]]) ∧ H'.get mp = some (.map 62 2 best1)) ∨
     (x.1 = 2 ∧ ∃ r, mp < r ∧ x.2 = .osl r 3 1 0 ∧ H'.get mp = some (.map 62 2 best1)))) (fun x => 2 - x.1) (0, .osl r0 3 0 1) (.refl (Nat.le_refl _)) ⟨hMl, Nat.le_refl _, hM0, .inl ⟨rfl, rfl, hMr, hMm⟩⟩ ?_
  rintro ⟨ph, v⟩ H1 hn1 hw1 ⟨hle, hnx, hb, h | h | h⟩ k hk
  · obtain ⟨rfl, rfl, hr, hm⟩ := h
    dsimp only at hr hm hk ⊢
    unfold S_machine_Cost_L9
    unfold iv at hr
    have hf : from1 = [[.dsl 5 (oneM.arcs.map Arc.cs)], [.dsl 5 []]] := rfl
    have ha : oneM.arcs.map Arc.cs = [[.p (.int .i64 0), .p (.int .i64 1), .p (.int .i64 1), .p (.int .i64 2), .p (.int .i64 3)]] := rfl
    simp (disch := first | omega | simp) [hr, hf, ha]
    generalize hM2e : AH.put _ _ _ = M2
    have hM2n : M2.nx = H1.nx + 5 := by rw [← hM2e]; rfl
    have hM2k : ∀ j, j < H1.nx → M2.get j = H1.get j := fun j hj => by rw [← hM2e, AH.get_put_ne (by omega), AH.get_put_ne (by omega), up_get]
    have hM2l : H.le M2 := fun j o ho => by rw [hM2k j (by have := (hw _ _ ho).1; omega)]; exact hle _ _ ho
    have hM2p : M2.get (H1.nx + 3) = some (.box 62 [.p (.int .i64 0), .p (.int .i64 0), .p (.int .i64 0)]) := by rw [← hM2e, put_get]
    clear hM2e
    have hr0l := (hw1 _ _ hr).1
    have hmpl := (hw1 _ _ hm).1
    refine loop_wf (fun x : Nat × AV => [x.2, iv (x.1 : Int)]) (fun x H' => H.le H' ∧ M2.nx ≤ H'.nx ∧ H'.get H.nx = some (.box 25 oneM.cs) ∧ ((x.1 = 0 ∧ x.2 = .osl r0 3 1 0 ∧ (∀ j, j < M2.nx → H'.get j = M2.get j)) ∨ (x.1 = 1 ∧ ∃ r, mp < r ∧ x.2 = .osl r 3 0 1 ∧ H'.get r = some (.row 62 3 [[iv 1, iv 1, iv 1]]) ∧ H'.get mp = some (.map 62 2 best1)))) (fun x => 1 - x.1) (0, .osl r0 3 1 0) (.refl (Nat.le_refl _)) ⟨hM2l, Nat.le_refl _, by rw [hM2k _ (by omega)]; exact hb, .inl ⟨rfl, rfl, fun _ _ => rfl⟩⟩ ?_
    rintro ⟨i, v⟩ H3 hn3 hw3 ⟨hle3, hnx3, hb3, h | h⟩ k3 hk3
    · obtain ⟨rfl, rfl, hsm⟩ := h
      dsimp only at hk3 ⊢
      have q1 : H3.get r0 = _ := (hsm r0 (by omega)).trans ((hM2k r0 hr0l).trans hr)
      have q2 : H3.get mp = _ := (hsm mp (by omega)).trans ((hM2k mp hmpl).trans hm)
      have q3 : H3.get (H1.nx + 3) = _ := (hsm _ (by omega)).trans hM2p
      unfold S_machine_Cost_L6
      simp (disch := first | omega | simp) [iv]
      unfold S_machine_Cost_C5
      simp (disch := first | omega | simp) [put_get_ne, q3]
      obtain ⟨A, hA⟩ : ∃ A, A = H3.nx + 2 := ⟨_, rfl⟩
      obtain ⟨B, hB⟩ : ∃ B, B = H3.nx + 4 + 7 := ⟨_, rfl⟩
      obtain ⟨C, hC⟩ : ∃ C, C = H1.nx + 3 := ⟨_, rfl⟩
      rw [← hA, ← hB, ← hC]
      rw [← hC] at q3
      generalize hM4e : AH.put _ _ _ = M4
      have hM4n : M4.nx = H3.nx + 13 := by rw [← hM4e]; rfl
      have hM4k : ∀ j, j < H3.nx → M4.get j = H3.get j := fun j hj => by rw [← hM4e, AH.get_put_ne (by omega), AH.get_put_ne (by omega), up_get, AH.get_put_ne (by omega), AH.get_put_ne (by omega), up_get]
      have hM4l : H.le M4 := fun j o ho => by rw [hM4k j (by have := (hw _ _ ho).1; omega)]; exact hle3 _ _ ho
      have gA : M4.get A = some (.box 53 [.p (.int .i64 0), .p (.int .i64 1), .p (.int .i64 1), .p (.int .i64 2), .p (.int .i64 3)]) := by rw [← hM4e]; simp (disch := first | omega | simp) [put_get_ne, hA, hB]
      have gB : M4.get B = some (.box 62 [.p (.int .i64 1), .p (.int .i64 0), .p (.int .i64 0)]) := by rw [← hM4e, put_get]
      clear hM4e
      have gC := (hM4k C (by omega)).trans q3
      have gr := (hM4k r0 (by omega)).trans q1
      have gm := (hM4k mp (by omega)).trans q2
      have gH := (hM4k H.nx (by omega)).trans hb3
      have hAB : A ≠ B := by omega
      have hCB : C ≠ B := by omega
      have hrB : r0 ≠ B := by omega
      have hmB : mp ≠ B := by omega
      have hHB : H.nx ≠ B := by omega
      have e1 : nE [1] = [[.p (.int .i64 1)]] := rfl
      have e2 : nE [2] = [[.p (.int .i64 2)]] := rfl
      refine cut_st (fun _ : Unit => []) (fun _ H' => ((M4.up 5).put B (.box 62 [.p (.int .i64 1), .p (.int .i64 1), .p (.int .i64 0)])) = H') (fun kk hkk => ?_) ?_
      · simp (disch := first | omega | simp) [gA]
        unfold S_machine_Cost_C4
        simp (disch := first | omega | simp) [gA, gB, gC, e1]
        exact hkk () _ _ _ (.refl (by simp only [put_nx, up_nx]; omega)) rfl
      rintro _ _ _ rfl
      unfold S_machine_Cost_K3
      have fC := fun z : AO => (AH.get_put_ne (H := M4.up 5) (o := z) hCB).trans gC
      have fA := fun z : AO => (AH.get_put_ne (H := M4.up 5) (o := z) hAB).trans gA
      generalize hM5e : AH.put _ _ _ = M5
      have hM5n : M5.nx = M4.nx + 5 := by rw [← hM5e]; rfl
      have kA : M5.get A = some (.box 53 [.p (.int .i64 0), .p (.int .i64 1), .p (.int .i64 1), .p (.int .i64 2), .p (.int .i64 3)]) := by rw [← hM5e]; exact fA _
      have kB : M5.get B = some (.box 62 [.p (.int .i64 1), .p (.int .i64 1), .p (.int .i64 0)]) := by rw [← hM5e, put_get]
      have kC : M5.get C = some (.box 62 [.p (.int .i64 0), .p (.int .i64 0), .p (.int .i64 0)]) := by rw [← hM5e]; exact fC _
      have hM5l : H.le M5 := by rw [← hM5e]; exact AH.le.put hw (by omega) (AH.le.up hM4l)
      have hkr : M5.get r0 = some (.row 62 3 [[.p (.int .i64 0), .p (.int .i64 0), .p (.int .i64 0)]]) := by rw [← hM5e, AH.get_put_ne hrB]; exact gr
      have hkm : M5.get mp = some (.map 62 1 best0) := by rw [← hM5e, AH.get_put_ne hmB]; exact gm
      have hkH : M5.get H.nx = some (.box 25 oneM.cs) := by rw [← hM5e, AH.get_put_ne hHB]; exact gH
      clear hM5e fC fA
      refine cut_st (fun _ : Unit => []) (fun _ H' => ((M5.up 5).put B (.box 62 [.p (.int .i64 1), .p (.int .i64 1), .p (.int .i64 1)])) = H') (fun kk hkk => ?_) ?_
      · simp (disch := first | omega | simp) [kA]
        unfold S_machine_Cost_C2
        simp (disch := first | omega | simp) [kA, kB, kC, e2]
        exact hkk () _ _ _ (.refl (by simp only [put_nx, up_nx]; omega)) rfl
      rintro _ _ _ rfl
      unfold S_machine_Cost_K1
      generalize hM6e : AH.put _ _ _ = M6
      have hM6n : M6.nx = M5.nx + 5 := by rw [← hM6e]; rfl
      have lA : M6.get A = some (.box 53 [.p (.int .i64 0), .p (.int .i64 1), .p (.int .i64 1), .p (.int .i64 2), .p (.int .i64 3)]) := by rw [← hM6e, AH.get_put_ne hAB]; exact kA
      have lB : M6.get B = some (.box 62 [.p (.int .i64 1), .p (.int .i64 1), .p (.int .i64 1)]) := by rw [← hM6e, put_get]
      have lC : M6.get C = some (.box 62 [.p (.int .i64 0), .p (.int .i64 0), .p (.int .i64 0)]) := by rw [← hM6e, AH.get_put_ne hCB]; exact kC
      have hM6l : H.le M6 := by rw [← hM6e]; exact AH.le.put hw (by omega) (AH.le.up hM5l)
      have lr : M6.get r0 = some (.row 62 3 [[.p (.int .i64 0), .p (.int .i64 0), .p (.int .i64 0)]]) := by rw [← hM6e, AH.get_put_ne hrB]; exact hkr
      have lm : M6.get mp = some (.map 62 1 best0) := by rw [← hM6e, AH.get_put_ne hmB]; exact hkm
      have lH : M6.get H.nx = some (.box 25 oneM.cs) := by rw [← hM6e, AH.get_put_ne hHB]; exact hkH
      clear hM6e
      have hrm : r0 ≠ mp := by omega
      have hBm : B ≠ mp := by omega
      simp (disch := first | omega | simp) [lA, lB, lC, lm, lawPl, hk0, hk1, b00, b01, put_get_ne, lr]
      refine ⟨by omega, by omega, ?_⟩
      have hrH : H.nx ≠ r0 := by omega
      have hmH : H.nx ≠ mp := by omega
      refine hk3 (1, .osl (M6.nx + 4 + 3) 3 0 1) _ _ _ (.refl (by first | omega | (simp only [up_nx, put_nx, kill_nx]; done) | (simp only [up_nx, put_nx, kill_nx]; omega))) ⟨AH.le.put hw (by omega) (AH.le.kill hw (by omega) (AH.le.put hw (by omega) (AH.le.up (AH.le.put hw (by omega) (AH.le.up hM6l))))), (by first | omega | (simp only [up_nx, put_nx, kill_nx]; done) | (simp only [up_nx, put_nx, kill_nx]; omega)), ?_, .inr ⟨rfl, M6.nx + 4 + 3, by omega, rfl, put_get _ _, ?_⟩⟩ (by dsimp only; omega)
      · rw [AH.get_put_ne (by omega), AH.kill, AH.get_put_ne hrH, AH.get_put_ne (by omega), up_get, AH.get_put_ne hmH, up_get]; exact lH
      · rw [AH.get_put_ne (by omega), AH.kill, AH.get_put_ne (Ne.symm hrm), AH.get_put_ne (by omega), up_get, put_get]; rfl
    · obtain ⟨rfl, r, hrm, rfl, h1, h2⟩ := h
      dsimp only at hk3 ⊢
      unfold S_machine_Cost_L6
      simp (disch := first | omega | simp) [iv]
      exact hk (1, .osl r 3 0 1) _ _ _ (.refl (by omega)) ⟨hle3, by omega, hb3, .inr (.inl ⟨rfl, r, hrm, rfl, h1, h2⟩)⟩ (by dsimp only; omega)
  · obtain ⟨rfl, r, hrm, rfl, hr, hm⟩ := h
    dsimp only at hr hm hk ⊢
    unfold S_machine_Cost_L9
    unfold iv at hr
    have hf : from1 = [[.dsl 5 (oneM.arcs.map Arc.cs)], [.dsl 5 []]] := rfl
    simp (disch := first | omega | simp) [hr, hf]
    generalize hM2e : AH.put _ _ _ = M2
    have hM2n : M2.nx = H1.nx + 5 := by rw [← hM2e]; rfl
    have hM2k : ∀ j, j < H1.nx → M2.get j = H1.get j := fun j hj => by rw [← hM2e, AH.get_put_ne (by omega), AH.get_put_ne (by omega), up_get]
    have hM2l : H.le M2 := fun j o ho => by rw [hM2k j (by have := (hw _ _ ho).1; omega)]; exact hle _ _ ho
    clear hM2e
    have hmpl := (hw1 _ _ hm).1
    refine loop_st (fun _ : Unit => [.osl r 3 1 0, iv 0]) (fun _ H' => M2 = H') (fun _ => 0) () (.refl (Nat.le_refl _)) rfl ?_
    rintro _ _ _ rfl k3 hk3
    unfold S_machine_Cost_L6
    simp (disch := first | omega | simp) [iv]
    exact hk (2, .osl r 3 1 0) _ _ _ (.refl (by omega)) ⟨hM2l, by omega, by rw [hM2k _ (by omega)]; exact hb, .inr (.inr ⟨rfl, r, hrm, rfl, by rw [hM2k _ hmpl]; exact hm⟩)⟩ (by dsimp only; omega)
  · obtain ⟨rfl, r, hrm, rfl, hm⟩ := h
    dsimp only at hm hk ⊢
    unfold S_machine_Cost_L9
    have hcs : oneM.cs = [.p (.int .i64 2), .dsl 5 (oneM.arcs.map Arc.cs), .dsl 2 [[.p (.int .i64 1), .p (.int .i64 0)]]] := rfl
    rw [hcs] at hb
    simp (disch := first | omega | simp) [hb]
    have hmpl := (hw1 _ _ hm).1
    refine loop_wf (fun i : Nat => if i = 0 then [iv 0, bv false, iv 0] else [iv 3, bv true, iv 1]) (fun i H' => H.le H' ∧ H1.nx ≤ H'.nx ∧ i ≤ 1 ∧ H'.get mp = some (.map 62 2 best1)) (fun i => 1 - i) 0 (by rw [if_pos rfl]; exact .refl (Nat.le_refl _)) ⟨hle, Nat.le_refl _, by omega, hm⟩ ?_
    rintro i H3 hn3 hw3 ⟨hle3, hnx3, hi, hm3⟩ k3 hk3
    unfold S_machine_Cost_L8
    by_cases h0 : i = 0
    · subst h0
      rw [if_pos rfl]
      simp (disch := first | omega | simp) [iv]
      unfold S_machine_Cost_C7
      simp (disch := first | omega | simp) [bv, put_get_ne, hm3, lawPl, hk1, b11]
      exact hk3 1 _ _ _ (by rw [if_neg (by decide)]; exact .refl (by first | omega | (simp only [up_nx, put_nx]; done) | (simp only [up_nx, put_nx]; omega))) ⟨AH.le.put hw (by omega) (AH.le.put hw (by omega) (AH.le.up hle3)), (by first | omega | (simp only [up_nx, put_nx]; done) | (simp only [up_nx, put_nx]; omega)), Nat.le_refl _, by rw [AH.get_put_ne (by omega), AH.get_put_ne (by omega)]; exact hm3⟩ (by omega)
    · have : i = 1 := by omega
      subst this
      rw [if_neg (by decide)]
      simp (disch := first | omega | simp) [iv, bv]
      exact rt_one hw hle3 (by repeat (first | exact Cl.p _ | exact Cl.dsl _ _ | exact Cl.any | refine Cl.tup ?_ | refine Cl.agg ?_ | exact Clo.nil | refine Clo.cons ?_ ?_)) ⟨rfl, rfl⟩)
theorem c_begun : PF Try.prog 7 [] (bv true) := fun H => tri_wf fun hw => tri_wordhoardlaw_machineBegun (by
  unfold S_wordhoardlaw_machineBegun
  simp (disch := first | omega | simp) []
  refine ca_pure (by kernel_rfl) (c_one _) ?_
  simp (disch := first | omega | simp)
  generalize hMe : AH.put _ _ _ = M
  have hMl : H.le M := by rw [← hMe]; exact (by repeat (first | with_reducible assumption | with_reducible exact AH.le.refl _ | with_reducible apply AH.le.up | (with_reducible refine AH.le.put hw ?_ ?_; · first | omega | (simp only [up_nx, put_nx, kill_nx]; done) | (simp only [up_nx, put_nx, kill_nx]; omega)) | (with_reducible refine AH.le.kill hw ?_ ?_; · first | omega | (simp only [up_nx, put_nx, kill_nx]; done) | (simp only [up_nx, put_nx, kill_nx]; omega))))
  have hMn : M.nx = H.nx + 11 := by rw [← hMe]; rfl
  have g1 : M.get (H.nx + 1) = some (.row 3 1 (nE [1])) := by rw [← hMe]; simp (disch := first | omega | simp) [put_get_ne]; rfl
  have g2 : M.get (H.nx + 2) = some (.row 3 1 (nE [2])) := by rw [← hMe]; simp (disch := first | omega | simp); rfl
  clear hMe
  have d1 : ∀ x : Int, DtR (nE [x]) := fun x e he a ha => by
    simp only [nE, List.map_cons, List.map_nil, List.mem_singleton] at he
    subst he
    simp only [List.mem_singleton] at ha
    subst ha; exact Dt.p _
  have g2' : (M.put (H.nx + 1) (.frz 1 (nE [1]))).get (H.nx + 2) = some (.row 3 1 (nE [2])) := by rw [AH.get_put_ne (by omega)]; exact g2
  refine ca_of (Q := fun r H' => H' = (M.put (H.nx + 1) (.frz 1 (nE [1]))).put (H.nx + 2) (.frz 1 (nE [2])) ∧ r = .tup [iv 3, bv true, iv 0]) (by kernel_rfl) (Tri.st (.freeze g1 (d1 1)) (Tri.st (.freeze g2' (d1 2)) (Tri.args (.cons (.refl _) (.cons (.frz (es := nE [1]) (off := 0) (n := 1) (by rw [AH.get_put_ne (by omega)]; exact put_get _ _) (Nat.le_refl _)) (.cons (.frz (es := nE [2]) (off := 0) (n := 1) (put_get _ _) (Nat.le_refl _)) .nil))) (c_Cost1 _)))) ?_
  rintro _ _ ⟨rfl, rfl⟩
  simp (disch := first | omega | simp) [iv, bv]
  exact rt_one hw (AH.le.put hw (by omega) (AH.le.put hw (by omega) hMl)) (by repeat (first | exact Cl.p _ | exact Cl.dsl _ _ | exact Cl.any | refine Cl.tup ?_ | refine Cl.agg ?_ | exact Clo.nil | refine Clo.cons ?_ ?_)) ⟨rfl, rfl⟩)
end Go.Proofs.Ytgkkilbeingleaa

/- What is right; the law of makers. -/
namespace Go.Proofs.Ytgkkilbeingleaa
open Go.RowKit Go.Maps
theorem both_ok {a b : Mac} (h : bothE a b = 0) : a.Ok ∧ b.Ok := by
  have hca : a.chk = 0 := by unfold bothE at h; split at h <;> assumption
  have hcb : b.chk = 0 := by unfold bothE at h; rw [if_pos hca] at h; exact h
  exact ⟨Mac.chk_ok.1 hca, Mac.chk_ok.1 hcb⟩
end Go.Proofs.Ytgkkilbeingleaa

/- One machine through another one: the product; rounds in any order. Plain. -/
namespace Go.Proofs.Ytgkkilbeingleaa
def arc1 (B : Int) (f : Arc) (t : Int) : Arc := ⟨f.fr * B + t, f.to * B + t, f.inn, 0, f.w⟩
def arc2 (B : Int) (f g : Arc) : Arc := ⟨f.fr * B + g.fr, f.to * B + g.to, f.inn, g.out, f.w + g.w⟩
def arc3 (B : Int) (g : Arc) (s : Int) : Arc := ⟨s * B + g.fr, s * B + g.to, 0, g.out, g.w⟩
def fam12 (b : Mac) (f : Arc) : List Arc := if f.out = 0 then (List.range b.states.toNat).map (fun (t : Nat) => arc1 b.states f (t : Int)) else (b.arcs.filter fun g => decide (g.inn = f.out)).map (arc2 b.states f)
def fam3 (a b : Mac) (g : Arc) : List Arc := if g.inn = 0 then (List.range a.states.toNat).map (fun (s : Nat) => arc3 b.states g (s : Int)) else []
/-- the product: a pair of states is a state -/
def prodM (a b : Mac) : Mac := ⟨a.states * b.states, a.arcs.flatMap (fam12 b) ++ b.arcs.flatMap (fam3 a b), a.fins.flatMap fun f => b.fins.map fun g => ⟨f.st * b.states + g.st, f.w + g.w⟩⟩
theorem pair_lt {s t A B : Int} (h1 : 0 ≤ s) (h2 : s < A) (h3 : 0 ≤ t) (h4 : t < B) : 0 ≤ s * B + t ∧ s * B + t < A * B := by
  have b0 : 0 ≤ s * B := Int.mul_nonneg h1 (by omega)
  have b1 : (s + 1) * B ≤ A * B := Int.mul_le_mul_of_nonneg_right (by omega) (by omega)
  rw [Int.add_mul, Int.one_mul] at b1
  omega
theorem prod_fit {a b : Mac} (ha : a.Ok) (hb : b.Ok) : (prodM a b).Fit := by
  obtain ⟨a1, a2, a3, a4, a5, a6, a7⟩ := ha
  obtain ⟨b1, b2, b3, b4, b5, b6, b7⟩ := hb
  refine ⟨?_, fun x hx => ?_, fun f hf => ?_⟩
  · have := (pair_lt (s := 0) (t := 0) (A := a.states) (B := b.states) (by omega) (by omega) (by omega) (by omega)).2
    show 1 ≤ a.states * b.states
    omega
  · have hst : (prodM a b).states = a.states * b.states := rfl
    rw [hst]
    rcases List.mem_append.1 (show x ∈ a.arcs.flatMap (fam12 b) ++ b.arcs.flatMap (fam3 a b) from hx) with h | h
    · obtain ⟨f, hf, h⟩ := List.mem_flatMap.1 h
      have o := a5 f hf
      unfold fam12 at h
      split at h
      · obtain ⟨t, ht, rfl⟩ := List.mem_map.1 h
        have ht := List.mem_range.1 ht
        have p1 := pair_lt (s := f.fr) (t := (t : Int)) (A := a.states) (B := b.states) (by omega) (by omega) (by omega) (by omega)
        have p2 := pair_lt (s := f.to) (t := (t : Int)) (A := a.states) (B := b.states) (by omega) (by omega) (by omega) (by omega)
        unfold arc1; dsimp only; omega
      · obtain ⟨g, hg, rfl⟩ := List.mem_map.1 h
        have og := b5 g (List.mem_filter.1 hg).1
        have p1 := pair_lt (s := f.fr) (t := g.fr) (A := a.states) (B := b.states) (by omega) (by omega) (by omega) (by omega)
        have p2 := pair_lt (s := f.to) (t := g.to) (A := a.states) (B := b.states) (by omega) (by omega) (by omega) (by omega)
        unfold arc2; dsimp only; omega
    · obtain ⟨g, hg, h⟩ := List.mem_flatMap.1 h
      have og := b5 g hg
      unfold fam3 at h
      split at h
      · obtain ⟨s, hs, rfl⟩ := List.mem_map.1 h
        have hs := List.mem_range.1 hs
        have p1 := pair_lt (s := (s : Int)) (t := g.fr) (A := a.states) (B := b.states) (by omega) (by omega) (by omega) (by omega)
        have p2 := pair_lt (s := (s : Int)) (t := g.to) (A := a.states) (B := b.states) (by omega) (by omega) (by omega) (by omega)
        unfold arc3; dsimp only; omega
      · cases h
  · have hst : (prodM a b).states = a.states * b.states := rfl
    rw [hst]
    obtain ⟨f1, h1, h⟩ := List.mem_flatMap.1 (show f ∈ a.fins.flatMap fun f => b.fins.map fun g => (⟨f.st * b.states + g.st, f.w + g.w⟩ : Fin_) from hf)
    obtain ⟨g, h2, rfl⟩ := List.mem_map.1 h
    have o1 := a6 f1 h1
    have o2 := b6 g h2
    have p1 := pair_lt (s := f1.st) (t := g.st) (A := a.states) (B := b.states) (by omega) (by omega) (by omega) (by omega)
    dsimp only; omega
/-- a round under way: what D tells is looked at -/
structure RndG (m : Mac) (told : Bool) (I O : List Int) (n k : Nat) (Lo : List Int) (ag : Bool) (L : List Int) (D : Arc → Nat → Nat → Prop) : Prop where
  tab : Tab m told I O n k L
  less : ag = true → sumL L < sumL Lo
  same : ag = false → L = Lo
  st : ag = false → ∀ a i j, D a i j → i < n → j < k → Stab told I O n k L a i j
section
variable {m : Mac} {told : Bool} {I O Lo L : List Int} {n k : Nat} {ag : Bool} {D E : Arc → Nat → Nat → Prop}
theorem RndG.start (h : Tab m told I O n k Lo) : RndG m told I O n k Lo false Lo (fun _ _ _ => False) :=
  ⟨h, fun h => (by cases h), fun _ => rfl, fun _ _ _ _ h => h.elim⟩
theorem RndG.mono (h : RndG m told I O n k Lo ag L D) (hE : ∀ a i j, E a i j → i < n → j < k → D a i j) : RndG m told I O n k Lo ag L E :=
  ⟨h.tab, h.less, h.same, fun e a i j hd hi hj => h.st e a i j (hE a i j hd hi hj) hi hj⟩
/-- one more is looked at that can lower nothing -/
theorem RndG.skip (h : RndG m told I O n k Lo ag L D) (hs : ∀ a i j, E a i j → i < n → j < k → Stab told I O n k L a i j) : RndG m told I O n k Lo ag L (fun a i j => D a i j ∨ E a i j) :=
  ⟨h.tab, h.less, h.same, fun e a i j hd hi hj => hd.elim (fun hd => h.st e a i j hd hi hj) fun hd => hs a i j hd hi hj⟩
theorem RndG.low (h : RndG m told I O n k Lo ag L D) (hm : m.Fit) {a : Arc} (ha : a ∈ m.arcs) {i j i' j' : Nat} {p q : Int} (hi : i < n) (hj : j < k) (hi' : i' < n) (hj' : j' < k) (hp : L[ix n k a.fr.toNat i j]? = some p) (hpd : p < dear) (h1 : adv a.inn I i = some i') (h2 : advo told a.out O j = some j')
    (hq : L[ix n k a.to.toNat i' j']? = some q) (hlt : p + a.w < q) : RndG m told I O n k Lo true (L.set (ix n k a.to.toNat i' j') (p + a.w)) E := by
  have hb := hm.2.1 a ha
  have hp0 := h.tab.nonneg (by omega : a.fr.toNat < m.states.toNat) hi hj hp
  refine ⟨h.tab.lower hm ha hi hj hi' hj' hp hpd h1 h2 hq hlt, fun _ => ?_, fun e => (by cases e), fun e => (by cases e)⟩
  have := sumL_set hq (v := p + a.w) (by omega) hlt
  cases ag with
  | true => have := h.less rfl; omega
  | false => rw [h.same rfl] at this ⊢; exact this
end
end Go.Proofs.Ytgkkilbeingleaa

/- Abstract walks of functions, written by a program (wip/aw/aw.py): each equation is checked by the kernel. -/
namespace Go.Proofs.Ytgkkilbeingleaa
open Go.RowKit

/-! wordhoard/wordhoardref.ThroughCost$1 -/
def ac_wordhoardref_ThroughCost_fn1 : AC := (.seq (.reg 0) (.seq (.reg 1) .ret))
def S_wordhoardref_ThroughCost_fn1 (a0 a1 a2 a3 a4 a5 a6 : AV) (Q : AV → AH → Prop) (H : AH) : Prop := (
 Pu Try.prog (.addOff 0) [a4] fun v13 =>
 RdS Try.prog (.ld 1 false) [v13] fun v14 =>
 Pu Try.prog (.bin .mul 3) [a0, v14] fun v15 =>
 Pu Try.prog (.bin .add 3) [v15, a1] fun v17 =>
 RdS Try.prog (.ld 1 false) [a5] fun v18 =>
 Pu Try.prog (.bin .mul 3) [v17, v18] fun v19 =>
 Pu Try.prog (.bin .add 3) [v19, a2] fun v21 =>
 RdS Try.prog (.ld 1 false) [a6] fun v22 =>
 Pu Try.prog (.bin .mul 3) [v21, v22] fun v23 =>
 Pu Try.prog (.bin .add 3) [v23, a3] fun v25 =>
 Rt Try.prog H.nx v25 Q
 ) H
theorem eq_wordhoardref_ThroughCost_fn1 (a0 a1 a2 a3 a4 a5 a6 : AV) (Q : AV → AH → Prop) (H : AH) : FnA Try.prog 26 (regsF Try.f37) ac_wordhoardref_ThroughCost_fn1 [.tm 11] [a0, a1, a2, a3, a4, a5, a6] H Q = S_wordhoardref_ThroughCost_fn1 a0 a1 a2 a3 a4 a5 a6 Q H := by kernel_rfl
theorem tri_wordhoardref_ThroughCost_fn1 {a0 a1 a2 a3 a4 a5 a6 : AV} {H : AH} {Q : AV → AH → Prop} (h : S_wordhoardref_ThroughCost_fn1 a0 a1 a2 a3 a4 a5 a6 Q H) : Tri Try.prog 37 [a0, a1, a2, a3, a4, a5, a6] H Q :=
  tri_of (Ms := [#[], #[]]) mixed Try.func37 rfl (by kernel_rfl) (by kernel_rfl) rfl (of_decide_eq_true rfl : 7 ≤ 26) (by rw [eq_wordhoardref_ThroughCost_fn1 a0 a1 a2 a3 a4 a5 a6 Q H]; exact h : FnA Try.prog 26 (regsF Try.f37) ac_wordhoardref_ThroughCost_fn1 [.tm 11] [a0, a1, a2, a3, a4, a5, a6] H Q)

/-! wordhoard/wordhoardref.ThroughCost$2 -/
def ac_wordhoardref_ThroughCost_fn2 : AC := (.seq (.reg 0) (.cond (.tmp 11) (.seq (.reg 1) (.reg 2)) .skip))
def S_wordhoardref_ThroughCost_fn2 (a0 a1 a2 a3 : AV) (Q : AV → AH → Prop) (H : AH) : Prop := (
 RdS Try.prog (.ld 1 false) [a2] fun v7 =>
 Pu Try.prog (.idx 1) [v7, a0] fun v9 =>
 RdS Try.prog (.ld 1 false) [v9] fun v10 =>
 Pu Try.prog (.bin .lss 3) [a1, v10] fun v11 =>
 CdA v11
 (
 Rg 5 fun b =>
 RdS Try.prog (.ld 1 false) [a2] fun v12 =>
 Pu Try.prog (.idx 1) [v12, a0] fun v15 =>
 WrS Try.prog (b + 4) (.st 1) [v15, a1] fun _ =>
 Rg 1 fun b_9 =>
 WrS Try.prog (b_9 + 0) (.st 1) [a3, (.p (.bool true))] fun _ =>
 Rt Try.prog H.nx (.tup []) Q
 ) (
 Rt Try.prog H.nx (.tup []) Q
 )
 ) H
theorem eq_wordhoardref_ThroughCost_fn2 (a0 a1 a2 a3 : AV) (Q : AV → AH → Prop) (H : AH) : FnA Try.prog 16 (regsF Try.f38) ac_wordhoardref_ThroughCost_fn2 [] [a0, a1, a2, a3] H Q = S_wordhoardref_ThroughCost_fn2 a0 a1 a2 a3 Q H := by kernel_rfl
theorem tri_wordhoardref_ThroughCost_fn2 {a0 a1 a2 a3 : AV} {H : AH} {Q : AV → AH → Prop} (h : S_wordhoardref_ThroughCost_fn2 a0 a1 a2 a3 Q H) : Tri Try.prog 38 [a0, a1, a2, a3] H Q :=
  tri_of (Ms := [#[], #[], #[]]) mixed Try.func38 rfl (by kernel_rfl) (by kernel_rfl) rfl (of_decide_eq_true rfl : 4 ≤ 16) (by rw [eq_wordhoardref_ThroughCost_fn2 a0 a1 a2 a3 Q H]; exact h : FnA Try.prog 16 (regsF Try.f38) ac_wordhoardref_ThroughCost_fn2 [] [a0, a1, a2, a3] H Q)
end Go.Proofs.Ytgkkilbeingleaa

/- The reference's ThroughCost: places, lowering. -/
namespace Go.Proofs.Ytgkkilbeingleaa
open Go.RowKit Go.Maps
/-- what the table of pairs hangs on, as it lies -/
structure TC (a b : Mac) (n k A B p9 p10 p11 p14 R : Nat) (H : AH) (better : Bool) (L : List Int) : Prop where
  gA : H.get A = some (.box 25 a.cs)
  gB : H.get B = some (.box 25 b.cs)
  g9 : H.get p9 = some (.box 3 [iv (n : Int)])
  g10 : H.get p10 = some (.box 3 [iv (k : Int)])
  g11 : H.get p11 = some (.box 26 [.osl R 1 0 L.length])
  g14 : H.get p14 = some (.box 4 [bv better])
  gR : H.get R = some (.row 3 1 (nE L))
section
variable {a b : Mac} {n k A B p9 p10 p11 p14 R : Nat} {H : AH} {better : Bool} {L : List Int}
theorem c_place {s t : Int} {i j : Nat} (gB : H.get B = some (.box 25 b.cs)) (g9 : H.get p9 = some (.box 3 [iv (n : Int)])) (g10 : H.get p10 = some (.box 3 [iv (k : Int)])) (hS : a.states * b.states ≤ 3000) (h1 : 0 ≤ s) (h2 : s < a.states) (h3 : 0 ≤ t) (h4 : t < b.states) (hn : n ≤ 61) (hk : k ≤ 61) (hi : i < n) (hj : j < k) :
    Tri Try.prog 37 [iv s, iv t, iv (i : Int), iv (j : Int), .ptr B 0, .ptr p9 0, .ptr p10 0] H (fun r H' => H' = H ∧ r = iv ((ix n k (s * b.states + t).toNat i j : Nat) : Int)) := tri_wf fun hw => tri_wordhoardref_ThroughCost_fn1 (by
  have hp := pair_lt (A := a.states) h1 h2 h3 h4
  have b0 : 0 ≤ s * b.states := Int.mul_nonneg h1 (by omega)
  have hix := ix_int (n := n) (k := k) (i := i) (j := j) hp.1 hp.2 hS hn hk hi hj
  have w1 : IntKind.i64.wrap (s * b.states) = s * b.states := by rw [IntKind.wrap_i64]; omega
  have w2 : IntKind.i64.wrap (s * b.states + t) = s * b.states + t := by rw [IntKind.wrap_i64]; omega
  unfold S_wordhoardref_ThroughCost_fn1
  unfold Mac.cs iv at gB
  unfold iv at g9 g10
  simp (disch := first | omega | simp) [iv, gB, g9, g10, w1, w2, hix]
  exact rt_refl ⟨rfl, rfl⟩ (Nat.le_refl _))
/-- what lowering leaves -/
def LowQ (p14 R : Nat) (better : Bool) (L : List Int) (q : Nat) (x c : Int) (H : AH) (r : AV) (H' : AH) : Prop := r = .tup [] ∧ H.nx ≤ H'.nx ∧ (∀ j, j ≠ R → j ≠ p14 → H'.get j = H.get j) ∧
  ((c < x ∧ H'.get p14 = some (.box 4 [bv true]) ∧ H'.get R = some (.row 3 1 (nE (L.set q c)))) ∨ (x ≤ c ∧ H'.get p14 = some (.box 4 [bv better]) ∧ H'.get R = some (.row 3 1 (nE L))))
theorem c_lower {q : Nat} {x c : Int} (g11 : H.get p11 = some (.box 26 [.osl R 1 0 L.length])) (g14 : H.get p14 = some (.box 4 [bv better])) (gR : H.get R = some (.row 3 1 (nE L))) (hq : L[q]? = some x) (_hl : L.length ≤ 9223372036854775807) :
    Tri Try.prog 38 [iv (q : Int), iv c, .ptr p11 0, .ptr p14 0] H (LowQ p14 R better L q x c H) := tri_wf fun hw => tri_wordhoardref_ThroughCost_fn2 (by
  have hql := (List.getElem?_eq_some_iff.1 hq).1
  have hqe := nE_get hq
  have hne : p14 ≠ R := fun e => by subst e; rw [g14] at gR; cases gR
  have hset := nE_set L q c
  unfold iv at hqe hset
  unfold S_wordhoardref_ThroughCost_fn2
  unfold bv at g14
  have hne2 : p11 ≠ R := fun e => by subst e; rw [g11] at gR; cases gR
  by_cases hc : c < x
  · simp (disch := first | omega | simp) [iv, g11, gR, hqe, hql, hc, put_get_ne, g14]
    rw [hset]
    refine rt_refl ⟨rfl, (by first | omega | (simp only [up_nx, put_nx]; done) | (simp only [up_nx, put_nx]; omega)), fun j h1 h2 => ?_, .inl ⟨hc, put_get _ _, ?_⟩⟩ (by first | omega | (simp only [up_nx, put_nx]; done) | (simp only [up_nx, put_nx]; omega))
    · rw [AH.get_put_ne h2, up_get, AH.get_put_ne h1, up_get]
    · rw [AH.get_put_ne (Ne.symm hne), up_get, put_get]
  · simp (disch := first | omega | simp) [iv, g11, gR, hqe, hql, hc]
    exact rt_refl ⟨rfl, Nat.le_refl _, fun _ _ _ => rfl, .inr ⟨by omega, g14, gR⟩⟩ (Nat.le_refl _))
end
end Go.Proofs.Ytgkkilbeingleaa
