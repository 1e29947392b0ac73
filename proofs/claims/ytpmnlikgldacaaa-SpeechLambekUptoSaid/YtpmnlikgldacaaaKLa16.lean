/- Texts that the proof rests on, part 16: what each holds stands at its head. -/
import Derived.Test.YtpmnlikgldacaaaKLa15

/- No two sequents have the same key. Plain. -/
namespace Go.Proofs.Ytpmnlikgldacaaa
theorem txt_base {n : Int} (h0 : 0 ≤ n) (h9 : n ≤ 9) : (97 + n).toNat.toUInt8 ≠ 40 ∧ ∀ m : Int, 0 ≤ m → m ≤ 9 → (97 + n).toNat.toUInt8 = (97 + m).toNat.toUInt8 → n = m := by
  have hn : n = 0 ∨ n = 1 ∨ n = 2 ∨ n = 3 ∨ n = 4 ∨ n = 5 ∨ n = 6 ∨ n = 7 ∨ n = 8 ∨ n = 9 := by omega
  refine ⟨by rcases hn with rfl | rfl | rfl | rfl | rfl | rfl | rfl | rfl | rfl | rfl <;> decide, fun m m0 m9 h => ?_⟩
  have hm : m = 0 ∨ m = 1 ∨ m = 2 ∨ m = 3 ∨ m = 4 ∨ m = 5 ∨ m = 6 ∨ m = 7 ∨ m = 8 ∨ m = 9 := by omega
  rcases hn with rfl | rfl | rfl | rfl | rfl | rfl | rfl | rfl | rfl | rfl <;> rcases hm with rfl | rfl | rfl | rfl | rfl | rfl | rfl | rfl | rfl | rfl <;> first | rfl | exact absurd h (by decide)
/-- no part's text begins another one's -/
theorem txt_inj : ∀ (N : Nat) (a b : Ty) (r s : List UInt8), a.size ≤ N → Good a → Good b → a.txt ++ r = b.txt ++ s → a = b ∧ r = s
  | 0, a, _, _, _, h, _, _, _ => by have := a.size_pos; omega
  | N + 1, a, b, r, s, h, ha, hb, e => by
    rcases ha.cases with ⟨n, rfl, n0, n9⟩ | ⟨x, y, rfl, hx, hy⟩ | ⟨y, x, rfl, hy, hx⟩ <;> rcases hb.cases with ⟨m, rfl, m0, m9⟩ | ⟨x', y', rfl, hx', hy'⟩ | ⟨y', x', rfl, hy', hx'⟩
    · rw [Ty.txt_b, Ty.txt_b] at e
      simp only [List.singleton_append, List.cons.injEq] at e
      have := (txt_base n0 n9).2 m m0 m9 e.1
      subst this
      exact ⟨rfl, e.2⟩
    · rw [Ty.txt_b, Ty.txt_o] at e
      simp only [List.cons_append, List.cons.injEq] at e
      exact absurd e.1 (txt_base n0 n9).1
    · rw [Ty.txt_b, Ty.txt_u] at e
      simp only [List.cons_append, List.cons.injEq] at e
      exact absurd e.1 (txt_base n0 n9).1
    · rw [Ty.txt_b, Ty.txt_o] at e
      simp only [List.cons_append, List.cons.injEq] at e
      exact absurd e.1.symm (txt_base m0 m9).1
    · rw [Ty.size_o] at h
      rw [Ty.txt_o, Ty.txt_o] at e
      simp only [List.cons_append, List.append_assoc, List.cons.injEq, true_and] at e
      have q := txt_inj N x x' _ _ (by omega) hx hx' e
      clear e
      obtain ⟨q1, e⟩ := q
      subst q1
      simp only [List.cons.injEq, true_and] at e
      have q := txt_inj N y y' _ _ (by omega) hy hy' e
      clear e
      obtain ⟨q1, e⟩ := q
      subst q1
      simp only [List.nil_append, List.cons.injEq, true_and] at e
      exact ⟨rfl, e⟩
    · rw [Ty.size_o] at h
      rw [Ty.txt_o, Ty.txt_u] at e
      simp only [List.cons_append, List.append_assoc, List.cons.injEq, true_and] at e
      have q := txt_inj N x y' _ _ (by omega) hx hy' e
      clear e
      obtain ⟨q1, e⟩ := q
      subst q1
      simp only [List.cons.injEq] at e
      exact absurd e.1 (by decide)
    · rw [Ty.txt_b, Ty.txt_u] at e
      simp only [List.cons_append, List.cons.injEq] at e
      exact absurd e.1.symm (txt_base m0 m9).1
    · rw [Ty.size_u] at h
      rw [Ty.txt_u, Ty.txt_o] at e
      simp only [List.cons_append, List.append_assoc, List.cons.injEq, true_and] at e
      have q := txt_inj N y x' _ _ (by omega) hy hx' e
      clear e
      obtain ⟨q1, e⟩ := q
      subst q1
      simp only [List.cons.injEq] at e
      exact absurd e.1 (by decide)
    · rw [Ty.size_u] at h
      rw [Ty.txt_u, Ty.txt_u] at e
      simp only [List.cons_append, List.append_assoc, List.cons.injEq, true_and] at e
      have q := txt_inj N y y' _ _ (by omega) hy hy' e
      clear e
      obtain ⟨q1, e⟩ := q
      subst q1
      simp only [List.cons.injEq, true_and] at e
      have q := txt_inj N x x' _ _ (by omega) hx hx' e
      clear e
      obtain ⟨q1, e⟩ := q
      subst q1
      simp only [List.nil_append, List.cons.injEq, true_and] at e
      exact ⟨rfl, e⟩
theorem txt_cons {t : Ty} (h : Good t) : ∃ b r, t.txt = b :: r := by
  rcases h.cases with ⟨n, rfl, _⟩ | ⟨x, y, rfl, _⟩ | ⟨y, x, rfl, _⟩
  · exact ⟨_, _, Ty.txt_b n⟩
  · exact ⟨_, _, Ty.txt_o x y⟩
  · exact ⟨_, _, Ty.txt_u y x⟩
theorem txts_inj : ∀ {l m : List Ty}, Goods l → Goods m → (l.map Ty.txt).flatten = (m.map Ty.txt).flatten → l = m
  | [], [], _, _, _ => rfl
  | [], b :: m, _, hm, h => by
    obtain ⟨x, r, e⟩ := txt_cons hm.head
    simp [e] at h
  | a :: l, [], hl, _, h => by
    obtain ⟨x, r, e⟩ := txt_cons hl.head
    simp [e] at h
  | a :: l, b :: m, hl, hm, h => by
    rw [List.map_cons, List.map_cons, List.flatten_cons, List.flatten_cons] at h
    have q := txt_inj _ a b _ _ (Nat.le_refl _) hl.head hm.head h
    clear h
    obtain ⟨q1, h⟩ := q
    subst q1
    rw [txts_inj hl.tail hm.tail h]
theorem keyL_inj {l m : List Ty} {g z : Ty} (hl : Goods l) (hm : Goods m) (hg : Good g) (hz : Good z) (h : keyL l g = keyL m z) : l = m ∧ g = z := by
  have := txts_inj (hl.app (.cons hg .nil)) (hm.app (.cons hz .nil)) h
  have h2 := List.append_inj' this rfl
  exact ⟨h2.1, by simpa using h2.2⟩
end Go.Proofs.Ytpmnlikgldacaaa

/- The prover: what it keeps in memory; a step's two proofs. -/
namespace Go.Proofs.Ytpmnlikgldacaaa
open Go.RowKit Go.Maps
mutual
def Pf.cs : Pf → List AV
  | ⟨st, l, g, a, n, ks⟩ => [iv st, tE l, iv g.kind, iv g.num, .dsl 3 (g.kids.map Ty.cs), iv a, iv n, .dsl 8 (Pf.css ks)]
def Pf.css : List Pf → List (List AV)
  | [] => []
  | p :: r => Pf.cs p :: Pf.css r
end
theorem Pf.css_map : ∀ ks : List Pf, Pf.css ks = ks.map Pf.cs
  | [] => by rw [Pf.css]; rfl
  | p :: r => by rw [Pf.css, Pf.css_map r]; rfl
theorem Pf.cs_eq (p : Pf) : p.cs = [iv p.step, tE p.left, iv p.goal.kind, iv p.goal.num, .dsl 3 (p.goal.kids.map Ty.cs), iv p.at_, iv p.num, .dsl 8 (p.kids.map Pf.cs)] := by cases p; rw [Pf.cs, Pf.css_map]
theorem Pf.cs_len (p : Pf) : p.cs.length = 8 := by rw [Pf.cs_eq]; rfl
theorem Pf.cs_take (p : Pf) : p.cs.take 8 = p.cs := List.take_of_length_le (by rw [Pf.cs_len]; omega)
theorem Pf.cs_goal (p : Pf) : (p.cs.drop 2).take 3 = p.goal.cs := by rw [Pf.cs_eq, Ty.cs_eq]; rfl
def Pf.av (p : Pf) : AV := .agg p.cs
theorem Pf.cl (p : Pf) (B : Nat) : Clo B p.cs := by
  rw [Pf.cs_eq]; unfold tE; exact (by repeat (first | exact Cl.p _ | exact Cl.dsl _ _ | exact Cl.any | refine Cl.tup ?_ | refine Cl.agg ?_ | exact Clo.nil | refine Clo.cons ?_ ?_))
theorem pf_len (l : List Pf) : ∀ e ∈ l.map Pf.cs, e.length = 8 := fun e he => by obtain ⟨t, _, rfl⟩ := List.mem_map.1 he; exact t.cs_len
theorem dt_pf (l : List Pf) : DtR (l.map Pf.cs) := by
  intro e he a ha
  obtain ⟨c, _, rfl⟩ := List.mem_map.1 he
  rw [Pf.cs_eq] at ha
  simp only [List.mem_cons, List.not_mem_nil, or_false] at ha
  rcases ha with rfl | rfl | rfl | rfl | rfl | rfl | rfl | rfl
  · exact Dt.p _
  · exact Dt.dsl _ _
  · exact Dt.p _
  · exact Dt.p _
  · exact Dt.dsl _ _
  · exact Dt.p _
  · exact Dt.p _
  · exact Dt.dsl _ _
open Classical in
noncomputable def fD (s : Ded) : Value → Option AV := fun v => if ∃ x ∈ s, v = .string (mkB (keyL x.1 x.2)) then some (iv 1) else none
noncomputable def MO (s : Ded) : AO := .map 9 s.length (fD s)
theorem fD_cons (s : Ded) (l : List Ty) (g : Ty) : putA (fD s) (.string (mkB (keyL l g))) (iv 1) = fD ((l, g) :: s) := by
  funext v
  unfold putA
  by_cases h : v = .string (mkB (keyL l g))
  · rw [if_pos h]
    unfold fD
    rw [if_pos ⟨(l, g), by simp, h⟩]
  · rw [if_neg h]
    unfold fD
    by_cases h2 : ∃ x ∈ s, v = .string (mkB (keyL x.1 x.2))
    · rw [if_pos h2, if_pos (by obtain ⟨x, hx, e⟩ := h2; exact ⟨x, by simp [hx], e⟩)]
    · rw [if_neg h2, if_neg (fun ⟨x, hx, e⟩ => by
        rcases List.mem_cons.1 hx with rfl | hx
        · exact h e
        · exact h2 ⟨x, hx, e⟩)]
open Classical in
theorem fD_at {s : Ded} (hs : Snd s) {l : List Ty} {g : Ty} (hl : Goods l) (hg : Good g) : fD s (.string (mkB (keyL l g))) = if (l, g) ∈ s then some (iv 1) else none := by
  unfold fD
  by_cases h : (l, g) ∈ s
  · rw [if_pos h, if_pos ⟨_, h, rfl⟩]
  · rw [if_neg h, if_neg (fun ⟨x, hx, e⟩ => by
      injection e with e
      obtain ⟨_, h1, h2⟩ := hs x hx
      obtain ⟨e1, e2⟩ := keyL_inj hl h1 hg h2 (mkB_inj e)
      exact h (by rw [e1, e2]; exact hx))]
theorem MO_cl (s : Ded) (B : Nat) : ClO B (MO s) := fun k a h => by
  unfold fD at h
  split at h
  · injection h with h; subst h; exact Cl.p _
  · cases h
theorem key_some (l : List Ty) (g : Ty) (h : (keyL l g).length ≤ 9223372036854775807) : (keyOf Try.prog 9 (.string (mkB (keyL l g)))).isSome = true := by
  have hu := Try.underlying9
  have hs : (mkB (keyL l g)).size ≤ 9223372036854775807 := by rw [mkB_size]; exact h
  have hml : maxLen = 9223372036854775807 := by decide
  simp [keyOf, mapKey]
  omega
theorem keyedS : Keyed Try.prog 9 := string_keyed Try.underlying9
/-- what a proof's steps are made of is told as data; it is given back with all else as it was, but for the map -/
theorem rt_kids {H H1 : AH} {m : Nat} {o : AO} {r n : Nat} {es : List Pf} {xs : List AV} {ok : AV} {Q : AV → AH → Prop} (hw : WF (H.put m o)) (hle : (H.put m o).le H1) (hn : H.nx ≤ H1.nx) (hr : H.nx ≤ r) (hrow : H1.get r = some (.row 27 8 (es.map Pf.cs))) (hne : n = es.length)
    (hc : Clo H.nx xs) (hok : Cl H.nx ok) (hq : Q (.tup [.agg (xs ++ [.dsl 8 (es.map Pf.cs)]), ok]) (H.put m o)) : Rt Try.prog H.nx (.tup [.agg (xs ++ [.osl r 8 0 n]), ok]) Q H1 := by
  subst hne
  have hs : Sub Try.prog (H1.put r (.frz 8 (es.map Pf.cs))) (.osl r 8 0 es.length) (.dsl 8 (es.map Pf.cs)) := by
    have := Sub.frz (P := Try.prog) (H := H1.put r (.frz 8 (es.map Pf.cs))) (r := r) (off := 0) (n := es.length) (put_get _ _) (by simp)
    rw [List.drop_zero, List.take_of_length_le (by simp)] at this
    exact this
  have hxs : ∀ ys : List AV, Subs Try.prog (H1.put r (.frz 8 (es.map Pf.cs))) (ys ++ [.osl r 8 0 es.length]) (ys ++ [.dsl 8 (es.map Pf.cs)]) := fun ys => by
    induction ys with
    | nil => exact .cons hs .nil
    | cons y ys ih => exact .cons (.refl _) ih
  refine rt_row (n := 0) (H0 := H.put m o) hw hn hr hle hrow (dt_pf es) (.tup (.cons (.agg (hxs xs)) (.cons (.refl _) .nil))) (.tup (.cons (.agg fun a ha => ?_) (.cons hok .nil))) hq
  rcases List.mem_append.1 ha with ha | ha
  · exact hc a ha
  · simp at ha; subst ha; exact Cl.dsl _ _
theorem take7_set {cs : List AV} (h : cs.length = 8) (x : AV) : List.take 8 (List.take 7 cs ++ x :: List.drop 8 cs) = List.take 7 cs ++ [x] := by
  rw [List.drop_of_length_le (by omega)]
  exact List.take_of_length_le (by rw [List.length_append, List.length_take]; simp; omega)
theorem take8_app {cs : List AV} (h : cs.length = 8) (z : List AV) : List.take 8 (cs ++ z) = cs := by
  rw [List.take_append_of_le_length (by omega), List.take_of_length_le (by omega)]
theorem take8_7 {cs : List AV} (h : cs.length = 8) (x : AV) (z : List AV) : List.take 8 (List.take 7 cs ++ [x] ++ z) = List.take 7 cs ++ [x] := take8_app (by rw [List.length_append, List.length_take]; simp; omega) z
def PrAt (H : AH) (pr m : Nat) (s : Ded) : Prop := H.get pr = some (.box 63 [.mp m]) ∧ H.get m = some (MO s)
/-- what a look for a proof does in memory -/
def PrC (N : Nat) : Prop := ∀ (l : List Ty) (g : Ty) (s : Ded) (pr m : Nat) (H : AH), Goods l → Good g → Ty.sls l + g.sl < N → l.length + (Ty.sls l + g.sl) ≤ 16 → Snd s → s.length + cost (Ty.sls l + g.sl) ≤ 9000000000000000000 → PrAt H pr m s →
  Tri Try.prog 34 [.ptr pr 0, tE l, g.av] H (fun r H' => H' = H.put m (MO (proofF N l g s).2.2) ∧ r = .tup [(proofF N l g s).1.av, bv (proofF N l g s).2.1])
set_option maxHeartbeats 2000000 in
theorem c_both {N : Nat} (hP : PrC N) (p : Pf) (d : List Ty) (x : Ty) (rest : List Ty) (s : Ded) (pr m : Nat) (H : AH) (hd : Goods d) (hx : Good x) (hr : Goods rest) (hg : Good p.goal) (h1 : Ty.sls d + x.sl < N) (h2 : Ty.sls rest + p.goal.sl < N) (h3 : d.length + (Ty.sls d + x.sl) ≤ 16) (h4 : rest.length + (Ty.sls rest + p.goal.sl) ≤ 16)
    (hs : Snd s) (hc : s.length + cost (Ty.sls d + x.sl) + cost (Ty.sls rest + p.goal.sl) ≤ 9000000000000000000) (ha : PrAt H pr m s) :
    Tri Try.prog 77 [.ptr pr 0, p.av, tE d, x.av, tE rest] H (fun r H' => H' = H.put m (MO (both (proofF N) p d x rest s).2.2) ∧ r = .tup [(both (proofF N) p d x rest s).1.av, bv (both (proofF N) p d x rest s).2.1]) := tri_wf fun hw => tri_prover_both (by
  have hml : maxLen = 9223372036854775807 := by decide
  obtain ⟨ha1, ha2⟩ := ha
  have hpn := (hw _ _ ha1).1
  have hmn := (hw _ _ ha2).1
  have hpm : pr ≠ m := fun e => by subst e; rw [ha1] at ha2; cases ha2
  have hwM : ∀ s, WF (H.put m (MO s)) := fun s => hw.put hmn (MO_cl s _)
  obtain ⟨t1, t2, t3, t4⟩ := proofF_spec N d x s hd hx h1 h3 hs
  unfold S_prover_both both
  simp (disch := first | omega | simp) [Pf.av, put_get_ne, Ty.av, Ty.cs_len, Ty.cs_take]
  refine ca_of (by kernel_rfl) (hP d x s pr m _ hd hx h1 h3 hs (by omega) ⟨by simp (disch := first | omega | simp) [put_get_ne, ha1], by simp (disch := first | omega | simp) [put_get_ne, ha2]⟩) ?_
  rintro _ _ ⟨rfl, rfl⟩
  generalize proofF N d x s = a at *
  obtain ⟨a1, aok, sa⟩ := a
  dsimp only at t1 t2 t3 t4 ⊢
  simp (disch := first | omega | simp) [Pf.av, bv, Pf.cs_len, Pf.cs_take, put_get_ne]
  cases aok with
  | false =>
    simp (disch := first | omega | simp)
    exact rt_tupP (hwM sa) (by repeat (first | with_reducible assumption | with_reducible apply AH.le.up | (with_reducible refine AH.le.put (hwM _) ?_ ?_; · first | omega | (simp only [put_nx]; done) | (simp only [put_nx]; omega)) | (with_reducible refine AH.le.kill (hwM _) ?_ ?_; · first | omega | (simp only [up_nx, put_nx, kill_nx]; done) | (simp only [up_nx, put_nx, kill_nx]; omega)) | with_reducible refine le_base ?_ | (with_reducible refine AH.le.put hw ?_ ?_; · first | omega | (simp only [up_nx, put_nx, kill_nx]; done) | (simp only [up_nx, put_nx, kill_nx]; omega)) | with_reducible exact AH.le.refl _)) (.cons (.agg (Pf.cl _ _)) (.cons (Cl.p _) .nil)) ⟨rfl, rfl⟩
  | true =>
    simp (disch := first | omega | simp) [Pf.cs_goal]
    generalize hM : AH.up _ 11 = M
    have hMl : (H.put m (MO sa)).le M := by rw [← hM]; exact (by repeat (first | with_reducible assumption | with_reducible apply AH.le.up | (with_reducible refine AH.le.put (hwM _) ?_ ?_; · first | omega | (simp only [put_nx]; done) | (simp only [put_nx]; omega)) | (with_reducible refine AH.le.kill (hwM _) ?_ ?_; · first | omega | (simp only [up_nx, put_nx, kill_nx]; done) | (simp only [up_nx, put_nx, kill_nx]; omega)) | with_reducible refine le_base ?_ | (with_reducible refine AH.le.put hw ?_ ?_; · first | omega | (simp only [up_nx, put_nx, kill_nx]; done) | (simp only [up_nx, put_nx, kill_nx]; omega)) | with_reducible exact AH.le.refl _))
    have hMn : M.nx = H.nx + 25 := by rw [← hM]; rfl
    have hM0 : M.get H.nx = some (.box 27 p.cs) := by rw [← hM]; simp (disch := first | omega | simp) [put_get_ne]
    have hM2 : ∃ cs, M.get (H.nx + 2) = some (.box 27 cs) ∧ cs.length = 8 := by rw [← hM]; exact ⟨_, by simp (disch := first | omega | simp) [put_get_ne]; rfl, rfl⟩
    have hM7 : M.get (H.nx + 4 + 7) = some (.box 27 a1.cs) := by rw [← hM]; simp (disch := first | omega | simp)
    have hMp : M.get pr = some (.box 63 [.mp m]) := hMl _ _ (by rw [AH.get_put_ne hpm]; exact ha1)
    have hMm : M.get m = some (MO sa) := hMl _ _ (put_get _ _)
    clear hM
    obtain ⟨cs2, hM2, hc2⟩ := hM2
    obtain ⟨u1, u2, u3, u4⟩ := proofF_spec N rest p.goal sa hr hg h2 h4 t2
    refine ca_of (by kernel_rfl) (hP rest p.goal sa pr m _ hr hg h2 h4 t2 (by omega) ⟨hMp, hMm⟩) ?_
    rintro _ _ ⟨rfl, rfl⟩
    generalize proofF N rest p.goal sa = b at *
    obtain ⟨b1, bok, sb⟩ := b
    dsimp only at u1 u2 u3 u4 ⊢
    simp (disch := first | omega | simp) [Pf.av, bv, Pf.cs_len, Pf.cs_take, put_get_ne, hM0, hM2, hM7, hc2]
    rw [take7_set (Pf.cs_len p), take8_7 (Pf.cs_len p), take8_app (Pf.cs_len a1), take8_app (Pf.cs_len b1)]
    refine rt_kids (es := [a1, b1]) (hwM sb) ?_ (by first | omega | (simp only [up_nx, put_nx]; done) | (simp only [up_nx, put_nx]; omega)) (by omega) (by simp (disch := first | omega | simp) [put_get_ne]) rfl (fun a ha => Pf.cl p _ a (List.mem_of_mem_take ha)) (Cl.p _) ⟨rfl, ?_⟩
    · have h5 : (H.put m (MO sb)).le (M.put m (MO sb)) := le_rebase hMl
      exact (by repeat (first | with_reducible assumption | with_reducible apply AH.le.up | (with_reducible refine AH.le.put (hwM _) ?_ ?_; · first | omega | (simp only [put_nx]; done) | (simp only [put_nx]; omega)) | (with_reducible refine AH.le.kill (hwM _) ?_ ?_; · first | omega | (simp only [up_nx, put_nx, kill_nx]; done) | (simp only [up_nx, put_nx, kill_nx]; omega)) | with_reducible refine le_base ?_ | (with_reducible refine AH.le.put hw ?_ ?_; · first | omega | (simp only [up_nx, put_nx, kill_nx]; done) | (simp only [up_nx, put_nx, kill_nx]; omega)) | with_reducible exact AH.le.refl _))
    · rw [Pf.cs_eq, Pf.cs_eq]; rfl)
end Go.Proofs.Ytpmnlikgldacaaa

/- The prover: a proof, by a search and what is known. -/
namespace Go.Proofs.Ytpmnlikgldacaaa
open Go.RowKit Go.Maps
/-- what a search does in memory -/
def SrC (N : Nat) : Prop := ∀ (l : List Ty) (g : Ty) (s : Ded) (pr m : Nat) (H : AH), Goods l → Good g → l ≠ [] → Ty.sls l + g.sl ≤ N → l.length + (Ty.sls l + g.sl) ≤ 16 → Snd s → s.length + cost (Ty.sls l + g.sl) ≤ 9000000000000000000 → PrAt H pr m s →
  Tri Try.prog 64 [.ptr pr 0, tE l, g.av] H (fun r H' => H' = H.put m (MO (searchF (proofF N) l g s).2.2) ∧ r = .tup [(searchF (proofF N) l g s).1.av, bv (searchF (proofF N) l g s).2.1])
theorem zero_cs : zeroP.cs = [iv 0, .dsl 3 [], iv 0, iv 0, .dsl 3 [], iv 0, iv 0, .dsl 8 []] := by rw [Pf.cs_eq]; rfl
theorem sub_zero {H : AH} {ok : AV} : Sub Try.prog H (.tup [.agg [.p (.int .i64 0), .p (.slice none 0 0), .p (.int .i64 0), .p (.int .i64 0), .p (.slice none 0 0), .p (.int .i64 0), .p (.int .i64 0), .p (.slice none 0 0)], ok]) (.tup [zeroP.av, ok]) := by
  unfold Pf.av
  rw [zero_cs]
  exact .tup (.cons (.agg (.cons (.refl _) (.cons (Sub.nil 3 0 (Nat.zero_le _)) (.cons (.refl _) (.cons (.refl _) (.cons (Sub.nil 3 0 (Nat.zero_le _)) (.cons (.refl _) (.cons (.refl _) (.cons (Sub.nil 8 0 (Nat.zero_le _)) .nil))))))))) (.cons (.refl _) .nil))
theorem rt_zero {H H1 : AH} {Q : AV → AH → Prop} {b : Bool} (hw : WF H) (hle : H.le H1) (hn : H.nx ≤ H1.nx) (hq : Q (.tup [zeroP.av, bv b]) H) : Rt Try.prog H.nx (.tup [.agg [.p (.int .i64 0), .p (.slice none 0 0), .p (.int .i64 0), .p (.int .i64 0), .p (.slice none 0 0), .p (.int .i64 0), .p (.int .i64 0), .p (.slice none 0 0)], .p (.bool b)]) Q H1 :=
  rt_sub hw hle hn sub_zero (.tup (.cons (.agg (Pf.cl _ _)) (.cons (Cl.p _) .nil))) hq
theorem le_same {H H1 : AH} {m : Nat} {o : AO} (hle : H.le H1) (h : H1.get m = some o) : (H.put m o).le H1 := fun j o' hj => by
  by_cases e : j = m
  · subst e; rw [AH.get_put_self] at hj; injection hj with hj; subst hj; exact h
  · rw [AH.get_put_ne e] at hj; exact hle j o' hj
theorem rt_zeroP {H H1 : AH} {m : Nat} {o : AO} {Q : AV → AH → Prop} {b : Bool} (hw : WF (H.put m o)) (hle : (H.put m o).le H1) (hn : H.nx ≤ H1.nx) (hq : Q (.tup [zeroP.av, bv b]) (H.put m o)) : Rt Try.prog H.nx (.tup [.agg [.p (.int .i64 0), .p (.slice none 0 0), .p (.int .i64 0), .p (.int .i64 0), .p (.slice none 0 0), .p (.int .i64 0), .p (.int .i64 0), .p (.slice none 0 0)], .p (.bool b)]) Q H1 :=
  rt_zero (H := H.put m o) hw hle hn hq
theorem mset_MO {P : Program} {i : Nat} {key a : AV} {H : AH} {k : AH → Prop} {s : Ded} : msetF P 9 i key a H k (some (MO s)) = (9 = 9 ∧ Keyed P 9 ∧ onSome key.val (fun u => (keyOf P 9 u).isSome = true ∧ s.length < maxLen ∧ k (H.put i (.map 9 (s.length + 1) (putA (fD s) u a))))) := rfl
set_option maxHeartbeats 2000000 in
theorem proof_of {N : Nat} (hS : SrC N) : PrC (N + 1) := by
  intro l g s pr m H hl hg hN hK hs hc ha
  refine tri_wf fun hw => tri_prover_proof ?_
  have hml : maxLen = 9223372036854775807 := by decide
  obtain ⟨ha1, ha2⟩ := ha
  have hpn := (hw _ _ ha1).1
  have hmn := (hw _ _ ha2).1
  have hpm : pr ≠ m := fun e => by subst e; rw [ha1] at ha2; cases ha2
  have hwM : ∀ s, WF (H.put m (MO s)) := fun s => hw.put hmn (MO_cl s _)
  unfold S_prover_proof
  rw [proofF]
  by_cases h0 : l = []
  · subst h0
    rw [if_pos (.inl rfl)]
    simp (disch := first | omega | simp) [tE, Ty.av]
    exact rt_zeroP (hwM s) (le_same (by repeat (first | with_reducible assumption | with_reducible exact AH.le.refl _ | with_reducible apply AH.le.up | (with_reducible refine AH.le.put hw ?_ ?_; · first | omega | (simp only [up_nx, put_nx, kill_nx]; done) | (simp only [up_nx, put_nx, kill_nx]; omega)) | (with_reducible refine AH.le.kill hw ?_ ?_; · first | omega | (simp only [up_nx, put_nx, kill_nx]; done) | (simp only [up_nx, put_nx, kill_nx]; omega)))) (by simp (disch := first | omega | simp) [put_get_ne, ha2])) (by first | omega | (simp only [up_nx, put_nx]; done) | (simp only [up_nx, put_nx]; omega)) ⟨rfl, rfl⟩
  have hpos : 0 < l.length := List.length_pos_iff.2 h0
  have h0' : ¬ l.length = 0 := by omega
  have h0'' : ¬ (l.length : Int) = 0 := by omega
  cases hlev : levelB l g with
  | false =>
    rw [if_pos (.inr rfl)]
    unfold tE
    simp (disch := first | omega | simp) [h0', Ty.av, Ty.cs_len, Ty.cs_take, put_get_ne]
    refine ca_pure (by kernel_rfl) (c_balanced hl hg (by omega) _) ?_
    rw [hlev]
    simp (disch := first | omega | simp) [bv]
    exact rt_zeroP (hwM s) (le_same (by repeat (first | with_reducible assumption | with_reducible exact AH.le.refl _ | with_reducible apply AH.le.up | (with_reducible refine AH.le.put hw ?_ ?_; · first | omega | (simp only [up_nx, put_nx, kill_nx]; done) | (simp only [up_nx, put_nx, kill_nx]; omega)) | (with_reducible refine AH.le.kill hw ?_ ?_; · first | omega | (simp only [up_nx, put_nx, kill_nx]; done) | (simp only [up_nx, put_nx, kill_nx]; omega)))) (by simp (disch := first | omega | simp) [put_get_ne, ha2])) (by first | omega | (simp only [up_nx, put_nx]; done) | (simp only [up_nx, put_nx]; omega)) ⟨rfl, rfl⟩
  | true =>
    rw [if_neg (by simp [h0])]
    unfold tE
    simp (disch := first | omega | simp) [h0', Ty.av, Ty.cs_len, Ty.cs_take, put_get_ne]
    refine ca_pure (by kernel_rfl) (c_balanced hl hg (by omega) _) ?_
    rw [hlev]
    simp (disch := first | omega | simp) [bv, Ty.cs_len, Ty.cs_take, put_get_ne]
    refine ca_pure (by kernel_rfl) (c_key hl hg (by omega) _) ?_
    have hkl : (keyL l g).length ≤ 45 * (l.length + 1) := by
      have := keyTake_len (hl.app (.cons hg .nil)) (l ++ [g]).length
      rw [List.take_length] at this
      unfold keyL; simpa using this
    have hks := key_some l g (by omega)
    have ha2' : H.get m = some (.map 9 s.length (fD s)) := ha2
    simp (disch := first | omega | simp) [put_get_ne, ha1, ha2', sv, keyedS, hks]
    rw [fD_at hs hl hg]
    by_cases hin : (l, g) ∈ s
    · rw [if_pos hin, if_pos hin]
      simp (disch := first | omega | simp) [iv]
      exact rt_zeroP (hwM s) (le_same (by repeat (first | with_reducible assumption | with_reducible exact AH.le.refl _ | with_reducible apply AH.le.up | (with_reducible refine AH.le.put hw ?_ ?_; · first | omega | (simp only [up_nx, put_nx, kill_nx]; done) | (simp only [up_nx, put_nx, kill_nx]; omega)) | (with_reducible refine AH.le.kill hw ?_ ?_; · first | omega | (simp only [up_nx, put_nx, kill_nx]; done) | (simp only [up_nx, put_nx, kill_nx]; omega)))) (by simp (disch := first | omega | simp) [put_get_ne, ha2])) (by first | omega | (simp only [up_nx, put_nx]; done) | (simp only [up_nx, put_nx]; omega)) ⟨rfl, rfl⟩
    · rw [if_neg hin, if_neg hin]
      simp (disch := first | omega | simp)
      unfold S_prover_proof_C1
      simp (disch := first | omega | simp) [Ty.cs_len, Ty.cs_take, put_get_ne]
      refine ca_of (by kernel_rfl) (hS l g s pr m _ hl hg h0 (by omega) hK hs hc ⟨by simp (disch := first | omega | simp) [put_get_ne, ha1], by simp (disch := first | omega | simp) [put_get_ne, ha2]⟩) ?_
      obtain ⟨u1, u2, u3, u4⟩ := searchF_spec (T := Ty.sls l + g.sl) (fun l' g' s' b1 b2 b3 b4 b5 => proofF_spec N l' g' s' b1 b2 (by omega) b4 b5) hl hg rfl hK h0 s hs
      rintro _ _ ⟨rfl, rfl⟩
      generalize searchF (proofF N) l g s = a at *
      obtain ⟨a1, aok, sa⟩ := a
      dsimp only at u1 u2 u3 u4 ⊢
      cases aok with
      | true =>
        simp (disch := first | omega | simp) [Pf.av, bv, Pf.cs_len, Pf.cs_take, put_get_ne]
        exact rt_tupP (hwM sa) (by repeat (first | with_reducible assumption | with_reducible apply AH.le.up | (with_reducible refine AH.le.put (hwM _) ?_ ?_; · first | omega | (simp only [put_nx]; done) | (simp only [put_nx]; omega)) | (with_reducible refine AH.le.kill (hwM _) ?_ ?_; · first | omega | (simp only [up_nx, put_nx, kill_nx]; done) | (simp only [up_nx, put_nx, kill_nx]; omega)) | with_reducible refine le_base ?_ | (with_reducible refine AH.le.put hw ?_ ?_; · first | omega | (simp only [up_nx, put_nx, kill_nx]; done) | (simp only [up_nx, put_nx, kill_nx]; omega)) | with_reducible exact AH.le.refl _)) (.cons (.agg (Pf.cl _ _)) (.cons (Cl.p _) .nil)) ⟨rfl, rfl⟩
      | false =>
        simp (disch := first | omega | simp) [Pf.av, bv, Pf.cs_len, Pf.cs_take, put_get_ne, ha1, keyedS, hks]
        show (9 = 9 ∧ sa.length < maxLen ∧ _)
        refine ⟨rfl, by omega, ?_⟩
        have hput : putA (fD sa) (.string (mkB (keyL l g))) (.p (.int .i64 1)) = fD ((l, g) :: sa) := fD_cons sa l g
        rw [hput, show AO.map 9 (sa.length + 1) (fD ((l, g) :: sa)) = MO ((l, g) :: sa) from rfl]
        generalize hX : AH.up _ 6 = X
        have hXl : (H.put m (MO sa)).le X := by rw [← hX]; exact (by repeat (first | with_reducible assumption | with_reducible apply AH.le.up | (with_reducible refine AH.le.put (hwM _) ?_ ?_; · first | omega | (simp only [put_nx]; done) | (simp only [put_nx]; omega)) | (with_reducible refine AH.le.kill (hwM _) ?_ ?_; · first | omega | (simp only [up_nx, put_nx, kill_nx]; done) | (simp only [up_nx, put_nx, kill_nx]; omega)) | with_reducible refine le_base ?_ | (with_reducible refine AH.le.put hw ?_ ?_; · first | omega | (simp only [up_nx, put_nx, kill_nx]; done) | (simp only [up_nx, put_nx, kill_nx]; omega)) | with_reducible exact AH.le.refl _))
        have hXn : X.nx = H.nx + 19 := by rw [← hX]; rfl
        clear hX
        have h5 : (H.put m (MO ((l, g) :: sa))).le (X.put m (MO ((l, g) :: sa))) := le_rebase hXl
        exact rt_tupP (hwM _) (by repeat (first | with_reducible assumption | with_reducible apply AH.le.up | (with_reducible refine AH.le.put (hwM _) ?_ ?_; · first | omega | (simp only [put_nx]; done) | (simp only [put_nx]; omega)) | (with_reducible refine AH.le.kill (hwM _) ?_ ?_; · first | omega | (simp only [up_nx, put_nx, kill_nx]; done) | (simp only [up_nx, put_nx, kill_nx]; omega)) | with_reducible refine le_base ?_ | (with_reducible refine AH.le.put hw ?_ ?_; · first | omega | (simp only [up_nx, put_nx, kill_nx]; done) | (simp only [up_nx, put_nx, kill_nx]; omega)) | with_reducible exact AH.le.refl _)) (.cons (.agg (Pf.cl _ _)) (.cons (Cl.p _) .nil)) ⟨rfl, rfl⟩
end Go.Proofs.Ytpmnlikgldacaaa

/- The prover's search. -/
namespace Go.Proofs.Ytpmnlikgldacaaa
open Go.RowKit Go.Maps
theorem rt_leaf {H H1 : AH} {m : Nat} {o : AO} {xs : List AV} {ok : AV} {Q : AV → AH → Prop} (hw : WF (H.put m o)) (hle : (H.put m o).le H1) (hn : H.nx ≤ H1.nx) (hc : Clo H.nx xs) (hok : Cl H.nx ok) (hq : Q (.tup [.agg (xs ++ [.dsl 8 []]), ok]) (H.put m o)) : Rt Try.prog H.nx (.tup [.agg (xs ++ [.p (.slice none 0 0)]), ok]) Q H1 := by
  have hxs : ∀ ys : List AV, Subs Try.prog H1 (ys ++ [.p (.slice none 0 0)]) (ys ++ [.dsl 8 []]) := fun ys => by
    induction ys with
    | nil => exact .cons (Sub.nil 8 0 (Nat.zero_le _)) .nil
    | cons y ys ih => exact .cons (.refl _) ih
  refine rt_sub (H0 := H.put m o) hw hle hn (.tup (.cons (.agg (hxs xs)) (.cons (.refl _) .nil))) (.tup (.cons (.agg fun a ha => ?_) (.cons hok .nil))) hq
  rcases List.mem_append.1 ha with ha | ha
  · exact hc a ha
  · simp at ha; subst ha; exact Cl.dsl _ _
/-- a call in a drawn region that gets a row as data and changes one thing that was there -/
theorem cap_frz {P : Program} {V H : AH} {b i m t sz : Nat} {o : AO} {es : List (List AV)} {sl : List Nat} {f : FuncId} {first ps cap : List AV} {r : AV} {k : AV → AH → AH → Prop} (hc : callable P f = true) (hi : i ∈ sl) (hv : V.get i = none) (hg : H.get i = some (.row t sz es)) (hd : DtR es) (hm : m < b)
    (h : ∀ H2, (∀ id, id < b ∨ id ∈ sl → H2.get id = (H.put i (.frz sz es)).get id) → Tri P f (first ++ ps ++ cap) H2 (fun v H' => H' = H2.put m o ∧ v = r)) (hk : k r (V.put m o) ((H.put i (.frz sz es)).put m o)) : CaP P V b sl (.fn (.func f) first cap) ps k H := by
  have he : frzL H [i] = H.put i (.frz sz es) := by simp [frzL, frzE, hg, frzO, apE]
  refine ⟨f, first, cap, r, [i], [(m, o)], rfl, hc, fun j hj => ?_, fun p hp => ?_, by rw [he]; exact h, by rw [he]; exact hk⟩
  · simp at hj; subst hj; exact ⟨hi, hv, by rw [hg]; exact hd⟩
  · simp at hp; subst hp; exact hm
def zero8 : List AV := [.p (.int .i64 0), .p (.slice none 0 0), .p (.int .i64 0), .p (.int .i64 0), .p (.slice none 0 0), .p (.int .i64 0), .p (.int .i64 0), .p (.slice none 0 0)]
def pz (st : Int) (l : List Ty) (g : Ty) (z : AV) : List AV := [.p (.int .i64 st), .dsl 3 (l.map Ty.cs), .p (.int .i64 g.kind), .p (.int .i64 g.num), .dsl 3 (g.kids.map Ty.cs), .p (.int .i64 0), .p (.int .i64 0), z]
/-- where a search begins to work -/
structure SM (H M : AH) (pr m : Nat) (s : Ded) (l : List Ty) (g : Ty) : Prop where
  wf : WF H
  wm : WF M
  ne : pr ≠ m
  pn : pr < H.nx
  mn : m < H.nx
  le : (H.put m (MO s)).le M
  nx : M.nx = H.nx + 8
  gb : M.get H.nx = some (.box 24 g.cs)
  zb : M.get (H.nx + 1) = some (.box 27 zero8)
  pb : M.get (H.nx + 3 + 3) = some (.box 27 (pz 0 l g (.p (.slice none 0 0))))
  pr_ : M.get pr = some (.box 63 [.mp m])
  mo : M.get m = some (MO s)
set_option maxHeartbeats 4000000 in
theorem search_o {N : Nat} (hP : PrC N) {H M : AH} {pr m : Nat} {s : Ded} {l : List Ty} {x y : Ty} (h : SM H M pr m s l (Ty.o x y)) (hl : Goods l) (hx : Good x) (hy : Good y) (hN : Ty.sls l + (y.sl + x.sl) < N) (hK : l.length + 1 + (Ty.sls l + (y.sl + x.sl)) ≤ 16) (hs : Snd s) (hc : s.length + cost (Ty.sls l + (y.sl + x.sl)) ≤ 9000000000000000000) :
    S_prover_search_C1 (.ptr pr 0) (.dsl 3 (l.map Ty.cs)) (fun r H' => H' = H.put m (MO (proofF N (l ++ [y]) x s).2.2) ∧ r = .tup [Pf.av ⟨2, l, Ty.o x y, 0, 0, [(proofF N (l ++ [y]) x s).1]⟩, bv (proofF N (l ++ [y]) x s).2.1]) H (.ptr H.nx 0) (.ptr (H.nx + 1) 0) (.ptr (H.nx + 3 + 3) 0) M := by
  have hml : maxLen = 9223372036854775807 := by decide
  obtain ⟨hw, hwm, hpm, hpn, hmn, hMl, hMn, hgb, hzb, hpb, hprb, hmo⟩ := h
  have hwM : ∀ s, WF (H.put m (MO s)) := fun s => hw.put hmn (MO_cl s _)
  unfold S_prover_search_C1
  simp (disch := first | omega | simp) []
  refine car_of 24 3 (l.map Ty.cs) (by kernel_rfl) (ty_len _) (fun H2 _ => c_CloneP l (by omega)) ?_
  simp (disch := first | omega | simp) [iv, Ty.cs_len, Ty.cs_take, hgb, Ty.cs_o]
  have hlen : ∀ z : Ty, l.length + [z.cs].length = (l ++ [z]).length := fun z => by simp
  refine wrf_row rfl (wf_none hwm (by first | omega | (simp only [up_nx, put_nx, kill_nx]; done) | (simp only [up_nx, put_nx, kill_nx]; omega))) (es := l.map Ty.cs) (by simp (disch := first | omega | simp) [put_get_ne]) (by simp) (elF_whole (t := 24) (es := [y.cs]) rfl (by simp (disch := first | omega | simp)) rfl) (by simp; omega) (by simp; omega) ?_
  have hes : ((l.map Ty.cs).drop 0).take l.length ++ [y.cs] = (l ++ [y]).map Ty.cs := by rw [List.drop_zero, List.take_of_length_le (by simp), List.map_append]; rfl
  rw [hlen, hes]
  simp (disch := first | omega | simp) [iv, Ty.cs_len, Ty.cs_take, hgb, Ty.cs_o]
  have hly : Goods (l ++ [y]) := hl.app (.cons hy .nil)
  have hsl : Ty.sls (l ++ [y]) + x.sl = Ty.sls l + (y.sl + x.sl) := by rw [Ty.sls_app, Ty.sls_cons, Ty.sls_nil]; omega
  have hll : (l ++ [y]).length = l.length + 1 := by simp
  generalize hR : proofF N (l ++ [y]) x s = R
  obtain ⟨R1, Rok, Rs⟩ := R
  refine cap_frz (i := M.nx + 8) (m := m) (t := 24) (sz := 3) (es := (l ++ [y]).map Ty.cs) (o := MO Rs) (r := .tup [R1.av, bv Rok]) (by kernel_rfl) (by simp) (wf_none hwm (by first | omega | (simp only [up_nx, put_nx, kill_nx]; done) | (simp only [up_nx, put_nx, kill_nx]; omega))) (by simp (disch := first | omega | simp)) (dt_ty _) (by omega) (fun H2 hag => ?_) ?_
  · have hf : H2.get (M.nx + 8) = some (.frz 3 ((l ++ [y]).map Ty.cs)) := by rw [hag _ (.inr (by simp)), put_get]
    have hsub := Sub.frz (P := Try.prog) (off := 0) (n := (l ++ [y]).length) hf (by simp)
    rw [List.drop_zero, List.take_of_length_le (by simp)] at hsub
    have := hP (l ++ [y]) x s pr m H2 hly hx (by omega) (by omega) hs (by rw [hsl]; exact hc) ⟨by rw [hag _ (.inl (by omega))]; simp (disch := first | omega | simp) [put_get_ne, kill_get_ne, hprb], by rw [hag _ (.inl (by omega))]; simp (disch := first | omega | simp) [put_get_ne, kill_get_ne, hmo]⟩
    rw [hR] at this
    rw [List.length_append] at hsub
    exact Tri.args (.cons (.refl _) (.cons hsub (.cons (.refl _) .nil))) this
  simp (disch := first | omega | simp) [Pf.av, bv, Pf.cs_len, put_get_ne]
  refine ⟨wf_none hwm (by first | omega | (simp only [up_nx, put_nx, kill_nx]; done) | (simp only [up_nx, put_nx, kill_nx]; omega)), [H.nx + 3 + 3], ?_⟩
  generalize hX : AH.up _ 6 = X
  have hXl : (H.put m (MO Rs)).le X := by
    have hM2 : (H.put m (MO Rs)).le (M.put m (MO Rs)) := le_rebase hMl
    have h3 : (H.put m (MO Rs)).le X := by
      rw [← hX]
      refine AH.le.up (AH.le.put (hwM _) (by first | omega | (simp only [put_nx]; done) | (simp only [put_nx]; omega)) (AH.le.put (hwM _) (by first | omega | (simp only [put_nx]; done) | (simp only [put_nx]; omega)) (le_rebase (a := MO s) ?_)))
      exact (by repeat (first | with_reducible assumption | with_reducible apply AH.le.up | (with_reducible refine AH.le.put (hwM _) ?_ ?_; · first | omega | (simp only [put_nx]; done) | (simp only [put_nx]; omega)) | (with_reducible refine AH.le.kill (hwM _) ?_ ?_; · first | omega | (simp only [put_nx]; done) | (simp only [put_nx]; omega)) | with_reducible refine le_base ?_ | (with_reducible refine AH.le.put hw ?_ ?_; · first | omega | (simp only [up_nx, put_nx, kill_nx]; done) | (simp only [up_nx, put_nx, kill_nx]; omega)) | with_reducible exact AH.le.refl _))
    exact h3
  have hXn : X.nx = H.nx + 34 := by rw [← hX]; simp only [up_nx, put_nx, kill_nx]; omega
  have hX6 : X.get (H.nx + 3 + 3) = some (.box 27 (pz 0 l (Ty.o x y) (.p (.slice none 0 0)))) := by rw [← hX]; simp (disch := first | omega | simp) [put_get_ne, kill_get_ne, hpb]
  have hX1 : X.get (H.nx + 1) = some (.box 27 zero8) := by rw [← hX]; simp (disch := first | omega | simp) [put_get_ne, kill_get_ne, hzb]
  have hX17 : X.get (M.nx + 17) = some (.box 27 R1.cs) := by rw [← hX]; simp (disch := first | omega | simp)
  clear hX
  rw [hMn] at hX17 ⊢
  unfold pz at hX6
  unfold zero8 at hX1
  simp (disch := first | omega | simp) [del_get_ne, hX17, Pf.cs_len, Pf.cs_take]
  refine wro_st (t := 27) (by omega) (by simp) (by simp (disch := first | omega | simp) [put_get_ne, hX6]; rfl) rfl (by simp) (by simp) ?_
  simp (disch := first | omega | simp) [put_get_ne, hX1]
  exact rt_kids (r := H.nx + 8 + 20 + 1) (es := [R1]) (xs := [iv 2, .dsl 3 (l.map Ty.cs), iv (Ty.o x y).kind, iv (Ty.o x y).num, .dsl 3 ((Ty.o x y).kids.map Ty.cs), iv 0, iv 0]) (hwM Rs) (by repeat (first | with_reducible assumption | with_reducible apply AH.le.up | (with_reducible refine AH.le.put (hwM _) ?_ ?_; · first | omega | (simp only [put_nx]; done) | (simp only [put_nx]; omega)) | (with_reducible refine AH.le.kill (hwM _) ?_ ?_; · first | omega | (simp only [up_nx, put_nx, kill_nx]; done) | (simp only [up_nx, put_nx, kill_nx]; omega)) | with_reducible refine le_base ?_ | (with_reducible refine AH.le.put hw ?_ ?_; · first | omega | (simp only [up_nx, put_nx, kill_nx]; done) | (simp only [up_nx, put_nx, kill_nx]; omega)) | with_reducible exact AH.le.refl _)) (by first | omega | (simp only [up_nx, put_nx]; done) | (simp only [up_nx, put_nx]; omega)) (by omega) (by simp (disch := first | omega | simp) [put_get_ne]) rfl (by repeat (first | exact Cl.p _ | exact Cl.dsl _ _ | exact Cl.any | refine Cl.tup ?_ | refine Cl.agg ?_ | exact Clo.nil | refine Clo.cons ?_ ?_)) (Cl.p _) ⟨rfl, by rw [Pf.cs_eq]; rfl⟩
set_option maxHeartbeats 4000000 in
theorem search_u {N : Nat} (hP : PrC N) {H M : AH} {pr m : Nat} {s : Ded} {l : List Ty} {x y : Ty} (h : SM H M pr m s l (Ty.u y x)) (hl : Goods l) (hx : Good x) (hy : Good y) (hN : Ty.sls l + (y.sl + x.sl) < N) (hK : l.length + 1 + (Ty.sls l + (y.sl + x.sl)) ≤ 16) (hs : Snd s) (hc : s.length + cost (Ty.sls l + (y.sl + x.sl)) ≤ 9000000000000000000) :
    S_prover_search_C2 (.ptr pr 0) (.dsl 3 (l.map Ty.cs)) (fun r H' => H' = H.put m (MO (proofF N (y :: l) x s).2.2) ∧ r = .tup [Pf.av ⟨3, l, Ty.u y x, 0, 0, [(proofF N (y :: l) x s).1]⟩, bv (proofF N (y :: l) x s).2.1]) H (.ptr H.nx 0) (.ptr (H.nx + 1) 0) (.ptr (H.nx + 3 + 3) 0) M := by
  have hml : maxLen = 9223372036854775807 := by decide
  obtain ⟨hw, hwm, hpm, hpn, hmn, hMl, hMn, hgb, hzb, hpb, hprb, hmo⟩ := h
  have hwM : ∀ s, WF (H.put m (MO s)) := fun s => hw.put hmn (MO_cl s _)
  unfold S_prover_search_C2
  simp (disch := first | omega | simp) []
  simp (disch := first | omega | simp) [iv, Ty.cs_len, Ty.cs_take, hgb, Ty.cs_u]
  refine wrf_row rfl (wf_none hwm (by first | omega | (simp only [up_nx, put_nx, kill_nx]; done) | (simp only [up_nx, put_nx, kill_nx]; omega))) (es := [y.cs]) (by simp (disch := first | omega | simp)) (by simp) (.old _ _ (.dsl _)) (by simp; omega) (by simp; omega) ?_
  have hes : (List.drop 0 [y.cs]).take 1 ++ l.map Ty.cs = (y :: l).map Ty.cs := rfl
  have hlen : 1 + (l.map Ty.cs).length = (y :: l).length := by simp; omega
  rw [hlen, hes]
  simp (disch := first | omega | simp) [iv, Ty.cs_len, Ty.cs_take, hgb, Ty.cs_u]
  have hly : Goods (y :: l) := .cons hy hl
  have hsl : Ty.sls (y :: l) + x.sl = Ty.sls l + (y.sl + x.sl) := by rw [Ty.sls_cons]; omega
  have hll : (y :: l).length = l.length + 1 := by simp
  generalize hR : proofF N (y :: l) x s = R
  obtain ⟨R1, Rok, Rs⟩ := R
  refine cap_frz (i := M.nx + 7) (m := m) (t := 24) (sz := 3) (es := (y :: l).map Ty.cs) (o := MO Rs) (r := .tup [R1.av, bv Rok]) (by kernel_rfl) (by simp) (wf_none hwm (by first | omega | (simp only [up_nx, put_nx, kill_nx]; done) | (simp only [up_nx, put_nx, kill_nx]; omega))) (by simp (disch := first | omega | simp)) (dt_ty _) (by omega) (fun H2 hag => ?_) ?_
  · have hf : H2.get (M.nx + 7) = some (.frz 3 ((y :: l).map Ty.cs)) := by rw [hag _ (.inr (by simp)), put_get]
    have hsub := Sub.frz (P := Try.prog) (off := 0) (n := (y :: l).length) hf (by simp)
    rw [List.drop_zero, List.take_of_length_le (by simp)] at hsub
    have := hP (y :: l) x s pr m H2 hly hx (by omega) (by omega) hs (by rw [hsl]; exact hc) ⟨by rw [hag _ (.inl (by omega))]; simp (disch := first | omega | simp) [put_get_ne, kill_get_ne, hprb], by rw [hag _ (.inl (by omega))]; simp (disch := first | omega | simp) [put_get_ne, kill_get_ne, hmo]⟩
    rw [hR] at this
    rw [List.length_cons] at hsub
    exact Tri.args (.cons (.refl _) (.cons hsub (.cons (.refl _) .nil))) this
  simp (disch := first | omega | simp) [Pf.av, bv, Pf.cs_len, put_get_ne]
  refine ⟨wf_none hwm (by first | omega | (simp only [up_nx, put_nx, kill_nx]; done) | (simp only [up_nx, put_nx, kill_nx]; omega)), [H.nx + 3 + 3], ?_⟩
  generalize hX : AH.up _ 6 = X
  have hXl : (H.put m (MO Rs)).le X := by
    have hM2 : (H.put m (MO Rs)).le (M.put m (MO Rs)) := le_rebase hMl
    have h3 : (H.put m (MO Rs)).le X := by
      rw [← hX]
      refine AH.le.up (AH.le.put (hwM _) (by first | omega | (simp only [put_nx]; done) | (simp only [put_nx]; omega)) (AH.le.put (hwM _) (by first | omega | (simp only [put_nx]; done) | (simp only [put_nx]; omega)) (le_rebase (a := MO s) ?_)))
      exact (by repeat (first | with_reducible assumption | with_reducible apply AH.le.up | (with_reducible refine AH.le.put (hwM _) ?_ ?_; · first | omega | (simp only [put_nx]; done) | (simp only [put_nx]; omega)) | (with_reducible refine AH.le.kill (hwM _) ?_ ?_; · first | omega | (simp only [put_nx]; done) | (simp only [put_nx]; omega)) | with_reducible refine le_base ?_ | (with_reducible refine AH.le.put hw ?_ ?_; · first | omega | (simp only [up_nx, put_nx, kill_nx]; done) | (simp only [up_nx, put_nx, kill_nx]; omega)) | with_reducible exact AH.le.refl _))
    exact h3
  have hXn : X.nx = H.nx + 33 := by rw [← hX]; simp only [up_nx, put_nx, kill_nx]; omega
  have hX6 : X.get (H.nx + 3 + 3) = some (.box 27 (pz 0 l (Ty.u y x) (.p (.slice none 0 0)))) := by rw [← hX]; simp (disch := first | omega | simp) [put_get_ne, kill_get_ne, hpb]
  have hX1 : X.get (H.nx + 1) = some (.box 27 zero8) := by rw [← hX]; simp (disch := first | omega | simp) [put_get_ne, kill_get_ne, hzb]
  have hX16 : X.get (M.nx + 16) = some (.box 27 R1.cs) := by rw [← hX]; simp (disch := first | omega | simp)
  clear hX
  rw [hMn] at hX16 ⊢
  unfold pz at hX6
  unfold zero8 at hX1
  simp (disch := first | omega | simp) [del_get_ne, hX16, Pf.cs_len, Pf.cs_take]
  refine wro_st (t := 27) (by omega) (by simp) (by simp (disch := first | omega | simp) [put_get_ne, hX6]; rfl) rfl (by simp) (by simp) ?_
  simp (disch := first | omega | simp) [put_get_ne, hX1]
  exact rt_kids (r := H.nx + 8 + 19 + 1) (es := [R1]) (xs := [iv 3, .dsl 3 (l.map Ty.cs), iv (Ty.u y x).kind, iv (Ty.u y x).num, .dsl 3 ((Ty.u y x).kids.map Ty.cs), iv 0, iv 0]) (hwM Rs) (by repeat (first | with_reducible assumption | with_reducible apply AH.le.up | (with_reducible refine AH.le.put (hwM _) ?_ ?_; · first | omega | (simp only [put_nx]; done) | (simp only [put_nx]; omega)) | (with_reducible refine AH.le.kill (hwM _) ?_ ?_; · first | omega | (simp only [up_nx, put_nx, kill_nx]; done) | (simp only [up_nx, put_nx, kill_nx]; omega)) | with_reducible refine le_base ?_ | (with_reducible refine AH.le.put hw ?_ ?_; · first | omega | (simp only [up_nx, put_nx, kill_nx]; done) | (simp only [up_nx, put_nx, kill_nx]; omega)) | with_reducible exact AH.le.refl _)) (by first | omega | (simp only [up_nx, put_nx]; done) | (simp only [up_nx, put_nx]; omega)) (by omega) (by simp (disch := first | omega | simp) [put_get_ne]) rfl (by repeat (first | exact Cl.p _ | exact Cl.dsl _ _ | exact Cl.any | refine Cl.tup ?_ | refine Cl.agg ?_ | exact Clo.nil | refine Clo.cons ?_ ?_)) (Cl.p _) ⟨rfl, by rw [Pf.cs_eq]; rfl⟩
end Go.Proofs.Ytpmnlikgldacaaa

/- The prover's search among the parts on the left. -/
namespace Go.Proofs.Ytpmnlikgldacaaa
open Go.RowKit Go.Maps
theorem both_spec {N : Nat} (p : Pf) (d : List Ty) (x : Ty) (rest : List Ty) (s : Ded) (hd : Goods d) (hx : Good x) (hr : Goods rest) (hg : Good p.goal) (h1 : Ty.sls d + x.sl < N) (h2 : Ty.sls rest + p.goal.sl < N) (h3 : d.length + (Ty.sls d + x.sl) ≤ 16) (h4 : rest.length + (Ty.sls rest + p.goal.sl) ≤ 16) (hs : Snd s) :
    Snd (both (proofF N) p d x rest s).2.2 ∧ (both (proofF N) p d x rest s).2.2.length ≤ s.length + cost (Ty.sls d + x.sl) + cost (Ty.sls rest + p.goal.sl) ∧ (both (proofF N) p d x rest s).1.left = p.left ∧ (both (proofF N) p d x rest s).1.goal = p.goal := by
  obtain ⟨t1, t2, t3, t4⟩ := proofF_spec N d x s hd hx h1 h3 hs
  unfold both
  generalize proofF N d x s = a at *
  obtain ⟨a1, aok, sa⟩ := a
  dsimp only at t1 t2 t3 t4 ⊢
  cases aok with
  | false => exact ⟨t2, by show sa.length ≤ _; omega, rfl, rfl⟩
  | true =>
    obtain ⟨u1, u2, u3, u4⟩ := proofF_spec N rest p.goal sa hr hg h2 h4 t2
    exact ⟨u2, by show (proofF N rest p.goal sa).2.2.length ≤ _; omega, rfl, rfl⟩
/-- while parts on the left are tried -/
structure LM (H M : AH) (pr m : Nat) (s : Ded) (l : List Ty) (g : Ty) (b : Nat) (f : Ty) : Prop where
  wf : WF H
  ne : pr ≠ m
  pn : pr < H.nx
  mn : m < H.nx
  le : (H.put m (MO s)).le M
  nx : H.nx + 8 ≤ M.nx
  zb : M.get (H.nx + 1) = some (.box 27 zero8)
  pb : M.get (H.nx + 3 + 3) = some (.box 27 (pz 0 l g (.p (.slice none 0 0))))
  pr_ : M.get pr = some (.box 63 [.mp m])
  mo : M.get m = some (MO s)
  bn : H.nx + 8 ≤ b
  fb : M.get b = some (.box 24 f.cs)
theorem three_parts {H : AH} {r : Nat} {a b c : List Ty} (h : H.get r = some (.row 22 1 [[.dsl 3 (a.map Ty.cs)], [.dsl 3 (b.map Ty.cs)], [.dsl 3 (c.map Ty.cs)]])) : PartsAt H (.osl r 1 0 3) [a, b, c] := by
  refine ⟨[.dsl 3 (a.map Ty.cs), .dsl 3 (b.map Ty.cs), .dsl 3 (c.map Ty.cs)], by simp [h], rfl, fun i r hr => ?_⟩
  match i with
  | 0 => simp at hr; subst hr; exact ⟨_, rfl, by simp⟩
  | 1 => simp at hr; subst hr; exact ⟨_, rfl, by simp⟩
  | 2 => simp at hr; subst hr; exact ⟨_, rfl, by simp⟩
  | i + 3 => simp at hr
def pB (l : List Ty) (g : Ty) : Pf := ⟨0, l, g, 0, 0, []⟩
theorem sub_pz {H : AH} (l : List Ty) (g : Ty) : Sub Try.prog H (.agg (pz 0 l g (.p (.slice none 0 0)))) (pB l g).av := by
  unfold Pf.av pz
  rw [Pf.cs_eq]
  exact .agg (.cons (.refl _) (.cons (.refl _) (.cons (.refl _) (.cons (.refl _) (.cons (.refl _) (.cons (.refl _) (.cons (.refl _) (.cons (Sub.nil 8 0 (Nat.zero_le _)) .nil))))))))
set_option maxHeartbeats 4000000 in
theorem body_o {N : Nat} (hP : PrC N) {H M : AH} {pr m b i to : Nat} {s : Ded} {l : List Ty} {g x y : Ty} {Q : AV → AH → Prop} {k : List AV → AH → Prop} (h : LM H M pr m s l g b (Ty.o x y)) (hwm : WF M) (hg : Good g) (hci : CandIn l (candO l i (Ty.o x y) to)) (hi : i + 2 ≤ to) (hto : to ≤ l.length) (hll : l.length ≤ 16) (hN : Ty.sls l + g.sl ≤ N) (hK : l.length + (Ty.sls l + g.sl) ≤ 16)
    (hs : Snd s) (hc : s.length + (cost (Ty.sls l + g.sl - 1) + 1) ≤ 9000000000000000000)
    (hq : ∀ r, both (proofF N) (pB l g) (candO l i (Ty.o x y) to).d (candO l i (Ty.o x y) to).x (candO l i (Ty.o x y) to).rest s = r → r.2.1 = true → Q (.tup [Pf.av ⟨4, r.1.left, r.1.goal, (candO l i (Ty.o x y) to).at_, (candO l i (Ty.o x y) to).num, r.1.kids⟩, bv true]) (H.put m (MO r.2.2)))
    (hk : ∀ r M2, both (proofF N) (pB l g) (candO l i (Ty.o x y) to).d (candO l i (Ty.o x y) to).x (candO l i (Ty.o x y) to).rest s = r → r.2.1 = false → LM H M2 pr m r.2.2 l g b (Ty.o x y) → M.nx ≤ M2.nx → k [iv ((to + 1 : Nat) : Int)] M2) :
    S_prover_search_C3 (.ptr pr 0) (.dsl 3 (l.map Ty.cs)) Q H (.ptr (H.nx + 1) 0) (.ptr (H.nx + 3 + 3) 0) [iv i] (.ptr b 0) k [iv to] M := by
  have hml : maxLen = 9223372036854775807 := by decide
  obtain ⟨hw, hpm, hpn, hmn, hMl, hMn, hzb, hpb, hprb, hmo, hbn, hfb⟩ := h
  have hwM : ∀ s, WF (H.put m (MO s)) := fun s => hw.put hmn (MO_cl s _)
  have hbm := (hwm _ _ hfb).1
  have hiv := ivn (i := i) (by omega)
  have htv := ivn (i := to) (by omega)
  have h1 : (0 : Int) ≤ (i : Int) + 1 := by omega
  have h2 : (i : Int) + 1 ≤ to := by omega
  have h3 : ((i : Int) + 1).toNat = i + 1 := by omega
  have h4 : i ≤ l.length := by omega
  unfold S_prover_search_C3
  simp (disch := first | omega | simp) [iv, hiv, h1, h2, h3, h4, hto, hfb, Ty.cs_o]
  simp only [← List.map_take, ← List.map_drop]
  have hfl : [l.take i, [x], l.drop to].flatten = (candO l i (Ty.o x y) to).rest := by simp [candO, Ty.o]
  have hdl : (l.drop (i + 1)).take (to - (i + 1)) = (candO l i (Ty.o x y) to).d := rfl
  have hcx : (candO l i (Ty.o x y) to).x = y := rfl
  have hnum : (candO l i (Ty.o x y) to).num = ((to - (i + 1) : Nat) : Int) := rfl
  have hat : (candO l i (Ty.o x y) to).at_ = ((i + 1 : Nat) : Int) := rfl
  have hdlen : (candO l i (Ty.o x y) to).d.length = to - (i + 1) := by rw [← hdl, List.length_take, List.length_drop]; omega
  have hrl := hci.len
  refine can_pure (by kernel_rfl) (fun H2 hle => c_Concat [l.take i, [x], l.drop to] (three_parts (hle _ _ (by simp (disch := first | omega | simp)))) (by rw [hfl]; omega) (by simp)) ?_
  rw [hfl, hdl]
  obtain ⟨c1, c2, c3, c4, c5, _, _⟩ := hci
  generalize (candO l i (Ty.o x y) to) = c at *
  subst hcx
  unfold tE
  simp (disch := first | omega | simp) [iv, hfb, Ty.cs_len, Ty.cs_take, put_get_ne, Ty.cs_o, hpb, pz]
  have hca := cost_add (Ty.sls c.d + c.x.sl) (Ty.sls c.rest + g.sl)
  rw [show Ty.sls c.d + c.x.sl + (Ty.sls c.rest + g.sl) = Ty.sls l + g.sl - 1 by omega] at hca
  have hb := c_both hP (pB l g) c.d c.x c.rest s pr m
  have hbs := both_spec (N := N) (pB l g) c.d c.x c.rest s c1 c2 c3 hg (by omega) (by show Ty.sls c.rest + g.sl < N; omega) (by omega) (by show c.rest.length + (Ty.sls c.rest + g.sl) ≤ 16; omega) hs
  generalize hR : both (proofF N) (pB l g) c.d c.x c.rest s = R at *
  obtain ⟨R1, Rok, Rs⟩ := R
  dsimp only at hbs hb
  refine cap_one (i := m) (o := MO Rs) (r := .tup [R1.av, bv Rok]) (by kernel_rfl) (by omega) (fun H2 hag => ?_) ?_
  · have hp2 : H2.get pr = some (.box 63 [.mp m]) := by rw [hag _ (by omega)]; simp (disch := first | omega | simp) [put_get_ne, hprb]
    have hm2 : H2.get m = some (MO s) := by rw [hag _ (by omega)]; simp (disch := first | omega | simp) [put_get_ne, hmo]
    exact Tri.args (.cons (.refl _) (.cons (sub_pz l g) (.cons (.refl _) (.cons (.refl _) (.cons (.refl _) .nil))))) (hb H2 c1 c2 c3 hg (by omega) (by show Ty.sls c.rest + g.sl < N; omega) (by omega) (by show c.rest.length + (Ty.sls c.rest + g.sl) ≤ 16; omega) hs (by show s.length + cost (Ty.sls c.d + c.x.sl) + cost (Ty.sls c.rest + g.sl) ≤ _; omega) ⟨hp2, hm2⟩)
  have hMs : (H.put m (MO Rs)).le ((((M.up 18).put (M.nx + 14) (.row 22 1 [[.dsl 3 (List.take i (l.map Ty.cs))], [.dsl 3 [x.cs]], [.dsl 3 (List.drop to (l.map Ty.cs))]])).up 15).put m (MO Rs)) := le_rebase (a := MO s) (by repeat (first | with_reducible assumption | with_reducible apply AH.le.up | (with_reducible refine AH.le.put (hwM _) ?_ ?_; · first | omega | (simp only [put_nx]; done) | (simp only [put_nx]; omega)) | (with_reducible refine AH.le.kill (hwM _) ?_ ?_; · first | omega | (simp only [up_nx, put_nx, kill_nx]; done) | (simp only [up_nx, put_nx, kill_nx]; omega)) | with_reducible refine le_base ?_ | (with_reducible refine AH.le.put hw ?_ ?_; · first | omega | (simp only [up_nx, put_nx, kill_nx]; done) | (simp only [up_nx, put_nx, kill_nx]; omega)) | with_reducible exact AH.le.refl _))
  have hiv' : IntKind.i64.wrap ((i : Int) + 1) = c.at_ := by rw [hiv, hat]
  have hfr : ∀ j, M.nx ≤ j → M.get j = none := fun j hj => wf_none hwm hj
  cases Rok with
  | true =>
    have hq := hq _ rfl rfl
    dsimp only at hq
    unfold Pf.av at hq ⊢
    rw [Pf.cs_eq] at hq ⊢
    simp (disch := first | omega | simp) [bv, put_get_ne, hfr, hzb, zero8, hiv']
    refine rt_tupP (hwM Rs) ?_ (.cons (.agg (by repeat (first | exact Cl.p _ | exact Cl.dsl _ _ | exact Cl.any | refine Cl.tup ?_ | refine Cl.agg ?_ | exact Clo.nil | refine Clo.cons ?_ ?_))) (.cons (Cl.p _) .nil)) ?_
    · exact (by repeat (first | with_reducible assumption | with_reducible apply AH.le.up | (with_reducible refine AH.le.put (hwM _) ?_ ?_; · first | omega | (simp only [put_nx]; done) | (simp only [put_nx]; omega)) | (with_reducible refine AH.le.kill (hwM _) ?_ ?_; · first | omega | (simp only [up_nx, put_nx, kill_nx]; done) | (simp only [up_nx, put_nx, kill_nx]; omega)) | with_reducible refine le_base ?_ | (with_reducible refine AH.le.put hw ?_ ?_; · first | omega | (simp only [up_nx, put_nx, kill_nx]; done) | (simp only [up_nx, put_nx, kill_nx]; omega)) | with_reducible exact AH.le.refl _))
    · rw [hdlen]; rw [hnum] at hq; exact hq
  | false =>
    simp (disch := first | omega | simp) [Pf.av, bv, Pf.cs_len, put_get_ne, hfr, htv]
    refine hk _ _ rfl rfl ⟨hw, hpm, hpn, hmn, (by repeat (first | with_reducible assumption | with_reducible apply AH.le.up | (with_reducible refine AH.le.put (hwM _) ?_ ?_; · first | omega | (simp only [put_nx]; done) | (simp only [put_nx]; omega)) | (with_reducible refine AH.le.kill (hwM _) ?_ ?_; · first | omega | (simp only [up_nx, put_nx, kill_nx]; done) | (simp only [up_nx, put_nx, kill_nx]; omega)) | with_reducible refine le_base ?_ | (with_reducible refine AH.le.put hw ?_ ?_; · first | omega | (simp only [up_nx, put_nx, kill_nx]; done) | (simp only [up_nx, put_nx, kill_nx]; omega)) | with_reducible exact AH.le.refl _)), by simp only [put_nx, up_nx]; omega, ?_, ?_, ?_, ?_, hbn, ?_⟩ (by simp only [put_nx, up_nx]; omega)
    all_goals simp (disch := first | omega | simp) [put_get_ne, hzb, hpb, hprb, hfb]
set_option maxHeartbeats 4000000 in
theorem body_u {N : Nat} (hP : PrC N) {H M : AH} {pr m b i to : Nat} {s : Ded} {l : List Ty} {g x y : Ty} {Q : AV → AH → Prop} {k : List AV → AH → Prop} (h : LM H M pr m s l g b (Ty.u x y)) (hwm : WF M) (hg : Good g) (hci : CandIn l (candU l i (Ty.u x y) to)) (hi : to < i) (hto : i < l.length) (hll : l.length ≤ 16) (hN : Ty.sls l + g.sl ≤ N) (hK : l.length + (Ty.sls l + g.sl) ≤ 16)
    (hs : Snd s) (hc : s.length + (cost (Ty.sls l + g.sl - 1) + 1) ≤ 9000000000000000000)
    (hq : ∀ r, both (proofF N) (pB l g) (candU l i (Ty.u x y) to).d (candU l i (Ty.u x y) to).x (candU l i (Ty.u x y) to).rest s = r → r.2.1 = true → Q (.tup [Pf.av ⟨5, r.1.left, r.1.goal, (candU l i (Ty.u x y) to).at_, (candU l i (Ty.u x y) to).num, r.1.kids⟩, bv true]) (H.put m (MO r.2.2)))
    (hk : ∀ r M2, both (proofF N) (pB l g) (candU l i (Ty.u x y) to).d (candU l i (Ty.u x y) to).x (candU l i (Ty.u x y) to).rest s = r → r.2.1 = false → LM H M2 pr m r.2.2 l g b (Ty.u x y) → M.nx ≤ M2.nx → k [iv ((to + 1 : Nat) : Int)] M2) :
    S_prover_search_C5 (.ptr pr 0) (.dsl 3 (l.map Ty.cs)) Q H (.ptr (H.nx + 1) 0) (.ptr (H.nx + 3 + 3) 0) [iv i] (.ptr b 0) k [iv to] M := by
  have hml : maxLen = 9223372036854775807 := by decide
  obtain ⟨hw, hpm, hpn, hmn, hMl, hMn, hzb, hpb, hprb, hmo, hbn, hfb⟩ := h
  have hwM : ∀ s, WF (H.put m (MO s)) := fun s => hw.put hmn (MO_cl s _)
  have hbm := (hwm _ _ hfb).1
  have hiv := ivn (i := i) (by omega)
  have htv := ivn (i := to) (by omega)
  have h1 : (0 : Int) ≤ (i : Int) + 1 := by omega
  have h2 : (to : Int) ≤ i := by omega
  have h5 : (i : Int) ≤ l.length := by omega
  have h6 : (i : Int) + 1 ≤ l.length := by omega
  have h3 : ((i : Int) + 1).toNat = i + 1 := by omega
  have h4 : to ≤ l.length := by omega
  unfold S_prover_search_C5
  simp (disch := first | omega | simp) [iv, hiv, h1, h2, h3, h4, h5, h6, hfb, Ty.cs_u]
  simp only [← List.map_take, ← List.map_drop]
  have hfl : [l.take to, [y], l.drop (i + 1)].flatten = (candU l i (Ty.u x y) to).rest := by simp [candU, Ty.u]
  have hdl : (l.drop to).take (i - to) = (candU l i (Ty.u x y) to).d := rfl
  have hcx : (candU l i (Ty.u x y) to).x = x := rfl
  have hnum : (candU l i (Ty.u x y) to).num = ((i - to : Nat) : Int) := rfl
  have hat : (candU l i (Ty.u x y) to).at_ = (to : Int) := rfl
  have hdlen : (candU l i (Ty.u x y) to).d.length = i - to := by rw [← hdl, List.length_take, List.length_drop]; omega
  have hrl := hci.len
  refine can_pure (by kernel_rfl) (fun H2 hle => c_Concat [l.take to, [y], l.drop (i + 1)] (three_parts (hle _ _ (by simp (disch := first | omega | simp)))) (by rw [hfl]; omega) (by simp)) ?_
  rw [hfl, hdl]
  obtain ⟨c1, c2, c3, c4, c5, _, _⟩ := hci
  generalize (candU l i (Ty.u x y) to) = c at *
  subst hcx
  unfold tE
  simp (disch := first | omega | simp) [iv, hfb, Ty.cs_len, Ty.cs_take, put_get_ne, Ty.cs_u, hpb, pz]
  have hca := cost_add (Ty.sls c.d + c.x.sl) (Ty.sls c.rest + g.sl)
  rw [show Ty.sls c.d + c.x.sl + (Ty.sls c.rest + g.sl) = Ty.sls l + g.sl - 1 by omega] at hca
  have hb := c_both hP (pB l g) c.d c.x c.rest s pr m
  have hbs := both_spec (N := N) (pB l g) c.d c.x c.rest s c1 c2 c3 hg (by omega) (by show Ty.sls c.rest + g.sl < N; omega) (by omega) (by show c.rest.length + (Ty.sls c.rest + g.sl) ≤ 16; omega) hs
  generalize hR : both (proofF N) (pB l g) c.d c.x c.rest s = R at *
  obtain ⟨R1, Rok, Rs⟩ := R
  dsimp only at hbs hb
  refine cap_one (i := m) (o := MO Rs) (r := .tup [R1.av, bv Rok]) (by kernel_rfl) (by omega) (fun H2 hag => ?_) ?_
  · have hp2 : H2.get pr = some (.box 63 [.mp m]) := by rw [hag _ (by omega)]; simp (disch := first | omega | simp) [put_get_ne, hprb]
    have hm2 : H2.get m = some (MO s) := by rw [hag _ (by omega)]; simp (disch := first | omega | simp) [put_get_ne, hmo]
    exact Tri.args (.cons (.refl _) (.cons (sub_pz l g) (.cons (.refl _) (.cons (.refl _) (.cons (.refl _) .nil))))) (hb H2 c1 c2 c3 hg (by omega) (by show Ty.sls c.rest + g.sl < N; omega) (by omega) (by show c.rest.length + (Ty.sls c.rest + g.sl) ≤ 16; omega) hs (by show s.length + cost (Ty.sls c.d + c.x.sl) + cost (Ty.sls c.rest + g.sl) ≤ _; omega) ⟨hp2, hm2⟩)
  have hMs : (H.put m (MO Rs)).le ((((M.up 18).put (M.nx + 14) (.row 22 1 [[.dsl 3 (List.take to (l.map Ty.cs))], [.dsl 3 [y.cs]], [.dsl 3 (List.drop (i + 1) (l.map Ty.cs))]])).up 15).put m (MO Rs)) := le_rebase (a := MO s) (by repeat (first | with_reducible assumption | with_reducible apply AH.le.up | (with_reducible refine AH.le.put (hwM _) ?_ ?_; · first | omega | (simp only [put_nx]; done) | (simp only [put_nx]; omega)) | (with_reducible refine AH.le.kill (hwM _) ?_ ?_; · first | omega | (simp only [up_nx, put_nx, kill_nx]; done) | (simp only [up_nx, put_nx, kill_nx]; omega)) | with_reducible refine le_base ?_ | (with_reducible refine AH.le.put hw ?_ ?_; · first | omega | (simp only [up_nx, put_nx, kill_nx]; done) | (simp only [up_nx, put_nx, kill_nx]; omega)) | with_reducible exact AH.le.refl _))
  have hfr : ∀ j, M.nx ≤ j → M.get j = none := fun j hj => wf_none hwm hj
  cases Rok with
  | true =>
    have hq := hq _ rfl rfl
    dsimp only at hq
    unfold Pf.av at hq ⊢
    rw [Pf.cs_eq] at hq ⊢
    simp (disch := first | omega | simp) [bv, put_get_ne, hfr, hzb, zero8]
    refine rt_tupP (hwM Rs) ?_ (.cons (.agg (by repeat (first | exact Cl.p _ | exact Cl.dsl _ _ | exact Cl.any | refine Cl.tup ?_ | refine Cl.agg ?_ | exact Clo.nil | refine Clo.cons ?_ ?_))) (.cons (Cl.p _) .nil)) ?_
    · exact (by repeat (first | with_reducible assumption | with_reducible apply AH.le.up | (with_reducible refine AH.le.put (hwM _) ?_ ?_; · first | omega | (simp only [put_nx]; done) | (simp only [put_nx]; omega)) | (with_reducible refine AH.le.kill (hwM _) ?_ ?_; · first | omega | (simp only [up_nx, put_nx, kill_nx]; done) | (simp only [up_nx, put_nx, kill_nx]; omega)) | with_reducible refine le_base ?_ | (with_reducible refine AH.le.put hw ?_ ?_; · first | omega | (simp only [up_nx, put_nx, kill_nx]; done) | (simp only [up_nx, put_nx, kill_nx]; omega)) | with_reducible exact AH.le.refl _))
    · rw [hdlen]; rw [hnum, hat] at hq; exact hq
  | false =>
    simp (disch := first | omega | simp) [Pf.av, bv, Pf.cs_len, put_get_ne, hfr, htv]
    refine hk _ _ rfl rfl ⟨hw, hpm, hpn, hmn, (by repeat (first | with_reducible assumption | with_reducible apply AH.le.up | (with_reducible refine AH.le.put (hwM _) ?_ ?_; · first | omega | (simp only [put_nx]; done) | (simp only [put_nx]; omega)) | (with_reducible refine AH.le.kill (hwM _) ?_ ?_; · first | omega | (simp only [up_nx, put_nx, kill_nx]; done) | (simp only [up_nx, put_nx, kill_nx]; omega)) | with_reducible refine le_base ?_ | (with_reducible refine AH.le.put hw ?_ ?_; · first | omega | (simp only [up_nx, put_nx, kill_nx]; done) | (simp only [up_nx, put_nx, kill_nx]; omega)) | with_reducible exact AH.le.refl _)), by simp only [put_nx, up_nx]; omega, ?_, ?_, ?_, ?_, hbn, ?_⟩ (by simp only [put_nx, up_nx]; omega)
    all_goals simp (disch := first | omega | simp) [put_get_ne, hzb, hpb, hprb, hfb]
end Go.Proofs.Ytpmnlikgldacaaa
