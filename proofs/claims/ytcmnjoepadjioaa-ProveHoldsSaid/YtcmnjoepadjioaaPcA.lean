/- Argue: an argument just for what follows. -/
import Derived.Test.YtcmnjoepadjioaaPc9
namespace Go.Proofs.Ytcmnjoepadjioaa
open Go.RowKit Go.Maps
/-- what Argue answers -/
def argR (p : List Clm) (c : Clm) (r : AV) : Prop :=
  (okP p [c] ≠ 0 ∧ r = .tup [.p (.slice none 0 0), bv false, iv (okP p [c])]) ∨
  (okP p [c] = 0 ∧ agB p c = false ∧ ∃ out : List Lin, r = .tup [.dsl 5 (out.map Lin.cs), bv true, iv 0] ∧ allRight p out ∧ (∀ y ∈ out, y.c.ok) ∧ out.length ≤ 288 ∧ ∃ init y, out = init ++ [y] ∧ y.c = c) ∨
  (okP p [c] = 0 ∧ agB p c = true ∧ r = .tup [.p (.slice none 0 0), bv false, iv 0])
theorem okP_zero {p l : List Clm} (h : okP p l = 0) : p.length ≤ 20 ∧ ∀ c ∈ p ++ l, c.ok := by
  unfold okP at h
  split at h
  · cases h
  · unfold okL at h
    split at h
    · rename_i h1 h2
      exact ⟨by omega, fun c hc => by simpa using (List.all_eq_true.1 h2) c hc⟩
    · cases h
/-- a row laid for a call is handed over -/
theorem ca_row {P : Program} {H : AH} {f : FuncId} {r n : Nat} {t : TypeId} {sz : Nat} {es : List (List AV)} {ps qs : List AV} {Q : AV → AH → Prop} {k : AV → AH → Prop} (hc : callable P f = true) (hr : H.get r = some (.row t sz es)) (hd : DtR es) (hn : n = es.length)
    (h : Tri P f (ps ++ .dsl sz es :: qs) (H.put r (.frz sz es)) Q) (hk : ∀ v H', Q v H' → k v H') : Ca P (.fn (.func f) [] []) (ps ++ .osl r sz 0 n :: qs) k H := by
  subst hn
  refine ca_of hc (Tri.st (.freeze hr hd) (Tri.args (qs := ps ++ .dsl sz es :: qs) ⟨by simp, fun i a b ha hb => ?_⟩ h)) hk
  have hs := Sub.frz (P := P) (H := H.put r (.frz sz es)) (r := r) (off := 0) (n := es.length) (put_get _ _) (by simp)
  rw [List.drop_zero, List.take_length] at hs
  simp only [List.nil_append, List.append_nil] at ha
  rw [List.getElem?_append] at ha hb
  split at ha
  · rename_i hi
    rw [if_pos hi] at hb
    rw [ha] at hb; injection hb with hb; subst hb; exact Sub.refl _
  · rename_i hi
    rw [if_neg hi] at hb
    cases he : i - ps.length with
    | zero => rw [he] at ha hb; simp at ha hb; subst ha; subst hb; exact hs
    | succ q => rw [he] at ha hb; simp at ha hb; rw [ha] at hb; injection hb with hb; subst hb; exact Sub.refl _
/-- put is called with no numbers -/
theorem ca_put0 {H : AH} {a m : Nat} {v : AV} {l : List Lin} (h : ArgH H a m v l) (rule : Int) (c : Clm) (hc : c.ok) (hb : l.length < 1000000) {k : AV → AH → Prop}
    (hk : ∀ v' H', ArgH H' a m v' (putL l ⟨rule, c, []⟩) → Fr a m H v H' v' → k (.tup []) H') : Ca Try.prog (.fn (.func 26) [] []) [.ptr a 0, .p (.int .i64 rule), .agg [.p (.bool c.so), .p (.int .i64 c.a), .p (.int .i64 c.b)], .p (.slice none 0 0)] k H := by
  refine ca_of (by kernel_rfl) (Tri.args (.cons (Sub.refl _) (.cons (Sub.refl _) (.cons (Sub.refl _) (.cons (Sub.nil 1 0 (Nat.zero_le _)) .nil)))) (c_put h rule [] c hc hb)) ?_
  rintro _ H' ⟨rfl, v', h3, h4⟩
  exact hk v' H' h3 h4
theorem ArgH.frz {H : AH} {a m : Nat} {v : AV} {l : List Lin} (h : ArgH H a m v l) {r : Nat} {o : AO} (hr : H.nx ≤ r) : ArgH (H.put r o) a m v l := by
  have h1 := h.la; have h2 := h.lm
  exact h.keep (Nat.le_refl _) fun j hj => put_get_ne _ _ _ (by omega)
/-- while Argue runs -/
def Arv (H : AH) (p : List Clm) (c : Clm) (H1 : AH) (l : List Lin) (v : AV) : Prop :=
  ArgH H1 (H.nx + 11) (H.nx + 9) v l ∧ LI p l ∧ H.le H1 ∧ H.nx + 13 ≤ H1.nx ∧ H1.get H.nx = some (.box 24 c.cs) ∧ ∀ j, j < H.nx + 12 → ∀ n, v ≠ .osl j 5 0 n
theorem Arv.next {H H1 H2 : AH} {p : List Clm} {c : Clm} {l l' : List Lin} {v v' : AV} (hw : WF H) (h : Arv H p c H1 l v) (ha : ArgH H2 (H.nx + 11) (H.nx + 9) v' l') (hl : LI p l') (hn : H1.nx ≤ H2.nx)
    (hf : ∀ j, j < H.nx + 9 → (∀ n, v ≠ .osl j 5 0 n) → H2.get j = H1.get j) (hv : ∀ j, j < H.nx + 12 → ∀ n, v' ≠ .osl j 5 0 n) : Arv H p c H2 l' v' := by
  obtain ⟨h1, h2, h3, h4, h5, h6⟩ := h
  refine ⟨ha, hl, fun j o ho => ?_, by omega, ?_, hv⟩
  · have := (hw j o ho).1
    rw [hf j (by omega) (h6 j (by omega))]; exact h3 j o ho
  · rw [hf H.nx (by omega) (h6 _ (by omega))]; exact h5
theorem Arv.of_fr {H H1 H2 : AH} {p : List Clm} {c : Clm} {l l' : List Lin} {v v' : AV} (hw : WF H) (h : Arv H p c H1 l v) (ha : ArgH H2 (H.nx + 11) (H.nx + 9) v' l') (hl : LI p l') (hf : Fr (H.nx + 11) (H.nx + 9) H1 v H2 v') : Arv H p c H2 l' v' := by
  have h6 := h.2.2.2.2.2
  have h4 := h.2.2.2.1
  refine h.next hw ha hl hf.1 (fun j hj hv => (hf.2 j (by omega) (by omega) (by omega) hv).1) fun j hj n e => ?_
  by_cases h11 : j = H.nx + 11
  · subst h11; exact ha.row.not (fun xs hx => by rw [ha.box] at hx; cases hx) n e
  · by_cases h9 : j = H.nx + 9
    · subst h9; obtain ⟨f, hm, _⟩ := ha.map; exact ha.row.not (fun xs hx => by rw [hm] at hx; cases hx) n e
    · exact (hf.2 j (by omega) h11 h9 (h6 j hj)).2 n e
set_option maxHeartbeats 2000000 in
theorem c_Argue (p : List Clm) (c : Clm) (H : AH) : Tri Try.prog 16 [cE p, c.av] H (fun r H' => H' = H ∧ argR p c r) := tri_wf fun hw => tri_prove_Argue (by
  unfold S_prove_Argue
  have hmx : maxLen = 9223372036854775807 := by decide
  simp (disch := first | omega | simp) [cE, Clm.av, Clm.cs, put_get_ne]
  refine ca_row (ps := [.dsl 3 (p.map Clm.cs)]) (qs := []) (es := [c].map Clm.cs) (by kernel_rfl) (put_get _ _) (dt_cs [c]) rfl (c_checkAll p [c] (by simp) _) ?_
  rintro _ H1 ⟨rfl, rfl⟩
  generalize hokv : okP p [c] = e
  simp (disch := first | omega | simp) [iv]
  refine ⟨fun he => ?_, fun he => ?_⟩
  · exact rt_tup hw (by repeat (first | exact AH.le.refl _ | assumption | apply AH.le.up | apply AH.le.put hw (by first | omega | (simp only [up_nx, put_nx, kill_nx]; done) | (simp only [up_nx, put_nx, kill_nx]; omega)) | apply AH.le.kill hw (by first | omega | (simp only [up_nx, put_nx, kill_nx]; done) | (simp only [up_nx, put_nx, kill_nx]; omega)))) (by repeat (first | exact Cl.p _ | exact Cl.dsl _ _ | exact Cl.any | refine Cl.tup ?_ | refine Cl.agg ?_ | exact Clo.nil | refine Clo.cons ?_ ?_)) ⟨rfl, .inl ⟨by rw [hokv]; exact he, by rw [hokv]; rfl⟩⟩
  subst he
  obtain ⟨hpl, hpo⟩ := okP_zero hokv
  refine loop_st (fun i : Nat × List Lin => [iv i.1]) (fun s H' => s.1 ≤ p.length ∧ (∃ v, Arv H p c H' s.2 v) ∧ ∀ c ∈ p.take s.1, c ∈ cl s.2) (fun s => p.length - s.1) (0, []) (.refl (Nat.le_refl _)) ⟨Nat.zero_le _, ⟨.p (.slice none 0 0), ?_⟩, by simp⟩ ?_
  · exact ⟨⟨(by first | omega | (simp only [up_nx, put_nx, kill_nx]; done) | (simp only [up_nx, put_nx, kill_nx]; omega)), (by first | omega | (simp only [up_nx, put_nx, kill_nx]; done) | (simp only [up_nx, put_nx, kill_nx]; omega)), put_get _ _, .nil _ _ _ _, fun _ => none, by rw [put_get_ne _ _ _ (by omega), put_get]; rfl, fun c => rfl⟩, .nil p, (by repeat (first | exact AH.le.refl _ | assumption | apply AH.le.up | apply AH.le.put hw (by first | omega | (simp only [up_nx, put_nx, kill_nx]; done) | (simp only [up_nx, put_nx, kill_nx]; omega)) | apply AH.le.kill hw (by first | omega | (simp only [up_nx, put_nx, kill_nx]; done) | (simp only [up_nx, put_nx, kill_nx]; omega)))), (by first | omega | (simp only [up_nx, put_nx, kill_nx]; done) | (simp only [up_nx, put_nx, kill_nx]; omega)), by simp (disch := first | omega | simp) [put_get_ne]; rfl, fun j _ n e => by cases e⟩
  rintro ⟨i, l⟩ H1 hn1 ⟨hi, ⟨v, hA⟩, hin⟩ k hk
  dsimp only at hi hin hk
  by_cases hil : i < p.length
  · obtain ⟨q, hq⟩ : ∃ q, p[i]? = some q := ⟨_, List.getElem?_eq_getElem hil⟩
    have hqm : (p.map Clm.cs)[i]? = some q.cs := by rw [List.getElem?_map, hq]; rfl
    have hqg : ∀ h, (p.map Clm.cs)[i]'h = q.cs := fun h => (List.getElem?_eq_some_iff.1 hqm).2
    have hiv := ivn (i := i) (by omega)
    have hlen := hA.2.1.len
    have hpg : ∀ h, p[i]'h = q := fun h => (List.getElem?_eq_some_iff.1 hq).2
    have hn1' := hA.2.2.2.1
    have hri : rightB p (l.map (·.c)) l.length ⟨1, q, [(i : Int)]⟩ = true := by
      unfold rightB
      rw [if_pos rfl, pick_one hq hil]
      simp [ruleB]
    simp (disch := first | omega | simp) [iv, hil, hpg, Clm.cs, put_get_ne]
    refine ca_put (hA.1.keep (by first | omega | (simp only [up_nx, put_nx, kill_nx]; done) | (simp only [up_nx, put_nx, kill_nx]; omega)) fun j hj => by simp (disch := first | omega | simp) [put_get_ne]) 1 [(i : Int)] q (hpo q (List.mem_append_left _ (List.mem_of_getElem? hq))) (by omega) (put_get _ _) rfl fun v1 H2 h1 n1 k1 => ?_
    simp only [up_nx, put_nx] at n1 k1
    rw [q_add_i, hiv]
    refine hk (i + 1, putL l ⟨1, q, [(i : Int)]⟩) _ _ _ (.refl (by first | omega | (simp only [up_nx, put_nx, kill_nx]; done) | (simp only [up_nx, put_nx, kill_nx]; omega))) ⟨hil, ⟨v1, hA.next hw h1 (hA.2.1.put (hpo q (List.mem_append_left _ (List.mem_of_getElem? hq))) (by simp) hri) (by omega) (fun j hj hv => ?_) fun j hj n e => ?_⟩, fun c hc => ?_⟩ (by dsimp only; omega)
    · have := (k1 j (by omega) (by omega) (by omega) (by omega) hv).1
      rw [this]; simp (disch := first | omega | simp) [put_get_ne]
    · by_cases h11 : j = H.nx + 11
      · subst h11; exact h1.row.not (fun xs hx => by rw [h1.box] at hx; cases hx) n e
      · by_cases h9 : j = H.nx + 9
        · subst h9; obtain ⟨f, hm, _⟩ := h1.map; exact h1.row.not (fun xs hx => by rw [hm] at hx; cases hx) n e
        · exact (k1 j (by omega) (by omega) h11 h9 (hA.2.2.2.2.2 j hj)).2 n e
    · dsimp only at hc ⊢
      rw [List.take_add_one, hq] at hc
      rcases List.mem_append.1 hc with hc | hc
      · exact (putL_pre _ _).mem (hin c hc)
      · simp at hc; subst hc; exact putL_mem l ⟨1, c, [(i : Int)]⟩
  have hpin : ∀ c ∈ p, c ∈ cl l := fun c hc => hin c (by rw [List.take_of_length_le (by omega)]; exact hc)
  simp (disch := first | omega | simp) [iv, hil]
  refine loop_st (fun s : Nat × List Lin => [iv ((s.1 : Int) + 1)]) (fun s H' => s.1 ≤ 6 ∧ (∃ v, Arv H p c H' s.2 v) ∧ (∀ c ∈ p, c ∈ cl s.2) ∧ ∀ n, n < s.1 → (⟨false, (n : Int) + 1, (n : Int) + 1⟩ : Clm) ∈ cl s.2 ∧ (⟨false, -((n : Int) + 1), -((n : Int) + 1)⟩ : Clm) ∈ cl s.2) (fun s => 6 - s.1) (0, l) (.refl (Nat.le_refl _)) ⟨Nat.zero_le _, ⟨v, hA⟩, hpin, fun n hn => absurd hn (Nat.not_lt_zero _)⟩ ?_
  clear hin hpin hi hil hA hk hn1
  rintro ⟨i, l⟩ H2 hn2 ⟨hi, ⟨v, hA⟩, hpin, hself⟩ k2 hk2
  dsimp only at hi hA hpin hself hk2
  have hlen := hA.2.1.len
  by_cases hil : i < 6
  · simp (disch := first | omega | simp) [iv, le6 hil, wneg6 hil, wn2 hil]
    have hk1 : litOk ((i : Int) + 1) := by unfold litOk; omega
    refine ca_put0 hA.1 2 ⟨false, (i : Int) + 1, (i : Int) + 1⟩ ⟨hk1, hk1⟩ (by omega) fun v1 H3 h1 f1 => ?_
    have l1 := hA.2.1.put (x := ⟨2, ⟨false, (i : Int) + 1, (i : Int) + 1⟩, []⟩) ⟨hk1, hk1⟩ (by simp) (by simp [rightB, pickC, ruleB])
    have a1 := hA.of_fr hw h1 l1 f1
    have hlen1 := l1.len
    simp (disch := first | omega | simp) [iv, le6 hil, wneg6 hil, wn2 hil]
    refine ca_put0 a1.1 2 ⟨false, -((i : Int) + 1), -((i : Int) + 1)⟩ ⟨lit_neg hk1, lit_neg hk1⟩ (by omega) fun v2 H4 h2 f2 => ?_
    have l2 := l1.put (x := ⟨2, ⟨false, -((i : Int) + 1), -((i : Int) + 1)⟩, []⟩) ⟨lit_neg hk1, lit_neg hk1⟩ (by simp) (by simp [rightB, pickC, ruleB])
    have a2 := a1.of_fr hw h2 l2 f2
    simp (disch := first | omega | simp) [iv, le6 hil, wneg6 hil, wn2 hil]
    have p1 := putL_pre l ⟨2, ⟨false, (i : Int) + 1, (i : Int) + 1⟩, []⟩
    have p2 := putL_pre (putL l ⟨2, ⟨false, (i : Int) + 1, (i : Int) + 1⟩, []⟩) ⟨2, ⟨false, -((i : Int) + 1), -((i : Int) + 1)⟩, []⟩
    refine hk2 (i + 1, _) _ _ _ (.refl (by have := f1.1; have := f2.1; omega)) ⟨hil, ⟨v2, a2⟩, fun c hc => (p1.trans p2).mem (hpin c hc), fun n hn => ?_⟩ (by dsimp only; omega)
    dsimp only at hn
    by_cases e : n = i
    · subst e; exact ⟨p2.mem (putL_mem l ⟨2, ⟨false, (n : Int) + 1, (n : Int) + 1⟩, []⟩), putL_mem _ ⟨2, ⟨false, -((n : Int) + 1), -((n : Int) + 1)⟩, []⟩⟩
    · obtain ⟨q1, q2⟩ := hself n (by omega)
      exact ⟨(p1.trans p2).mem q1, (p1.trans p2).mem q2⟩
  have hs : ∀ x, litOk x → (⟨false, x, x⟩ : Clm) ∈ cl l := fun x hx => by
    unfold litOk at hx
    by_cases h0 : 0 < x
    · have := (hself (x - 1).toNat (by omega)).1
      rwa [show (((x - 1).toNat : Nat) : Int) + 1 = x by omega] at this
    · have := (hself (-x - 1).toNat (by omega)).2
      rwa [show -((((-x - 1).toNat : Nat) : Int) + 1) = x by omega] at this
  simp (disch := first | omega | simp) [iv, nle6 hil]
  refine loop_st (fun s : Nat × List Lin => [iv (s.1 : Int)]) (fun s H' => s.1 ≤ s.2.length ∧ (∃ v, Arv H p c H' s.2 v) ∧ pre l s.2 ∧ DoneL s.2 s.1) (fun s => 289 - s.1) (0, l) (.refl (Nat.le_refl _)) ⟨Nat.zero_le _, ⟨v, hA⟩, .refl l, fun i x hi => absurd hi (Nat.not_lt_zero _)⟩ ?_
  clear hA hk2 hn2 hself hlen
  rintro ⟨d, m⟩ H3 hn3 ⟨hd, ⟨v, hA⟩, hpre, hdone⟩ k3 hk3
  dsimp only at hd hA hpre hdone hk3
  have hlen := hA.2.1.len
  have hbx := hA.1.box
  have hlm : (m.map Lin.cs).length = m.length := List.length_map ..
  have hgl : ∀ (k : AV → AH → Prop) (H' : AH), Pu Try.prog .len [v] k H' = k (.p (.int .i64 (m.length : Int))) H' := fun k H' => by rw [hA.1.row.len, List.length_map]
  by_cases hdl : d < m.length
  · obtain ⟨x, hx⟩ : ∃ x, m[d]? = some x := ⟨_, List.getElem?_eq_getElem hdl⟩
    have hxo := hA.2.1.ok x (List.mem_of_getElem? hx)
    have hiv := ivn (i := d) (by omega)
    obtain ⟨o1, o2, o3⟩ := hA.2.1.one hx
    simp (disch := first | omega | simp) [iv, hbx, hgl, hdl]
    refine ca_of (by kernel_rfl) (c_one hA.1 hx hxo (by omega)) ?_
    rintro _ H4 ⟨rfl, v4, h4, f4⟩
    have a4 := hA.of_fr hw h4 o1 f4
    have mid0 : MidL (oneL m x.c d) d 0 := fun y hy => by
      rw [o2.at_ hx] at hy; injection hy with hy; subst hy
      exact ⟨o3, fun j y hj => absurd hj (Nat.not_lt_zero _)⟩
    have n4 := f4.1
    simp (disch := first | omega | simp) [iv, hiv]
    refine loop_st (fun s : Nat × List Lin => [iv (s.1 : Int)]) (fun s H' => s.1 ≤ d + 1 ∧ (∃ v, Arv H p c H' s.2 v) ∧ pre m s.2 ∧ DoneL s.2 d ∧ MidL s.2 d s.1) (fun s => d + 1 - s.1) (0, oneL m x.c d) (.refl (Nat.le_refl _)) ⟨Nat.zero_le _, ⟨v4, a4⟩, o2, hdone.pre o2 hd, mid0⟩ ?_
    clear mid0 a4
    rintro ⟨q, u⟩ H5 hn5 ⟨hq, ⟨v5, hA5⟩, hpre5, hdone5, hmid5⟩ k5 hk5
    dsimp only at hq hA5 hpre5 hdone5 hmid5 hk5
    have hlen5 := hA5.2.1.len
    have hul := hpre5.len
    by_cases hqd : q < d + 1
    · obtain ⟨y, hy⟩ : ∃ y, u[q]? = some y := ⟨_, List.getElem?_eq_getElem (by omega)⟩
      have hx5 := hpre5.at_ hx
      have hyo := hA5.2.1.ok y (List.mem_of_getElem? hy)
      have hqi := ivn (i := q) (by omega)
      have hqc : (q : Int) < (d : Int) + 1 := by omega
      obtain ⟨t1, t2, t3⟩ := hA5.2.1.two hx5 hy
      have t1l := t1.len
      obtain ⟨r1, r2, r3⟩ := t1.two (t2.at_ hy) (t2.at_ hx5)
      simp (disch := first | omega | simp) [iv, hqc, hqi]
      refine ca_of (by kernel_rfl) (c_two hA5.1 hx5 hy hxo hyo (by omega)) ?_
      rintro _ H6 ⟨rfl, v6, h6, f6⟩
      have a6 := hA5.of_fr hw h6 t1 f6
      refine ca_of (by kernel_rfl) (c_two a6.1 (t2.at_ hy) (t2.at_ hx5) hyo hxo (by omega)) ?_
      rintro _ H7 ⟨rfl, v7, h7, f7⟩
      have a7 := a6.of_fr hw h7 r1 f7
      rw [q_add_i, hqi]
      have hp7 := t2.trans r2
      refine hk5 (q + 1, twoL (twoL u x.c y.c (d : Int) (q : Int)) y.c x.c (q : Int) (d : Int)) _ _ _ (.refl (by have := f6.1; have := f7.1; omega)) ⟨hqd, ⟨v7, a7⟩, hpre5.trans hp7, hdone5.pre hp7 (by omega), fun z hz => ?_⟩ (by dsimp only; omega)
      dsimp only at hz ⊢
      rw [hp7.at_ hx5] at hz; injection hz with hz; subst hz
      refine ⟨(hmid5 _ hx5).1.pre hp7, fun j w hj hwj => ?_⟩
      have hwj5 := hp7.back (show j < u.length by omega) hwj
      by_cases e : j = q
      · subst e
        rw [hy] at hwj5; injection hwj5 with hwj5; subst hwj5
        exact ⟨t3.pre r2, r3⟩
      · obtain ⟨s1, s2⟩ := (hmid5 _ hx5).2 j w (by omega) hwj5
        exact ⟨s1.pre hp7, s2.pre hp7⟩
    · have hqe : q = d + 1 := by omega
      subst hqe
      simp (disch := first | omega | simp) [iv, hiv]
      exact hk3 (d + 1, u) _ _ _ (.refl (by omega)) ⟨by dsimp only; omega, ⟨v5, hA5⟩, hpre.trans hpre5, hdone5.next hmid5⟩ (by dsimp only; omega)
  have hde : d = m.length := by omega
  subst hde
  have hcl := hdone.closed hA.2.1 (fun c hc => hpre.mem (hpin c hc)) (fun x hx => hpre.mem (hs x hx))
  obtain ⟨f, hm, hf⟩ := hA.1.map
  have hco : c.ok := hpo c (by simp)
  have hfits : (keyOf Try.prog 24 (cv c)).isSome = true := keyClm hco
  have hfc := hf c
  unfold cv at hfits hfc
  have hcb := hA.2.2.2.2.1
  unfold Clm.cs at hcb
  have hrs : ∀ (i : Nat) (x : Lin), m[i]? = some x → x.rule ≠ 1 → ∀ k ∈ x.src, 0 ≤ k ∧ k < (i : Int) := fun i x hx h1 => right_src hA.2.1.right hx h1
  simp (disch := first | omega | simp) [iv, hbx, hgl, hcb, hm, lawClm, hfits]
  rw [hfc]
  cases hi : idxC m c with
  | some i =>
    obtain ⟨x, hx, hxc⟩ := idxC_some hi
    obtain ⟨q1, q2, q3, q4⟩ := hA.2.1.out hx
    rw [hxc] at q4
    simp (disch := first | omega | simp) [iv]
    refine ca_pure (by kernel_rfl) (c_needed hbx hA.1.row hrs hA.2.1.src (List.getElem?_eq_some_iff.1 hx).1 (by omega)) ?_
    exact rt_tup hw hA.2.2.1 (by repeat (first | exact Cl.p _ | exact Cl.dsl _ _ | exact Cl.any | refine Cl.tup ?_ | refine Cl.agg ?_ | exact Clo.nil | refine Clo.cons ?_ ?_)) ⟨rfl, .inr (.inl ⟨hokv, sound_no hA.2.1.right (fun c hc => hpo c (List.mem_append_left _ hc)) hA.2.1.ok (List.mem_map.2 ⟨x, List.mem_of_getElem? hx, hxc⟩), _, rfl, q1, q2, q3, q4⟩)⟩
  | none =>
    simp (disch := first | omega | simp) [iv]
    refine ca_of (by kernel_rfl) (c_clash hA.1 hA.2.1.ok (by omega)) ?_
    rintro _ H4 ⟨rfl, ⟨i, k, x, hx, hxs, hk, rfl⟩ | ⟨hno, rfl⟩⟩
    · obtain ⟨y, hy, hyc⟩ := idxC_some hk
      have hlast : (m ++ [Lin.mk 10 c [(i : Int), (k : Int)]])[m.length]? = some ⟨10, c, [(i : Int), (k : Int)]⟩ := by simp
      have l5 := hA.2.1.put (x := ⟨10, c, [(i : Int), (k : Int)]⟩) hco (by simp) (right_two hx hy rfl (by show (10 : Int) ≠ 1; decide) (by rw [hyc]; simp [ruleB, opp, hxs]))
      rw [putL_new (x := ⟨10, c, [(i : Int), (k : Int)]⟩) hi] at l5
      have n4 := hA.2.2.2.1
      simp (disch := first | omega | simp) [iv, bv, hcb, put_get_ne]
      refine ca_put (hA.1.keep (by first | omega | (simp only [up_nx, put_nx, kill_nx]; done) | (simp only [up_nx, put_nx, kill_nx]; omega)) fun j hj => by simp (disch := first | omega | simp) [put_get_ne]) 10 [(i : Int), (k : Int)] c hco (by omega) (put_get _ _) rfl fun v1 H5 h5 n5 k5 => ?_
      simp only [up_nx, put_nx] at n5 k5
      rw [putL_new (x := ⟨10, c, [(i : Int), (k : Int)]⟩) hi] at h5
      have a5 := hA.next hw h5 l5 (by omega) (fun j hj hv => by
        have := (k5 j (by omega) (by omega) (by omega) (by omega) hv).1
        rw [this]; simp (disch := first | omega | simp) [put_get_ne]) (fun j hj n e => by
        by_cases h11 : j = H.nx + 11
        · subst h11; exact h5.row.not (fun xs hx => by rw [h5.box] at hx; cases hx) n e
        · by_cases h9 : j = H.nx + 9
          · subst h9; obtain ⟨f, hm, _⟩ := h5.map; exact h5.row.not (fun xs hx => by rw [hm] at hx; cases hx) n e
          · exact (k5 j (by omega) (by omega) h11 h9 (hA.2.2.2.2.2 j hj)).2 n e)
      obtain ⟨f5, hm5, hf5⟩ := a5.1.map
      have hfc5 := hf5 c
      unfold cv at hfc5
      have hcb5 := a5.2.2.2.2.1
      unfold Clm.cs at hcb5
      have hbx5 := a5.1.box
      have hi5 : idxC (m ++ [Lin.mk 10 c [(i : Int), (k : Int)]]) c = some m.length := by rw [idxC_snoc, hi]; simp
      rw [hi5] at hfc5
      simp only [Option.map_some] at hfc5
      simp (disch := first | omega | simp) [iv, hbx5, hcb5, hm5, lawClm, hfits, hfc5]
      have hlen5 := l5.len
      obtain ⟨q1, q2, q3, q4⟩ := l5.out hlast
      refine cav_pure (by kernel_rfl) (fun H6 hle6 => tri_wf fun hw6 => c_needed (hle6 _ _ hbx5) (a5.1.row.wf hw6 hle6) (fun i x hx h1 => right_src l5.right hx h1) l5.src (last := m.length) (by simp) (by omega)) ?_
      exact rt_tup hw a5.2.2.1 (by repeat (first | exact Cl.p _ | exact Cl.dsl _ _ | exact Cl.any | refine Cl.tup ?_ | refine Cl.agg ?_ | exact Clo.nil | refine Clo.cons ?_ ?_)) ⟨rfl, .inr (.inl ⟨hokv, sound_no l5.right (fun c hc => hpo c (List.mem_append_left _ hc)) l5.ok (List.mem_map.2 ⟨_, List.mem_of_getElem? hlast, rfl⟩), _, rfl, q1, q2, q3, q4⟩)⟩
    · simp (disch := first | omega | simp) [iv, bv]
      exact rt_tup hw hA.2.2.1 (by repeat (first | exact Cl.p _ | exact Cl.dsl _ _ | exact Cl.any | refine Cl.tup ?_ | refine Cl.agg ?_ | exact Clo.nil | refine Clo.cons ?_ ?_)) ⟨rfl, .inr (.inr ⟨hokv, complete hcl hco (idxC_none.1 hi) (no_clash hno), rfl⟩)⟩)
end Go.Proofs.Ytcmnjoepadjioaa
