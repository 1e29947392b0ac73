/- Texts that the proof rests on, part 17: what each holds stands at its head. -/
import Derived.Test.YtgkkilbeingleaaZo16

/- prepare: back and loud. -/
namespace Go.Proofs.Ytgkkilbeingleaa
open Go.RowKit Go.Maps
structure PS where
  bk : Sp → List Sp
  ld : Sp → List Sp
  r1 : Sp → Nat
  r2 : Sp → Nat
  n1 : Nat
  n2 : Nat
structure PI (I : List Int) (H : AH) (d1 d2 B0 c : Nat) (D : Sp → Arc → Prop) (p : PS) : Prop where
  b : BkAt (Em B0) H d1 p.n1 p.bk p.r1
  l : BkAt (Em B0) H d2 p.n2 p.ld p.r2
  dis : ∀ q x, p.bk q ≠ [] → p.ld x ≠ [] → p.r1 q ≠ p.r2 x
  mb : ∀ q x, x ∈ p.bk q ↔ ∃ a, D x a ∧ rdS I x a = some q ∧ a.out = 0
  ml : ∀ q x, x ∈ p.ld q ↔ ∃ a, D x a ∧ rdS I x a = some q ∧ a.out ≠ 0
  c1 : p.n1 ≤ 2 * c
  c2 : p.n2 ≤ 2 * c
  lb : ∀ q, (p.bk q).length ≤ c
  ll : ∀ q, (p.ld q).length ≤ c
theorem PI.same {I : List Int} {H H' : AH} {d1 d2 B0 c : Nat} {D : Sp → Arc → Prop} {p : PS} (h : PI I H d1 d2 B0 c D p) (h1 : d1 < H.nx) (h2 : d2 < H.nx) (hn : H.nx ≤ H'.nx) (hk : ∀ j, j < H.nx → H'.get j = H.get j) : PI I H' d1 d2 B0 c D p :=
  ⟨h.b.same hn (hk _ h1) fun q hq => hk _ (h.b.row q hq).2.1, h.l.same hn (hk _ h2) fun q hq => hk _ (h.l.row q hq).2.1, h.dis, h.mb, h.ml, h.c1, h.c2, h.lb, h.ll⟩
theorem PI.to {I : List Int} {H : AH} {d1 d2 B0 c c' : Nat} {D D' : Sp → Arc → Prop} {p : PS} (h : PI I H d1 d2 B0 c D p) (hc : c ≤ c') (hD : ∀ x a, D x a ↔ D' x a) : PI I H d1 d2 B0 c' D' p :=
  ⟨h.b, h.l, h.dis, fun q x => by rw [h.mb]; simp only [hD], fun q x => by rw [h.ml]; simp only [hD], by have := h.c1; omega, by have := h.c2; omega, fun q => by have := h.lb q; omega, fun q => by have := h.ll q; omega⟩
theorem PI.none {I : List Int} {H : AH} {d1 d2 B0 c : Nat} {D D' : Sp → Arc → Prop} {p : PS} (h : PI I H d1 d2 B0 c D p) {y : Sp} {b : Arc} (hr : rdS I y b = .none) (hD : ∀ x a, D' x a ↔ D x a ∨ (x = y ∧ a = b)) : PI I H d1 d2 B0 (c + 1) D' p :=
  have key : ∀ (P : Arc → Prop) (q x : Sp), (∃ a, D x a ∧ rdS I x a = some q ∧ P a) ↔ ∃ a, D' x a ∧ rdS I x a = some q ∧ P a := fun P q x => by
    constructor
    · rintro ⟨a, h1, h2⟩; exact ⟨a, (hD x a).2 (.inl h1), h2⟩
    · rintro ⟨a, h1, h2, h3⟩
      rcases (hD x a).1 h1 with h1 | ⟨rfl, rfl⟩
      · exact ⟨a, h1, h2, h3⟩
      · rw [hr] at h2; cases h2
  ⟨h.b, h.l, h.dis, fun q x => by rw [h.mb, key (fun a => a.out = 0)], fun q x => by rw [h.ml, key (fun a => a.out ≠ 0)], by have := h.c1; omega, by have := h.c2; omega, fun q => by have := h.lb q; omega, fun q => by have := h.ll q; omega⟩
theorem bkPut_len (bk : Sp → List Sp) (q p x : Sp) : (bkPut bk q p x).length ≤ (bk x).length + 1 := by
  by_cases h : x = q
  · subst h; rw [bkPut_self, List.length_append]; exact Nat.le_refl _
  · rw [bkPut_ne h]; exact Nat.le_succ _
theorem PI.quiet {I : List Int} {H H' : AH} {d1 d2 B0 c r : Nat} {D D' : Sp → Arc → Prop} {p : PS} (h : PI I H d1 d2 B0 c D p) {y q : Sp} {b : Arc} (hr : rdS I y b = some q) (ho : b.out = 0) (hD : ∀ x a, D' x a ↔ D x a ∨ (x = y ∧ a = b))
    (hb : BkAt (Em B0) H' d1 (p.n1 + 2) (bkPut p.bk q y) (ridPut p.r1 q r)) (hl : BkAt (Em B0) H' d2 p.n2 p.ld p.r2) (hrl : ∀ x, p.ld x ≠ [] → r ≠ p.r2 x) : PI I H' d1 d2 B0 (c + 1) D' ⟨bkPut p.bk q y, p.ld, ridPut p.r1 q r, p.r2, p.n1 + 2, p.n2⟩ := by
  refine ⟨hb, hl, fun z x hz hx => ?_, fun z x => ?_, fun z x => ?_, by have := h.c1; dsimp only; omega, by have := h.c2; dsimp only; omega, fun z => by have := h.lb z; have := bkPut_len p.bk q y z; dsimp only; omega, fun z => by have := h.ll z; dsimp only; omega⟩
  · dsimp only at hz hx ⊢
    by_cases hzq : z = q
    · subst hzq; rw [ridPut_self]; exact hrl x hx
    · rw [bkPut_ne hzq] at hz; rw [ridPut_ne hzq]; exact h.dis z x hz hx
  · dsimp only
    rw [bkPut_mem, h.mb]
    constructor
    · rintro (⟨a, h1, h2⟩ | ⟨rfl, rfl⟩)
      · exact ⟨a, (hD x a).2 (.inl h1), h2⟩
      · exact ⟨b, (hD x b).2 (.inr ⟨rfl, rfl⟩), hr, ho⟩
    · rintro ⟨a, h1, h2, h3⟩
      rcases (hD x a).1 h1 with h1 | ⟨rfl, rfl⟩
      · exact .inl ⟨a, h1, h2, h3⟩
      · rw [hr] at h2; injection h2 with h2; exact .inr ⟨h2.symm, rfl⟩
  · dsimp only
    rw [h.ml]
    constructor
    · rintro ⟨a, h1, h2⟩; exact ⟨a, (hD x a).2 (.inl h1), h2⟩
    · rintro ⟨a, h1, h2, h3⟩
      rcases (hD x a).1 h1 with h1 | ⟨rfl, rfl⟩
      · exact ⟨a, h1, h2, h3⟩
      · exact absurd ho h3
theorem PI.loud {I : List Int} {H H' : AH} {d1 d2 B0 c r : Nat} {D D' : Sp → Arc → Prop} {p : PS} (h : PI I H d1 d2 B0 c D p) {y q : Sp} {b : Arc} (hr : rdS I y b = some q) (ho : b.out ≠ 0) (hD : ∀ x a, D' x a ↔ D x a ∨ (x = y ∧ a = b))
    (hb : BkAt (Em B0) H' d1 p.n1 p.bk p.r1) (hl : BkAt (Em B0) H' d2 (p.n2 + 2) (bkPut p.ld q y) (ridPut p.r2 q r)) (hrl : ∀ x, p.bk x ≠ [] → p.r1 x ≠ r) : PI I H' d1 d2 B0 (c + 1) D' ⟨p.bk, bkPut p.ld q y, p.r1, ridPut p.r2 q r, p.n1, p.n2 + 2⟩ := by
  refine ⟨hb, hl, fun z x hz hx => ?_, fun z x => ?_, fun z x => ?_, by have := h.c1; dsimp only; omega, by have := h.c2; dsimp only; omega, fun z => by have := h.lb z; dsimp only; omega, fun z => by have := h.ll z; have := bkPut_len p.ld q y z; dsimp only; omega⟩
  · dsimp only at hz hx ⊢
    by_cases hxq : x = q
    · subst hxq; rw [ridPut_self]; exact hrl z hz
    · rw [bkPut_ne hxq] at hx; rw [ridPut_ne hxq]; exact h.dis z x hz hx
  · dsimp only
    rw [h.mb]
    constructor
    · rintro ⟨a, h1, h2⟩; exact ⟨a, (hD x a).2 (.inl h1), h2⟩
    · rintro ⟨a, h1, h2, h3⟩
      rcases (hD x a).1 h1 with h1 | ⟨rfl, rfl⟩
      · exact ⟨a, h1, h2, h3⟩
      · exact absurd h3 ho
  · dsimp only
    rw [bkPut_mem, h.ml]
    constructor
    · rintro (⟨a, h1, h2⟩ | ⟨rfl, rfl⟩)
      · exact ⟨a, (hD x a).2 (.inl h1), h2⟩
      · exact ⟨b, (hD x b).2 (.inr ⟨rfl, rfl⟩), hr, ho⟩
    · rintro ⟨a, h1, h2, h3⟩
      rcases (hD x a).1 h1 with h1 | ⟨rfl, rfl⟩
      · exact .inl ⟨a, h1, h2, h3⟩
      · rw [hr] at h2; injection h2 with h2; exact .inr ⟨h2.symm, rfl⟩
set_option maxHeartbeats 2000000 in
theorem prep_L2 {H0 H1 : AH} {o e d1 d2 B0 c pb s1 i : Nat} {m : Mac} {I : List Int} {l : AV} {D : Sp → Arc → Prop} {p : PS} {L : List Arc} {k_8 : List AV → AH → Prop}
    (hm : m.Ok) (hI : I.length ≤ 60) (ho : OutAt H1 o m I e l) (hoB : o < B0) (hd1 : B0 ≤ d1) (hd2 : B0 ≤ d2) (hd12 : d1 ≠ d2) (hd1n : d1 < H1.nx) (hd2n : d2 < H1.nx) (hp : PI I H1 d1 d2 B0 c D p) (hc : c + L.length ≤ 900000)
    (hpb : H1.get pb = some (.box 91 (spA ((s1 : Int), i)))) (hpn : pb < H1.nx) (hv : Vs m I ((s1 : Int), i)) (hL : ∀ a ∈ L, a ∈ m.arcs) (hKp : ∀ j, j < B0 → H1.get j = H0.get j)
    (hkk : ∀ p' H2, H1.nx ≤ H2.nx → (∀ j, j < B0 → H2.get j = H0.get j) → PI I H2 d1 d2 B0 (c + L.length) (fun x a => D x a ∨ (x = ((s1 : Int), i) ∧ a ∈ L)) p' → k_8 [iv (((i + 1 : Nat)) : Int)] H2) :
    LoopA Try.prog 1 (S_outer_prepare_L2 (.ptr o 0) (.mp d1) (.mp d2) k_8 [iv (i : Int)] (.ptr pb 0) (.dsl 5 (L.map Arc.cs)) (iv (L.length : Int))) [.p (.int .i64 0)] H1 := by
  have hml : maxLen = 9223372036854775807 := by decide
  refine loop_wf (fun x : PS × Nat => [iv (x.2 : Int)]) (fun x H' => H1.nx ≤ H'.nx ∧ (∀ j, j < B0 → H'.get j = H0.get j) ∧ H'.get pb = some (.box 91 (spA ((s1 : Int), i))) ∧ PI I H' d1 d2 B0 (c + x.2) (fun y a => D y a ∨ (y = ((s1 : Int), i) ∧ a ∈ L.take x.2)) x.1 ∧ x.2 ≤ L.length) (fun x => L.length - x.2) (p, 0) (.refl (Nat.le_refl _)) ⟨Nat.le_refl _, hKp, hpb, hp.to (Nat.le_refl _) fun x a => by simp, Nat.zero_le _⟩ ?_
  rintro ⟨p, x⟩ H2 hn2 hw2 ⟨jn, jk, jpb, jp, jx⟩ k2 hk2
  dsimp only at jp jx hk2 ⊢
  have hiv := ivn (i := x) (by omega)
  have hi60 := hv.2.2
  dsimp only at hi60
  unfold S_outer_prepare_L2
  by_cases hxl : x < L.length
  · obtain ⟨a, ha⟩ : ∃ a, L[x]? = some a := ⟨_, List.getElem?_eq_getElem hxl⟩
    have hag : ∀ h, L[x]'h = a := fun h => (List.getElem?_eq_some_iff.1 ha).2
    have ham := hL a (List.mem_of_getElem? ha)
    have hxi : (x : Int) < (L.length : Int) := by omega
    have htk : L.take (x + 1) = L.take x ++ [a] := by rw [List.take_add_one, ha]; rfl
    have hal : a.cs.length = 5 := rfl
    have hat : a.cs.take 5 = a.cs := rfl
    have hD : ∀ y b, (D y b ∨ (y = ((s1 : Int), i) ∧ b ∈ L.take (x + 1))) ↔ (D y b ∨ (y = ((s1 : Int), i) ∧ b ∈ L.take x)) ∨ (y = ((s1 : Int), i) ∧ b = a) := fun y b => by
      rw [htk, List.mem_append, List.mem_singleton]
      constructor
      · rintro (h | ⟨h1, h2 | h2⟩)
        · exact .inl (.inl h)
        · exact .inl (.inr ⟨h1, h2⟩)
        · exact .inr ⟨h1, h2⟩
      · rintro ((h | ⟨h1, h2⟩) | ⟨h1, h2⟩)
        · exact .inl h
        · exact .inr ⟨h1, .inl h2⟩
        · exact .inr ⟨h1, .inr h2⟩
    simp (disch := first | omega | simp) [iv, hxi, hag, put_get_ne, jpb, spA_len, spA_take, hal, hat]
    generalize hP : AH.up _ 10 = P
    have hPn : P.nx = H2.nx + 14 := by rw [← hP]; rfl
    have hPa : P.get (H2.nx + 2) = some (.box 53 a.cs) := by rw [← hP]; simp (disch := first | omega | simp)
    have hPk : ∀ j, j < H2.nx → P.get j = H2.get j := fun j hj => by rw [← hP, up_get, AH.get_put_ne (by omega), AH.get_put_ne (by omega), up_get]
    clear hP
    have hon := (hw2 o _ (by rw [jk o hoB, ← hKp o hoB]; exact ho.box)).1
    have hoP : OutAt P o m I e l := ⟨by rw [hPk _ hon, jk o hoB, ← hKp o hoB]; exact ho.box⟩
    refine ca_of (by kernel_rfl) (c_reads hoP hI ((s1 : Int), i) hi60 a) ?_
    rintro _ P ⟨rfl, rfl⟩
    have hPa : P.get (H2.nx + 2) = some (.box 53 [iv a.fr, iv a.to, iv a.inn, iv a.out, iv a.w]) := hPa
    have hPp : P.get pb = some (.box 91 (spA ((s1 : Int), i))) := by rw [hPk pb (by omega)]; exact jpb
    have hpP : PI I P d1 d2 B0 (c + x) (fun y a => D y a ∨ (y = ((s1 : Int), i) ∧ a ∈ L.take x)) p := jp.same (by omega) (by omega) (by omega) hPk
    cases hr : rdS I ((s1 : Int), i) a with
    | none =>
      simp (disch := first | omega | simp) [bv, spA_len, hiv]
      refine hk2 (p, x + 1) _ _ _ (.refl (by simp only [put_nx]; omega)) ⟨by simp only [put_nx]; omega, fun j hj => ?_, ?_, ?_, hxl⟩ (by dsimp only; omega)
      · rw [AH.get_put_ne (by omega), AH.get_put_ne (by omega), hPk j (by omega)]; exact jk j hj
      · rw [AH.get_put_ne (by omega), AH.get_put_ne (by omega)]; exact hPp
      · refine PI.none (D := fun y a => D y a ∨ (y = ((s1 : Int), i) ∧ a ∈ L.take x)) (jp.same (by omega) (by omega) (by simp only [put_nx]; omega) fun j hj => ?_) hr hD
        rw [AH.get_put_ne (by omega), AH.get_put_ne (by omega), hPk j hj]
    | some q =>
      have hvq := vs_step hm ham hr hv
      have hkq := hvq.key hm hI
      by_cases ho0 : a.out = 0
      · simp (disch := first | omega | simp) [bv, spA_len]
        unfold S_outer_prepare_C1
        simp (disch := first | omega | simp) [iv, put_get_ne, spA_len, spA_take, hPa, hPp, ho0]
        generalize hZ : AH.put _ (P.nx + 3) _ = Z
        have hZk : ∀ j, j < H2.nx → Z.get j = H2.get j := fun j hj => by rw [← hZ, AH.get_put_ne (by omega), up_get, AH.get_put_ne (by omega), AH.get_put_ne (by omega), hPk j hj]
        have hZr : Z.get (P.nx + 3) = some (.row 91 2 [spA ((s1 : Int), i)]) := by rw [← hZ, put_get]
        have hZn : Z.nx = P.nx + 9 := by rw [← hZ]; simp only [put_nx, up_nx]
        clear hZ
        have hpZ := jp.same (by omega) (by omega) (by omega : H2.nx ≤ Z.nx) hZk
        have hbZ := hpZ.b
        have hlZ := hpZ.l
        have hlen := jp.lb q
        have hcn := jp.c1
        have hbr : ∀ y, p.bk y ≠ [] → B0 ≤ p.r1 y ∧ p.r1 y < H2.nx := fun y hy => ⟨(jp.b.row y hy).1, (jp.b.row y hy).2.1⟩
        have hlr : ∀ y, p.ld y ≠ [] → B0 ≤ p.r2 y ∧ p.r2 y < H2.nx := fun y hy => ⟨(jp.l.row y hy).1, (jp.l.row y hy).2.1⟩
        have hneb : ∀ y, p.bk y ≠ [] → p.r1 y ≠ d1 ∧ p.r1 y ≠ d2 ∧ p.r1 y ≠ pb := fun y hy => by
          have h3 := (jp.b.row y hy).2.2
          obtain ⟨u1, m1, _⟩ := jp.b.map
          obtain ⟨u2, m2, _⟩ := jp.l.map
          refine ⟨fun e => ?_, fun e => ?_, fun e => ?_⟩
          · rw [e, m1] at h3; cases h3
          · rw [e, m2] at h3; cases h3
          · rw [e, jpb] at h3; cases h3
        have hnel : ∀ y, p.ld y ≠ [] → p.r2 y ≠ d1 ∧ p.r2 y ≠ d2 ∧ p.r2 y ≠ pb := fun y hy => by
          have h3 := (jp.l.row y hy).2.2
          obtain ⟨u1, m1, _⟩ := jp.b.map
          obtain ⟨u2, m2, _⟩ := jp.l.map
          refine ⟨fun e => ?_, fun e => ?_, fun e => ?_⟩
          · rw [e, m1] at h3; cases h3
          · rw [e, m2] at h3; cases h3
          · rw [e, jpb] at h3; cases h3
        have hpbd : pb ≠ d1 ∧ pb ≠ d2 := by
          obtain ⟨u1, m1, _⟩ := jp.b.map
          obtain ⟨u2, m2, _⟩ := jp.l.map
          refine ⟨fun e => ?_, fun e => ?_⟩
          · rw [e, m1] at jpb; cases jpb
          · rw [e, m2] at jpb; cases jpb
        refine bk_step hbZ (by omega) hkq (by omega) hZr (by omega) (fun y hy => by have := hbr y hy; omega) (r := P.nx + 6) (by show B0 ≤ _; omega) (by omega) (by omega) (fun y hy => by have := hbr y hy; omega) (by omega) fun H5 b5 n5 k5 => ?_
        simp (disch := first | omega | simp) [hiv]
        have hpq : pb ≠ P.nx + 6 := by omega
        refine hk2 (⟨bkPut p.bk q ((s1 : Int), i), p.ld, ridPut p.r1 q (P.nx + 6), p.r2, p.n1 + 2, p.n2⟩, x + 1) _ _ _ (.refl (by omega)) ⟨by omega, fun j hj => ?_, ?_, ?_, hxl⟩ (by dsimp only; omega)
        · rw [k5 j (by omega) (by omega) (fun h => by have := (hbr q h).1; omega), hZk j (by omega)]; exact jk j hj
        · rw [k5 pb (hpbd.1) hpq (fun h e => (hneb q h).2.2 e.symm), hZk pb (by omega)]; exact jpb
        · refine PI.quiet (D := fun y a => D y a ∨ (y = ((s1 : Int), i) ∧ a ∈ L.take x)) jp hr ho0 hD b5 (hlZ.same (by omega) (k5 d2 hd12.symm (by omega) fun h e => (hneb q h).2.1 e.symm) fun y hy => k5 _ (hnel y hy).1 (by have := hlr y hy; omega) fun h e => jp.dis q y h hy e.symm) (fun y hy => by have := hlr y hy; omega)
      · simp (disch := first | omega | simp) [bv, spA_len]
        unfold S_outer_prepare_C1
        simp (disch := first | omega | simp) [iv, put_get_ne, spA_len, spA_take, hPa, hPp, ho0]
        generalize hZ : AH.put _ (P.nx + 3) _ = Z
        have hZk : ∀ j, j < H2.nx → Z.get j = H2.get j := fun j hj => by rw [← hZ, AH.get_put_ne (by omega), up_get, AH.get_put_ne (by omega), AH.get_put_ne (by omega), hPk j hj]
        have hZr : Z.get (P.nx + 3) = some (.row 91 2 [spA ((s1 : Int), i)]) := by rw [← hZ, put_get]
        have hZn : Z.nx = P.nx + 9 := by rw [← hZ]; simp only [put_nx, up_nx]
        clear hZ
        have hpZ := jp.same (by omega) (by omega) (by omega : H2.nx ≤ Z.nx) hZk
        have hbZ := hpZ.b
        have hlZ := hpZ.l
        have hlen := jp.ll q
        have hcn := jp.c2
        have hbr : ∀ y, p.bk y ≠ [] → B0 ≤ p.r1 y ∧ p.r1 y < H2.nx := fun y hy => ⟨(jp.b.row y hy).1, (jp.b.row y hy).2.1⟩
        have hlr : ∀ y, p.ld y ≠ [] → B0 ≤ p.r2 y ∧ p.r2 y < H2.nx := fun y hy => ⟨(jp.l.row y hy).1, (jp.l.row y hy).2.1⟩
        have hneb : ∀ y, p.bk y ≠ [] → p.r1 y ≠ d1 ∧ p.r1 y ≠ d2 ∧ p.r1 y ≠ pb := fun y hy => by
          have h3 := (jp.b.row y hy).2.2
          obtain ⟨u1, m1, _⟩ := jp.b.map
          obtain ⟨u2, m2, _⟩ := jp.l.map
          refine ⟨fun e => ?_, fun e => ?_, fun e => ?_⟩
          · rw [e, m1] at h3; cases h3
          · rw [e, m2] at h3; cases h3
          · rw [e, jpb] at h3; cases h3
        have hnel : ∀ y, p.ld y ≠ [] → p.r2 y ≠ d1 ∧ p.r2 y ≠ d2 ∧ p.r2 y ≠ pb := fun y hy => by
          have h3 := (jp.l.row y hy).2.2
          obtain ⟨u1, m1, _⟩ := jp.b.map
          obtain ⟨u2, m2, _⟩ := jp.l.map
          refine ⟨fun e => ?_, fun e => ?_, fun e => ?_⟩
          · rw [e, m1] at h3; cases h3
          · rw [e, m2] at h3; cases h3
          · rw [e, jpb] at h3; cases h3
        have hpbd : pb ≠ d1 ∧ pb ≠ d2 := by
          obtain ⟨u1, m1, _⟩ := jp.b.map
          obtain ⟨u2, m2, _⟩ := jp.l.map
          refine ⟨fun e => ?_, fun e => ?_⟩
          · rw [e, m1] at jpb; cases jpb
          · rw [e, m2] at jpb; cases jpb
        refine bk_step hlZ (by omega) hkq (by omega) hZr (by omega) (fun y hy => by have := hlr y hy; omega) (r := P.nx + 6) (by show B0 ≤ _; omega) (by omega) (by omega) (fun y hy => by have := hlr y hy; omega) (by omega) fun H5 b5 n5 k5 => ?_
        simp (disch := first | omega | simp) [hiv]
        have hpq : pb ≠ P.nx + 6 := by omega
        refine hk2 (⟨p.bk, bkPut p.ld q ((s1 : Int), i), p.r1, ridPut p.r2 q (P.nx + 6), p.n1, p.n2 + 2⟩, x + 1) _ _ _ (.refl (by omega)) ⟨by omega, fun j hj => ?_, ?_, ?_, hxl⟩ (by dsimp only; omega)
        · rw [k5 j (by omega) (by omega) (fun h => by have := (hlr q h).1; omega), hZk j (by omega)]; exact jk j hj
        · rw [k5 pb (hpbd.2) hpq (fun h e => (hnel q h).2.2 e.symm), hZk pb (by omega)]; exact jpb
        · refine PI.loud (D := fun y a => D y a ∨ (y = ((s1 : Int), i) ∧ a ∈ L.take x)) jp hr ho0 hD (hbZ.same (by omega) (k5 d1 hd12 (by omega) fun h e => (hnel q h).1 e.symm) fun y hy => k5 _ (hneb y hy).2.1 (by have := hbr y hy; omega) fun h e => jp.dis y q hy h e) b5 (fun y hy => by have := hbr y hy; omega)
  · have hxi : ¬ (x : Int) < (L.length : Int) := by omega
    have hxe : x = L.length := by omega
    have hiv2 := ivn (i := i) (by omega)
    subst hxe
    rw [List.take_length] at jp
    simp (disch := first | omega | simp) [iv, hxi, hiv2]
    exact hkk p H2 jn jk jp
end Go.Proofs.Ytgkkilbeingleaa

/- prepare: all of it. -/
namespace Go.Proofs.Ytgkkilbeingleaa
open Go.RowKit Go.Maps
def Dn (m : Mac) (I : List Int) (s i : Nat) : Sp → Arc → Prop := fun x a => a ∈ m.arcs ∧ a.fr = x.1 ∧ Vs m I x ∧ (x.1 < (s : Int) ∨ (x.1 = (s : Int) ∧ x.2 < i))
theorem outs_mem {m : Mac} {s : Nat} {a : Arc} : a ∈ outs m.arcs s ↔ a ∈ m.arcs ∧ a.fr = (s : Int) := by
  unfold outs
  rw [List.mem_filter]
  simp
theorem Dn_step {m : Mac} {I : List Int} {s i : Nat} (hv : Vs m I ((s : Int), i)) (x : Sp) (a : Arc) : (Dn m I s i x a ∨ (x = ((s : Int), i) ∧ a ∈ outs m.arcs s)) ↔ Dn m I s (i + 1) x a := by
  unfold Dn
  rw [outs_mem]
  constructor
  · rintro (⟨h1, h2, h3, h4⟩ | ⟨rfl, h1, h2⟩)
    · exact ⟨h1, h2, h3, by omega⟩
    · exact ⟨h1, h2, hv, .inr ⟨rfl, Nat.lt_succ_self _⟩⟩
  · rintro ⟨h1, h2, h3, h4⟩
    by_cases h : x.1 = (s : Int) ∧ x.2 = i
    · obtain ⟨x1, x2⟩ := x
      obtain ⟨rfl, rfl⟩ := h
      exact .inr ⟨rfl, h1, h2⟩
    · exact .inl ⟨h1, h2, h3, by omega⟩
theorem Dn_next {m : Mac} {I : List Int} {s : Nat} (x : Sp) (a : Arc) : Dn m I s (I.length + 1) x a ↔ Dn m I (s + 1) 0 x a := by
  unfold Dn
  constructor
  · rintro ⟨h1, h2, h3, h4⟩
    exact ⟨h1, h2, h3, by omega⟩
  · rintro ⟨h1, h2, h3, h4⟩
    have := h3.2.2
    exact ⟨h1, h2, h3, by omega⟩
set_option maxHeartbeats 2000000 in
theorem prep_L3 {H0 H1 : AH} {o e d1 d2 B0 s : Nat} {m : Mac} {I : List Int} {l : AV} {p : PS} {k : List AV → AH → Prop}
    (hm : m.Ok) (hI : I.length ≤ 60) (hms : m.arcs.length ≤ 120) (hst : m.states ≤ 40) (hs : (s : Int) < m.states) (ho : OutAt H1 o m I e l) (hoB : o < B0) (hd1 : B0 ≤ d1) (hd2 : B0 ≤ d2) (hd12 : d1 ≠ d2) (hd1n : d1 < H1.nx) (hd2n : d2 < H1.nx)
    (hp : PI I H1 d1 d2 B0 (s * 61 * 120) (Dn m I s 0) p) (hKp : ∀ j, j < B0 → H1.get j = H0.get j)
    (hkk : ∀ p' H2, H1.nx ≤ H2.nx → (∀ j, j < B0 → H2.get j = H0.get j) → PI I H2 d1 d2 B0 ((s + 1) * 61 * 120) (Dn m I (s + 1) 0) p' → k [iv (((s + 1 : Nat)) : Int)] H2) :
    LoopA Try.prog 1 (S_outer_prepare_L3 (.ptr o 0) (.mp d1) (.mp d2) k [iv (s : Int)]) [.p (.int .i64 0)] H1 := by
  have hml : maxLen = 9223372036854775807 := by decide
  refine loop_wf (fun x : PS × Nat => [iv (x.2 : Int)]) (fun x H' => H1.nx ≤ H'.nx ∧ (∀ j, j < B0 → H'.get j = H0.get j) ∧ PI I H' d1 d2 B0 ((s * 61 + x.2) * 120) (Dn m I s x.2) x.1 ∧ x.2 ≤ I.length + 1) (fun x => I.length + 1 - x.2) (p, 0) (.refl (Nat.le_refl _)) ⟨Nat.le_refl _, hKp, hp, Nat.zero_le _⟩ ?_
  rintro ⟨p, i⟩ H2 hn2 hw2 ⟨jn, jk, jp, ji⟩ k2 hk2
  dsimp only at jp ji hk2 ⊢
  have hmax : o < H1.nx := by
    have := hp.b.map
    omega
  have ho2 : H2.get o = some (.box 85 [.dsl 1 (fromE m), .dsl 1 (nE I), .mp e, l]) := by rw [jk o hoB, ← hKp o hoB]; exact ho.box
  have hil : ((nE I).length : Int) = (I.length : Int) := by simp [nE]
  have hiv := ivn (i := s) (by omega)
  unfold S_outer_prepare_L3
  by_cases hin : i ≤ I.length
  · have hii : (i : Int) ≤ (I.length : Int) := by omega
    have hv : Vs m I ((s : Int), i) := ⟨by dsimp only; omega, hs, hin⟩
    have hfr : (fromE m)[s]? = some [.dsl 5 ((outs m.arcs s).map Arc.cs)] := oV_get (by omega)
    have hfn := (List.getElem?_eq_some_iff.1 hfr).1
    have hfg : ∀ h, (fromE m)[s]'h = [.dsl 5 ((outs m.arcs s).map Arc.cs)] := fun h => (List.getElem?_eq_some_iff.1 hfr).2
    simp (disch := first | omega | simp) [iv, ho2, hii, put_get_ne, hfn, hfg]
    have hol := outs_le m.arcs s
    have hnx2 := jp.b.map
    refine prep_L2 (H0 := H0) (D := Dn m I s i) (p := p) (c := (s * 61 + i) * 120) (L := outs m.arcs s) (e := e) (l := l) (m := m) (I := I) (s1 := s) (i := i) hm hI ⟨by rw [AH.get_put_ne (by omega), AH.get_put_ne (by omega), up_get]; exact ho2⟩ hoB hd1 hd2 hd12 (by simp only [put_nx, up_nx]; omega) (by simp only [put_nx, up_nx]; omega) (jp.same (by omega) (by omega) (by simp only [put_nx, up_nx]; omega) fun j hj => by rw [AH.get_put_ne (by omega), AH.get_put_ne (by omega), up_get]) (by omega) (by rw [put_get]; rfl) (by simp only [put_nx, up_nx]; omega) hv (fun a ha => (outs_mem.1 ha).1) (fun j hj => by rw [AH.get_put_ne (by omega), AH.get_put_ne (by omega), up_get]; exact jk j hj) fun p' H3 n3 k3 p3 => ?_
    simp only [put_nx, up_nx] at n3
    exact hk2 (p', i + 1) _ _ _ (.refl (by omega)) ⟨by omega, k3, p3.to (by dsimp only; omega) (Dn_step hv), by dsimp only; omega⟩ (by dsimp only; omega)
  · have hii : ¬ (i : Int) ≤ (I.length : Int) := by omega
    simp (disch := first | omega | simp) [iv, ho2, hii, hiv]
    have hie : i = I.length + 1 := by omega
    subst hie
    exact hkk p H2 jn jk (jp.to (by omega) Dn_next)
open Classical in
/-- a set of numbers -/
noncomputable def iF (L : List Int) : Value → Option AV := fun u => if ∃ s ∈ L, u = .int .i64 s then some (iv 1) else none
theorem iF_nil : iF [] = fun _ => none := by funext u; simp [iF]
theorem iF_snoc (L : List Int) (s : Int) : putA (iF L) (.int .i64 s) (iv 1) = iF (L ++ [s]) := by
  funext u
  by_cases h : u = .int .i64 s
  · subst h
    rw [putA_same]
    unfold iF
    rw [if_pos ⟨s, by simp, rfl⟩]
  · rw [putA_other _ _ h]
    unfold iF
    by_cases hx : ∃ x ∈ L, u = .int .i64 x
    · obtain ⟨x, hx, rfl⟩ := hx
      rw [if_pos ⟨x, hx, rfl⟩, if_pos ⟨x, by simp [hx], rfl⟩]
    · rw [if_neg hx, if_neg]
      rintro ⟨x, hxm, rfl⟩
      rcases List.mem_append.1 hxm with hm | hm
      · exact hx ⟨x, hm, rfl⟩
      · rcases List.mem_singleton.1 hm with rfl
        exact h rfl
theorem iF_in {L : List Int} {s : Int} (h : s ∈ L) : iF L (.int .i64 s) = some (iv 1) := by unfold iF; rw [if_pos ⟨s, h, rfl⟩]
theorem iF_some {L : List Int} {u : Value} {a : AV} (h : iF L u = some a) : ∃ s ∈ L, u = .int .i64 s ∧ a = iv 1 := by
  unfold iF at h
  split at h
  · rename_i hx
    obtain ⟨s, hs, rfl⟩ := hx
    injection h with h
    exact ⟨s, hs, rfl, h.symm⟩
  · cases h
theorem BkAt.weak {n0 : Nat} {H : AH} {d n : Nat} {bk : Sp → List Sp} {rid : Sp → Nat} (h : BkAt (Em n0) H d n bk rid) : BkAt (Em 0) H d n bk rid := ⟨h.map, fun q hq => ⟨Nat.zero_le _, (h.row q hq).2⟩, h.inj⟩
/-- what prepare leaves -/
def PrepQ (H : AH) (o e long : Nat) (m : Mac) (I : List Int) (r : AV) (H' : AH) : Prop :=
  r = .tup [] ∧ H.nx ≤ H'.nx ∧ (∀ j, j < H.nx → j ≠ o → H'.get j = H.get j) ∧ ∃ lv ds, OutAt H' o m I e lv ∧ LeftAt H.nx m I H' lv ds ∧ ds.length = long + 1
set_option maxHeartbeats 4000000 in
theorem c_prepare {H : AH} {o e ne long : Nat} {m : Mac} {I : List Int} {E : List Int} (hm : m.Ok) (hI : I.length ≤ 60) (hms : m.arcs.length ≤ 120) (hst : m.states ≤ 40) (hlong : long ≤ 8) (ho : OutAt H o m I e (.p (.slice none 0 0))) (hE : H.get e = some (.map 3 ne (iF E))) (_hne : ne ≤ 1000000) (hEl : E.length ≤ 1000000) (hEm : ∀ s, s ∈ E ↔ ∃ f ∈ m.fins, f.st = s) :
    Tri Try.prog 49 [.ptr o 0, iv m.states, iv (long : Int)] H (PrepQ H o e long m I) := tri_wf fun hw => tri_outer_prepare (by
  have hml : maxLen = 9223372036854775807 := by decide
  have hon := (hw _ _ ho.box).1
  have hen := (hw _ _ hE).1
  have hoe : o ≠ e := fun q => by subst q; rw [ho.box] at hE; cases hE
  unfold S_outer_prepare
  simp (disch := first | omega | simp)
  generalize hP : AH.put _ (H.nx + 2) _ = P
  have hPk : ∀ j, j < H.nx → P.get j = H.get j := fun j hj => by rw [← hP, AH.get_put_ne (by omega), up_get, AH.get_put_ne (by omega), up_get]
  have hP1 : P.get H.nx = some (.map 91 0 fun _ => none) := by rw [← hP, AH.get_put_ne (by omega), up_get, put_get]
  have hP2 : P.get (H.nx + 2) = some (.map 91 0 fun _ => none) := by rw [← hP, put_get]
  have hPn : P.nx = H.nx + 4 := by rw [← hP]; simp only [put_nx, up_nx]
  clear hP
  obtain ⟨ms, hms2⟩ := Int.eq_ofNat_of_zero_le (show 0 ≤ m.states by have := hm.1; omega)
  have h00 : PI I P H.nx (H.nx + 2) H.nx 0 (Dn m I 0 0) ⟨fun _ => [], fun _ => [], fun _ => 0, fun _ => 0, 0, 0⟩ := by
    refine ⟨⟨⟨_, hP1, fun _ _ => rfl, fun q h => absurd rfl h⟩, fun q h => absurd rfl h, fun q p h => absurd rfl h⟩, ⟨⟨_, hP2, fun _ _ => rfl, fun q h => absurd rfl h⟩, fun q h => absurd rfl h, fun q p h => absurd rfl h⟩, fun q x h => absurd rfl h, fun q x => ?_, fun q x => ?_, Nat.zero_le _, Nat.zero_le _, fun _ => Nat.zero_le _, fun _ => Nat.zero_le _⟩
    · constructor
      · intro h; cases h
      · rintro ⟨a, ⟨_, _, h3, h4⟩, _⟩
        have := h3.1
        omega
    · constructor
      · intro h; cases h
      · rintro ⟨a, ⟨_, _, h3, h4⟩, _⟩
        have := h3.1
        omega
  refine loop_wf (fun x : PS × Nat => [iv (x.2 : Int)]) (fun x H' => P.nx ≤ H'.nx ∧ (∀ j, j < H.nx → H'.get j = H.get j) ∧ PI I H' H.nx (H.nx + 2) H.nx (x.2 * 61 * 120) (Dn m I x.2 0) x.1 ∧ x.2 ≤ ms) (fun x => ms - x.2) (_, 0) (.refl (Nat.le_refl _)) ⟨Nat.le_refl _, hPk, h00.to (Nat.le_refl _) fun _ _ => Iff.rfl, Nat.zero_le _⟩ ?_
  rintro ⟨p, s⟩ H2 hn2 hw2 ⟨jn, jk, jp, js⟩ k2 hk2
  dsimp only at jp js hk2 ⊢
  have ho2 : H2.get o = some (.box 85 [.dsl 1 (fromE m), .dsl 1 (nE I), .mp e, .p (.slice none 0 0)]) := by rw [jk o hon]; exact ho.box
  unfold S_outer_prepare_L11
  rw [hms2]
  by_cases hs : s < ms
  · have hsi : (s : Int) < (ms : Int) := by omega
    simp (disch := first | omega | simp) [iv, hsi]
    refine prep_L3 (H0 := H) hm hI hms hst (by omega) ⟨ho2⟩ hon (Nat.le_refl _) (by omega) (by omega) (by omega) (by omega) jp jk fun p' H3 n3 k3 p3 => ?_
    exact hk2 (p', s + 1) _ _ _ (.refl (by omega)) ⟨by omega, k3, p3, by dsimp only; omega⟩ (by dsimp only; omega)
  · have hsi : ¬ (s : Int) < (ms : Int) := by omega
    have hse : s = ms := by omega
    subst hse
    have he2 : H2.get e = some (.map 3 ne (iF E)) := by rw [jk e hen]; exact hE
    simp (disch := first | omega | simp) [iv, hsi, ho2, put_get_ne]
    refine nd_rng (n := ne) (f := iF E) (by simp (disch := first | omega | simp) [he2, mapOf, put_get_ne]) lawInt fun st cc => ?_
    generalize hM : AH.put _ (H2.nx + 2 + 4) _ = M
    have hMk : ∀ j, j < H2.nx → j ≠ e → M.get j = H2.get j := fun j h1 h2 => by
      rw [← hM, AH.get_put_ne (by omega), AH.get_put_ne h2, up_get, AH.get_put_ne (by omega), up_get]
    have hMe : M.get e = some (.smap 3 ne (iF E) st cc) := by rw [← hM, AH.get_put_ne (by omega), put_get]
    have hMi : M.get (H2.nx + 2 + 4) = some (.miter e st cc []) := by rw [← hM, put_get]
    have hMg : M.get H2.nx = some (.map 91 0 (sF [])) := by rw [← hM, sF_nil, AH.get_put_ne (by omega), AH.get_put_ne (by omega), up_get, put_get]
    have hMn : M.nx = H2.nx + 7 := by rw [← hM]; simp only [put_nx, up_nx]
    clear hM
    have hEs : ∀ s ∈ E, 0 ≤ s ∧ s < m.states := fun s hs => by
      obtain ⟨f, hf, rfl⟩ := (hEm s).1 hs
      have := hm.2.2.2.2.2.1 f hf
      omega
    have hEk : ∀ s ∈ E, (keyOf Try.prog 3 (.int .i64 s)).isSome = true := fun s hs => keyInt (by have := hEs s hs; unfold I64; omega)
    have hkS : ∀ s ∈ E, (keyOf Try.prog 91 (spv (s, I.length))).isSome = true := fun s hs => keySp (by have := hEs s hs; dsimp only; omega) (by dsimp only; omega)
    refine loop_wf (fun _ : List Int => []) (fun S H' => M.nx ≤ H'.nx ∧ (∀ j, j < H2.nx → j ≠ e → H'.get j = H2.get j) ∧ H'.get e = some (.smap 3 ne (iF E) st cc) ∧ H'.get (H2.nx + 2 + 4) = some (.miter e st cc (S.map (Value.int .i64))) ∧ S.Nodup ∧ (∀ s ∈ S, s ∈ E) ∧ H'.get H2.nx = some (.map 91 S.length (sF (S.map fun s => (s, I.length))))) (fun S => E.length - S.length) [] (.refl (Nat.le_refl _)) ⟨Nat.le_refl _, hMk, hMe, hMi, .nil, (fun _ h => by cases h), hMg⟩ ?_
    rintro S H3 hn3 hw3 ⟨yn, yk, ye, yi, ynd, ysE, yg⟩ k3 hk3
    have hSl : S.length ≤ E.length := nodup_le ynd ysE
    unfold S_outer_prepare_L10
    simp (disch := first | omega | simp) []
    refine nd_nxt (vis := S.map (Value.int .i64)) (by exact yi) (by exact ye) lawInt (fun x hx => ?_) ?_ (fun hall => ?_) (fun x a hkx hfx hnv hlt => ?_)
    · obtain ⟨s, hs, rfl⟩ := List.mem_map.1 hx
      exact ⟨by rw [iF_in (ysE s hs)]; rfl, hEk s (ysE s hs)⟩
    · exact List.Pairwise.map (Value.int .i64) (fun a b h e => h (by injection e)) ynd
    · simp (disch := first | omega | simp) []
      have hSA : ∀ s ∈ E, s ∈ S := fun s hs => by
        obtain ⟨q, hq, hqe⟩ := List.mem_map.1 (hall (.int .i64 s) (hEk s hs) (by rw [iF_in hs]; rfl))
        injection hqe with _ hqe
        rw [← hqe]; exact hq
      have hrl : ∀ q, p.bk q ≠ [] → p.r1 q < H2.nx := fun q hq => (jp.b.row q hq).2.1
      have hrl2 : ∀ q, p.ld q ≠ [] → p.r2 q < H2.nx := fun q hq => (jp.l.row q hq).2.1
      have heg : e ≠ H2.nx := by omega
      have hkj : ∀ j, j < H2.nx → ((H3.up 2).put e (.map 3 ne (iF E))).get j = H2.get j := fun j hj => by
        by_cases q : j = e
        · subst q; rw [put_get, jk j hen, hE]
        · rw [AH.get_put_ne q, up_get]; exact yk j hj q
      have hD : ∀ (x : Sp) (a : Arc), Dn m I s 0 x a ↔ a ∈ m.arcs ∧ a.fr = x.1 ∧ Vs m I x := fun x a => by
        unfold Dn
        constructor
        · rintro ⟨h1, h2, h3, _⟩; exact ⟨h1, h2, h3⟩
        · rintro ⟨h1, h2, h3⟩; exact ⟨h1, h2, h3, .inl (by have := h3.2.1; omega)⟩
      have hb0 : BkAt (Em 0) ((H3.up 2).put e (.map 3 ne (iF E))) H.nx p.n1 p.bk p.r1 := (BkAt.weak jp.b).same (by simp only [put_nx, up_nx]; omega) (hkj _ (by omega)) fun q hq => hkj _ (hrl q hq)
      have hl0 : BkAt (Em 0) ((H3.up 2).put e (.map 3 ne (iF E))) (H.nx + 2) p.n2 p.ld p.r2 := (BkAt.weak jp.l).same (by simp only [put_nx, up_nx]; omega) (hkj _ (by omega)) fun q hq => hkj _ (hrl2 q hq)
      have hlb := jp.lb
      have hll := jp.ll
      refine prep_L9 (H := H) (H1 := (H3.up 2).put e (.map 3 ne (iF E))) (N0 := H2.nx) (o := o) (e := e) (A0 := S.map fun s => (s, I.length)) (c0 := S.length) (f0 := H2.nx) (m := m) (I := I) (bk := p.bk) (ld := p.ld) hm hI hlong hb0 hl0 hrl hrl2 (by omega) (by omega) (by omega) (by omega) (by omega) (fun x hx q => ?_) (fun x hx q => ?_) (fun x => by have := hlb x; omega) (fun x => by have := hll x; omega) ⟨by rw [hkj o (by omega)]; exact ho2⟩ (Nat.le_refl _) (by simp only [put_nx, up_nx]; omega) (by rw [AH.get_put_ne (by omega), up_get]; exact yg) (by omega) (fun q => ?_) (.st (Gst.unstamp (by rw [up_get]; exact ye)) (Nat.le_refl _)) ?_
      · rw [jp.mb]
        unfold bst qst
        constructor
        · rintro ⟨a, h1, h2, h3⟩; exact ⟨a, ((hD q a).1 h1).1, ((hD q a).1 h1).2.1, h2, h3⟩
        · rintro ⟨a, h1, h2, h3, h4⟩; exact ⟨a, (hD q a).2 ⟨h1, h2, rd_vs hm h1 h2 h3 hx⟩, h3, h4⟩
      · rw [jp.ml]
        unfold bld lst
        constructor
        · rintro ⟨a, h1, h2, h3⟩; exact ⟨a.out, a, ((hD q a).1 h1).1, ((hD q a).1 h1).2.1, h2, rfl, h3⟩
        · rintro ⟨c, a, h1, h2, h3, h4, h5⟩; exact ⟨a, (hD q a).2 ⟨h1, h2, rd_vs hm h1 h2 h3 hx⟩, h3, by rw [h4]; exact h5⟩
      · rw [List.mem_map]
        show _ ↔ endS m I q
        unfold endS
        constructor
        · rintro ⟨s, h1, rfl⟩
          obtain ⟨f, hf, rfl⟩ := (hEm s).1 (ysE s h1)
          exact ⟨f, hf, rfl⟩
        · rintro ⟨f, hf, rfl⟩
          exact ⟨f.st, hSA _ ((hEm _).2 ⟨f, hf, rfl⟩), rfl⟩
      · intro H5 lv ds n5 k5 o5 l5 d5
        simp only [put_nx, up_nx] at n5
        refine rt_refl ⟨rfl, by omega, fun j h1 h2 => ?_, lv, ds, o5, ?_, d5⟩ (by omega)
        · rw [k5 j (by omega) h2, hkj j (by omega)]; exact jk j h1
        · obtain ⟨r, h1, h2, h3⟩ := l5
          exact ⟨r, h1, fun h => ⟨by have := (h2 h).1; omega, (h2 h).2⟩, fun i d hd => ⟨by have := (h3 i d hd).1; omega, (h3 i d hd).2⟩⟩
    · obtain ⟨s, hsm, rfl, rfl⟩ := iF_some hfx
      have hsS : s ∉ S := fun h => hnv (List.mem_map.2 ⟨s, h, rfl⟩)
      have hks := hEk s hsm
      have hkne : e ≠ H2.nx + 2 + 4 := by omega
      have hsk := hkS s hsm
      simp (disch := first | omega | simp)
      refine nd_ent (x := .int .i64 s) (v := iv 1) (by rw [up_get, put_get]) (by rw [up_get, AH.get_put_ne hkne]; exact ye) lawInt (iF_in hsm) hks ?_
      have ho3 : H3.get o = some (.box 85 [.dsl 1 (fromE m), .dsl 1 (nE I), .mp e, .p (.slice none 0 0)]) := by rw [yk o (by omega) hoe]; exact ho2
      have hil : ((nE I).length : Int) = (I.length : Int) := by simp [nE]
      rw [show avOfV (.int .i64 s) = .p (.int .i64 s) from rfl]
      have hval : vals [AV.p (Value.int .i64 s), AV.p (Value.int .i64 (I.length : Int))] = some [Value.int .i64 s, Value.int .i64 (I.length : Int)] := rfl
      have hsk2 : (keyOf Try.prog 91 (.agg #[.int .i64 s, .int .i64 (I.length : Int)])).isSome = true := hsk
      simp (disch := first | omega | simp) [put_get_ne, ho3, yg, lawSp, hval, hsk2]
      have hpe : putA (sF (S.map fun s => (s, I.length))) (.agg #[.int .i64 s, .int .i64 (I.length : Int)]) (.p (.int .i64 1)) = sF ((S ++ [s]).map fun s => (s, I.length)) := by
        rw [List.map_append]; exact sF_snoc _ (s, I.length)
      rw [hpe]
      refine ⟨by omega, ?_⟩
      have hnd2 : (S ++ [s]).Nodup := List.nodup_append.2 ⟨ynd, by simp, fun a ha b hb => by simp at hb; subst hb; exact fun q => hsS (q ▸ ha)⟩
      have hsE2 : ∀ x ∈ S ++ [s], x ∈ E := fun x hx => by
        rcases List.mem_append.1 hx with hx | hx
        · exact ysE x hx
        · rcases List.mem_singleton.1 hx with rfl; exact hsm
      refine hk3 (S ++ [s]) _ _ _ (.refl (by simp only [put_nx, up_nx]; omega)) ⟨by simp only [put_nx, up_nx]; omega, fun j h1 h2 => ?_, ?_, ?_, hnd2, hsE2, ?_⟩ ?_
      · rw [AH.get_put_ne (by omega), up_get, up_get, AH.get_put_ne (by omega), up_get]; exact yk j h1 h2
      · rw [AH.get_put_ne (by omega), up_get, up_get, AH.get_put_ne hkne, up_get]; exact ye
      · rw [AH.get_put_ne (by omega), up_get, up_get, put_get, List.map_append]; rfl
      · rw [put_get, List.length_append]; rfl
      · have := nodup_le hnd2 hsE2
        rw [List.length_append] at this ⊢
        simp only [List.length_singleton] at this ⊢
        omega)
end Go.Proofs.Ytgkkilbeingleaa

/- Outs, the walk: what comes next, by symbols. -/
namespace Go.Proofs.Ytgkkilbeingleaa
open Go.RowKit Go.Maps
/-- a map from symbols to sets of spots, as it lies -/
structure NxAt (B : Nat) (H : AH) (g n : Nat) (Nc : Int → List Sp) (gid : Int → Nat) : Prop where
  map : ∃ f, H.get g = some (.map 3 n f) ∧ (∀ c, Nc c = [] → f (.int .i64 c) = none) ∧ ∀ c, Nc c ≠ [] → f (.int .i64 c) = some (.mp (gid c))
  sub : ∀ c, Nc c ≠ [] → B ≤ gid c ∧ gid c < H.nx ∧ H.get (gid c) = some (.map 91 (Nc c).length (sF (Nc c)))
  inj : ∀ c d, Nc c ≠ [] → Nc d ≠ [] → gid c = gid d → c = d
theorem NxAt.ne {B : Nat} {H : AH} {g n : Nat} {Nc : Int → List Sp} {gid : Int → Nat} (h : NxAt B H g n Nc gid) {c : Int} (hc : Nc c ≠ []) : gid c ≠ g := fun e => by
  obtain ⟨f, h1, _⟩ := h.map
  have h2 := (h.sub c hc).2.2
  rw [e, h1] at h2
  injection h2 with h2; injection h2 with h2; exact absurd h2 (by decide)
theorem NxAt.same {B : Nat} {H H' : AH} {g n : Nat} {Nc : Int → List Sp} {gid : Int → Nat} (h : NxAt B H g n Nc gid) (hg : g < H.nx) (hn : H.nx ≤ H'.nx) (hk : ∀ j, B ≤ j ∨ j = g → j < H.nx → H'.get j = H.get j) : NxAt B H' g n Nc gid :=
  ⟨by obtain ⟨f, h1, h2⟩ := h.map; exact ⟨f, by rw [hk g (.inr rfl) hg]; exact h1, h2⟩, fun c hc => by
    obtain ⟨h1, h2, h3⟩ := h.sub c hc
    exact ⟨h1, by omega, by rw [hk _ (.inl h1) h2]; exact h3⟩, h.inj⟩
open Classical in
noncomputable def nxPut (Nc : Int → List Sp) (c : Int) (q : Sp) : Int → List Sp := fun x => if x = c then Nc c ++ [q] else Nc x
open Classical in
noncomputable def gidPut (gid : Int → Nat) (c : Int) (r : Nat) : Int → Nat := fun x => if x = c then r else gid x
theorem nxPut_ne {Nc : Int → List Sp} {c x : Int} {q : Sp} (h : x ≠ c) : nxPut Nc c q x = Nc x := by unfold nxPut; rw [if_neg h]
theorem nxPut_self (Nc : Int → List Sp) (c : Int) (q : Sp) : nxPut Nc c q c = Nc c ++ [q] := by unfold nxPut; rw [if_pos rfl]
theorem gidPut_ne {gid : Int → Nat} {c x : Int} {r : Nat} (h : x ≠ c) : gidPut gid c r x = gid x := by unfold gidPut; rw [if_neg h]
theorem gidPut_self (gid : Int → Nat) (c : Int) (r : Nat) : gidPut gid c r c = r := by unfold gidPut; rw [if_pos rfl]
theorem nxPut_mem {Nc : Int → List Sp} {c x : Int} {q y : Sp} : y ∈ nxPut Nc c q x ↔ y ∈ Nc x ∨ (x = c ∧ y = q) := by
  by_cases h : x = c
  · subst h; rw [nxPut_self, List.mem_append, List.mem_singleton]; simp
  · rw [nxPut_ne h]; simp [h]
theorem nxPut_len (Nc : Int → List Sp) (c x : Int) (q : Sp) : (nxPut Nc c q x).length ≤ (Nc x).length + 1 := by
  by_cases h : x = c
  · subst h; rw [nxPut_self, List.length_append]; exact Nat.le_refl _
  · rw [nxPut_ne h]; exact Nat.le_succ _
theorem NxAt.more {B : Nat} {H H' : AH} {g n : Nat} {Nc : Int → List Sp} {gid : Int → Nat} (h : NxAt B H g n Nc gid) {c : Int} {q : Sp} (hc : Nc c ≠ []) (hg : g < H.nx) (hn : H.nx ≤ H'.nx) (hr : H'.get (gid c) = some (.map 91 ((Nc c).length + 1) (sF (Nc c ++ [q])))) (hk : ∀ j, j < H.nx → j ≠ gid c → H'.get j = H.get j) : NxAt B H' g n (nxPut Nc c q) gid := by
  have hgc := h.ne hc
  refine ⟨?_, fun x hx => ?_, fun x y hx hy e => ?_⟩
  · obtain ⟨f, h1, h2, h3⟩ := h.map
    refine ⟨f, by rw [hk g hg hgc.symm]; exact h1, fun x hx => ?_, fun x hx => ?_⟩
    · by_cases e : x = c
      · subst e; rw [nxPut_self] at hx; simp at hx
      · rw [nxPut_ne e] at hx; exact h2 x hx
    · by_cases e : x = c
      · subst e; exact h3 x hc
      · rw [nxPut_ne e] at hx; exact h3 x hx
  · by_cases e : x = c
    · subst e
      obtain ⟨h1, h2, h3⟩ := h.sub x hc
      exact ⟨h1, by omega, by rw [hr, nxPut_self, List.length_append]; rfl⟩
    · rw [nxPut_ne e] at hx ⊢
      obtain ⟨h1, h2, h3⟩ := h.sub x hx
      exact ⟨h1, by omega, by rw [hk _ h2 fun q => e (h.inj x c hx hc q)]; exact h3⟩
  · have key : ∀ z, nxPut Nc c q z ≠ [] → Nc z ≠ [] := fun z hz => by
      by_cases e : z = c
      · subst e; exact hc
      · rw [nxPut_ne e] at hz; exact hz
    exact h.inj x y (key x hx) (key y hy) e
theorem NxAt.first {B : Nat} {H H' : AH} {g n r : Nat} {Nc : Int → List Sp} {gid : Int → Nat} (h : NxAt B H g n Nc gid) {c : Int} {q : Sp} (hc : Nc c = []) (hrB : B ≤ r) (hr0 : H.nx ≤ r) (hrn : r < H'.nx) (_hn : H.nx ≤ H'.nx) (hg : ∀ f, H.get g = some (.map 3 n f) → H'.get g = some (.map 3 (n + 1) (putA f (.int .i64 c) (.mp r)))) (hr : H'.get r = some (.map 91 1 (sF [q]))) (hk : ∀ j, j < H.nx → j ≠ g → H'.get j = H.get j) : NxAt B H' g (n + 1) (nxPut Nc c q) (gidPut gid c r) := by
  refine ⟨?_, fun x hx => ?_, fun x y hx hy e => ?_⟩
  · obtain ⟨f, h1, h2, h3⟩ := h.map
    refine ⟨_, hg f h1, fun x hx => ?_, fun x hx => ?_⟩
    · by_cases e : x = c
      · subst e; rw [nxPut_self] at hx; simp at hx
      · rw [nxPut_ne e] at hx
        rw [putA_other _ _ (fun q => e (by injection q))]; exact h2 x hx
    · by_cases e : x = c
      · subst e; rw [putA_same, gidPut_self]
      · rw [nxPut_ne e] at hx
        rw [putA_other _ _ (fun q => e (by injection q)), gidPut_ne e]; exact h3 x hx
  · by_cases e : x = c
    · subst e
      rw [gidPut_self, nxPut_self, hc]
      exact ⟨hrB, hrn, hr⟩
    · rw [nxPut_ne e] at hx ⊢
      rw [gidPut_ne e]
      obtain ⟨h1, h2, h3⟩ := h.sub x hx
      exact ⟨h1, by omega, by rw [hk _ h2 (h.ne hx)]; exact h3⟩
  · by_cases e1 : x = c
    · by_cases e2 : y = c
      · rw [e1, e2]
      · rw [nxPut_ne e2] at hy
        rw [e1, gidPut_self, gidPut_ne e2] at e
        have := (h.sub y hy).2.1
        omega
    · rw [nxPut_ne e1] at hx
      by_cases e2 : y = c
      · rw [e2, gidPut_self, gidPut_ne e1] at e
        have := (h.sub x hx).2.1
        omega
      · rw [nxPut_ne e2] at hy
        rw [gidPut_ne e1, gidPut_ne e2] at e
        exact h.inj x y hx hy e
structure NxS where
  Nc : Int → List Sp
  gid : Int → Nat
  n : Nat
structure NI (m : Mac) (I : List Int) (lf : Nat) (H : AH) (B g c : Nat) (D : Sp → Arc → Prop) (p : NxS) : Prop where
  at_ : NxAt B H g p.n p.Nc p.gid
  mem : ∀ z q, q ∈ p.Nc z ↔ ∃ x a, D x a ∧ rdS I x a = some q ∧ a.out = z ∧ z ≠ 0 ∧ leftP m I lf q
  cn : p.n ≤ c
  ln : ∀ z, (p.Nc z).length ≤ c
theorem NI.same {m : Mac} {I : List Int} {lf : Nat} {H H' : AH} {B g c : Nat} {D : Sp → Arc → Prop} {p : NxS} (h : NI m I lf H B g c D p) (hg : g < H.nx) (hn : H.nx ≤ H'.nx) (hk : ∀ j, B ≤ j ∨ j = g → j < H.nx → H'.get j = H.get j) : NI m I lf H' B g c D p := ⟨h.at_.same hg hn hk, h.mem, h.cn, h.ln⟩
theorem NI.to {m : Mac} {I : List Int} {lf : Nat} {H : AH} {B g c c' : Nat} {D D' : Sp → Arc → Prop} {p : NxS} (h : NI m I lf H B g c D p) (hc : c ≤ c') (hD : ∀ x a, D x a ↔ D' x a) : NI m I lf H B g c' D' p :=
  ⟨h.at_, fun z q => by rw [h.mem]; simp only [hD], by have := h.cn; omega, fun z => by have := h.ln z; omega⟩
theorem NI.skip {m : Mac} {I : List Int} {lf : Nat} {H : AH} {B g c : Nat} {D D' : Sp → Arc → Prop} {p : NxS} (h : NI m I lf H B g c D p) {y : Sp} {b : Arc} (hs : ∀ q, rdS I y b = some q → b.out ≠ 0 → leftP m I lf q → False) (hD : ∀ x a, D' x a ↔ D x a ∨ (x = y ∧ a = b)) : NI m I lf H B g (c + 1) D' p :=
  ⟨h.at_, fun z q => by
    rw [h.mem]
    constructor
    · rintro ⟨x, a, h1, h2⟩; exact ⟨x, a, (hD x a).2 (.inl h1), h2⟩
    · rintro ⟨x, a, h1, h2, h3, h4, h5⟩
      rcases (hD x a).1 h1 with h1 | ⟨rfl, rfl⟩
      · exact ⟨x, a, h1, h2, h3, h4, h5⟩
      · exact (hs q h2 (by rw [h3]; exact h4) h5).elim, by have := h.cn; omega, fun z => by have := h.ln z; omega⟩
theorem NI.put {m : Mac} {I : List Int} {lf : Nat} {H H' : AH} {B g c : Nat} {D D' : Sp → Arc → Prop} {p : NxS} (h : NI m I lf H B g c D p) {y q : Sp} {b : Arc} (hr : rdS I y b = some q) (ho : b.out ≠ 0) (hl : leftP m I lf q) (hD : ∀ x a, D' x a ↔ D x a ∨ (x = y ∧ a = b)) {n' : Nat} (hn' : n' ≤ p.n + 1) {gid' : Int → Nat} (ha : NxAt B H' g n' (nxPut p.Nc b.out q) gid') : NI m I lf H' B g (c + 1) D' ⟨nxPut p.Nc b.out q, gid', n'⟩ :=
  ⟨ha, fun z w => by
    dsimp only
    rw [nxPut_mem, h.mem]
    constructor
    · rintro (⟨x, a, h1, h2⟩ | ⟨rfl, rfl⟩)
      · exact ⟨x, a, (hD x a).2 (.inl h1), h2⟩
      · exact ⟨y, b, (hD y b).2 (.inr ⟨rfl, rfl⟩), hr, rfl, ho, hl⟩
    · rintro ⟨x, a, h1, h2, h3, h4, h5⟩
      rcases (hD x a).1 h1 with h1 | ⟨rfl, rfl⟩
      · exact .inl ⟨x, a, h1, h2, h3, h4, h5⟩
      · rw [hr] at h2; injection h2 with h2; exact .inr ⟨h3.symm, h2.symm⟩, by have := h.cn; dsimp only; omega, fun z => by have := h.ln z; have := nxPut_len p.Nc b.out z q; dsimp only; omega⟩
/-- what the walk reads, in a memory that holds still -/
structure WkAt (H : AH) (N0 ob o e n1 dn : Nat) (m : Mac) (I : List Int) : Prop where
  b : ∃ tt, H.get ob = some (.box tt [.ptr o 0])
  r : ∃ r c B ds, OutAt H o m I e (.osl r 1 0 ds.length) ∧ H.get r = some (.row 87 1 ds) ∧ ds[n1]? = some [.mp dn] ∧ H.get dn = some (.map 91 c (sF B)) ∧ ∀ q, q ∈ B ↔ leftP m I n1 q
set_option maxHeartbeats 2000000 in
theorem walk_L3 {H0 H1 : AH} {N0 ob o e n1 dn g c pb : Nat} {m : Mac} {I : List Int} {D : Sp → Arc → Prop} {p : NxS} {L : List Arc} {s : Sp} {k : List AV → AH → Prop}
    (hm : m.Ok) (hI : I.length ≤ 60) (hn1 : n1 ≤ 100) (hw0 : WF H0) (hK : WkAt H0 N0 ob o e n1 dn m I) (hp : NI m I n1 H1 H0.nx g c D p) (hg : H0.nx ≤ g) (hgn : g < H1.nx) (hc : c + L.length ≤ 900000000)
    (hpb : H1.get pb = some (.box 91 (spA s))) (hpn : pb < H1.nx) (hpN : H0.nx ≤ pb) (hv : Vs m I s) (hL : ∀ a ∈ L, a ∈ m.arcs) (hLl : L.length ≤ 1000000) (_hn : H0.nx ≤ H1.nx) (hKp : ∀ j, j < H0.nx → H1.get j = H0.get j)
    (hkk : ∀ p' H2, H1.nx ≤ H2.nx → (∀ j, j < H0.nx → H2.get j = H0.get j) → (∀ j, H0.nx ≤ j → j < H1.nx → j ≠ g → (∀ z, p.Nc z ≠ [] → j ≠ p.gid z) → H2.get j = H1.get j) → NI m I n1 H2 H0.nx g (c + L.length) (fun x a => D x a ∨ (x = s ∧ a ∈ L)) p' → k [] H2) :
    LoopA Try.prog 1 (S_machine_Outs_fn1_L3 (iv ((n1 + 1 : Nat) : Int)) (.ptr ob 0) (.mp g) k (.ptr pb 0) (.dsl 5 (L.map Arc.cs)) (iv (L.length : Int))) [.p (.int .i64 0)] H1 := by
  have hml : maxLen = 9223372036854775807 := by decide
  refine loop_wf (fun x : NxS × Nat => [iv (x.2 : Int)]) (fun x H' => H1.nx ≤ H'.nx ∧ (∀ j, j < H0.nx → H'.get j = H0.get j) ∧ (∀ j, H0.nx ≤ j → j < H1.nx → j ≠ g → (∀ z, p.Nc z ≠ [] → j ≠ p.gid z) → H'.get j = H1.get j) ∧ (∀ z, x.1.Nc z ≠ [] → x.1.gid z < H1.nx → p.Nc z ≠ [] ∧ x.1.gid z = p.gid z) ∧ NI m I n1 H' H0.nx g (c + x.2) (fun y a => D y a ∨ (y = s ∧ a ∈ L.take x.2)) x.1 ∧ x.2 ≤ L.length) (fun x => L.length - x.2) (p, 0) (.refl (Nat.le_refl _)) ⟨Nat.le_refl _, hKp, fun _ _ _ _ _ => rfl, fun z hz _ => ⟨hz, rfl⟩, hp.to (Nat.le_refl _) fun x a => by simp, Nat.zero_le _⟩ ?_
  rintro ⟨p1, x⟩ H2 hn2 hw2 ⟨jn, jk, jf, jg, jp, jx⟩ k2 hk2
  dsimp only at jg jp jx hk2 ⊢
  have hiv := ivn (i := x) (by omega)
  obtain ⟨⟨tt, hob⟩, rr, cl, B, ds, hoa, hrow, hdn, hdg, hdB⟩ := hK
  have hob2 : H2.get ob = some (.box tt [.ptr o 0]) := by rw [jk ob (hw0 _ _ hob).1]; exact hob
  have ho2 : H2.get o = some (.box 85 [.dsl 1 (fromE m), .dsl 1 (nE I), .mp e, .osl rr 1 0 ds.length]) := by rw [jk o (hw0 _ _ hoa.box).1]; exact hoa.box
  have hr2 : H2.get rr = some (.row 87 1 ds) := by rw [jk rr (hw0 _ _ hrow).1]; exact hrow
  have hd2 : H2.get dn = some (.map 91 cl (sF B)) := by rw [jk dn (hw0 _ _ hdg).1]; exact hdg
  have hobn := (hw0 _ _ hob).1
  have hoan := (hw0 _ _ hoa.box).1
  have hron := (hw0 _ _ hrow).1
  have hdnn := (hw0 _ _ hdg).1
  have hpbg : pb ≠ g ∧ ∀ z, p.Nc z ≠ [] → pb ≠ p.gid z := by
    refine ⟨fun q => ?_, fun z hz q => ?_⟩
    · obtain ⟨f, h1, _⟩ := hp.at_.map
      rw [← q, hpb] at h1; cases h1
    · have h1 := (hp.at_.sub z hz).2.2
      rw [← q, hpb] at h1; cases h1
  have hpb2 : H2.get pb = some (.box 91 (spA s)) := by rw [jf pb hpN hpn hpbg.1 hpbg.2]; exact hpb
  unfold S_machine_Outs_fn1_L3
  by_cases hxl : x < L.length
  · obtain ⟨a, ha⟩ : ∃ a, L[x]? = some a := ⟨_, List.getElem?_eq_getElem hxl⟩
    have hag : ∀ h, L[x]'h = a := fun h => (List.getElem?_eq_some_iff.1 ha).2
    have ham := hL a (List.mem_of_getElem? ha)
    have hxi : (x : Int) < (L.length : Int) := by omega
    have htk : L.take (x + 1) = L.take x ++ [a] := by rw [List.take_add_one, ha]; rfl
    have hal : a.cs.length = 5 := rfl
    have hat : a.cs.take 5 = a.cs := rfl
    have hD : ∀ y b, (D y b ∨ (y = s ∧ b ∈ L.take (x + 1))) ↔ (D y b ∨ (y = s ∧ b ∈ L.take x)) ∨ (y = s ∧ b = a) := fun y b => by
      rw [htk, List.mem_append, List.mem_singleton]
      constructor
      · rintro (h | ⟨h1, h2 | h2⟩)
        · exact .inl (.inl h)
        · exact .inl (.inr ⟨h1, h2⟩)
        · exact .inr ⟨h1, h2⟩
      · rintro ((h | ⟨h1, h2⟩) | ⟨h1, h2⟩)
        · exact .inl h
        · exact .inr ⟨h1, .inl h2⟩
        · exact .inr ⟨h1, .inr h2⟩
    unfold S_machine_Outs_fn1_C2
    simp (disch := first | omega | simp) [iv, hxi, hag, put_get_ne, hpb2, hob2, spA_len, spA_take, hal, hat]
    generalize hP : AH.up _ 10 = P
    have hPn : P.nx = H2.nx + 14 := by rw [← hP]; rfl
    have hPa : P.get (H2.nx + 2) = some (.box 53 a.cs) := by rw [← hP]; simp (disch := first | omega | simp)
    have hPk : ∀ j, j < H2.nx → P.get j = H2.get j := fun j hj => by rw [← hP, up_get, AH.get_put_ne (by omega), AH.get_put_ne (by omega), up_get]
    clear hP
    have hoP : OutAt P o m I e (.osl rr 1 0 ds.length) := ⟨by rw [hPk _ (by omega)]; exact ho2⟩
    have hobP : P.get ob = some (.box tt [.ptr o 0]) := by rw [hPk _ (by omega)]; exact hob2
    have hrP : P.get rr = some (.row 87 1 ds) := by rw [hPk _ (by omega)]; exact hr2
    have hdP : P.get dn = some (.map 91 cl (sF B)) := by rw [hPk _ (by omega)]; exact hd2
    refine ca_of (by kernel_rfl) (c_reads hoP hI s hv.2.2 a) ?_
    rintro _ P ⟨rfl, rfl⟩
    have hoP := hoP.box
    have hPa : P.get (H2.nx + 2) = some (.box 53 [iv a.fr, iv a.to, iv a.inn, iv a.out, iv a.w]) := hPa
    have hskip : ∀ Z : AH, P.nx ≤ Z.nx → (∀ j, j < H2.nx → Z.get j = H2.get j) → (∀ q, rdS I s a = some q → a.out ≠ 0 → leftP m I n1 q → False) → k2 [.p (.int .i64 ((x : Int) + 1))] Z := fun Z z1 z2 z3 =>
      hk2 (p1, x + 1) _ _ Z (.refl (by omega)) ⟨by omega, fun j hj => by rw [z2 j (by omega)]; exact jk j hj, fun j h1 h2 h3 h4 => by rw [z2 j (by omega)]; exact jf j h1 h2 h3 h4, jg, NI.skip (D := fun y b => D y b ∨ (y = s ∧ b ∈ L.take x)) (jp.same (by omega) (by omega) fun j _ h => z2 j h) z3 hD, hxl⟩ (by show L.length - (x + 1) < L.length - x; omega)
    have hn1i := ivn (i := n1) (by omega)
    have hn1w : IntKind.i64.wrap (n1 : Int) = (n1 : Int) := by rw [IntKind.wrap_i64]; omega
    have hdsi : (n1 : Int) < (ds.length : Int) := by have := (List.getElem?_eq_some_iff.1 hdn).1; omega
    have hdsn := (List.getElem?_eq_some_iff.1 hdn).1
    have hdsg : ∀ h, ds[n1]'h = [.mp dn] := fun h => (List.getElem?_eq_some_iff.1 hdn).2
    cases hr : rdS I s a with
    | none =>
      simp (disch := first | omega | simp) [bv, spA_len, hiv]
      refine hskip _ (by simp only [put_nx]; omega) (fun j hj => ?_) (fun q h => by rw [hr] at h; cases h)
      rw [AH.get_put_ne (by omega), AH.get_put_ne (by omega)]; exact hPk j hj
    | some q =>
      have hvq := vs_step hm ham hr hv
      have hkq := hvq.key hm hI
      by_cases ho0 : a.out = 0
      · simp (disch := first | omega | simp) [bv, iv, put_get_ne, spA_len, hiv, hPa, ho0]
        refine hskip _ (by simp only [put_nx]; omega) (fun j hj => ?_) (fun q _ h => absurd ho0 h)
        rw [AH.get_put_ne (by omega), AH.get_put_ne (by omega)]; exact hPk j hj
      · by_cases hqB : q ∈ B
        · have hsf := sF_in hqB
          simp (disch := first | omega | simp) [bv, iv, put_get_ne, spA_len, spA_take, hPa, ho0, hobP, hoP, hrP, hdP, hn1w, hdsi, hdsg, lawSp, vals_sp, hkq, hsf]
          generalize hZ : AH.put _ (H2.nx + 4 + 7) _ = Z
          have hZk : ∀ j, j < H2.nx → Z.get j = H2.get j := fun j hj => by rw [← hZ, AH.get_put_ne (by omega), AH.get_put_ne (by omega)]; exact hPk j hj
          have hZa : Z.get (H2.nx + 2) = some (.box 53 [iv a.fr, iv a.to, iv a.inn, iv a.out, iv a.w]) := by rw [← hZ, AH.get_put_ne (by omega), AH.get_put_ne (by omega)]; exact hPa
          have hZq : Z.get (H2.nx + 4 + 7) = some (.box 91 (spA q)) := by rw [← hZ, put_get]
          have hZn : Z.nx = H2.nx + 14 := by rw [← hZ]; simp only [put_nx]; omega
          clear hZ
          have hpZ := jp.same (by omega) (by omega : H2.nx ≤ Z.nx) fun j _ h => hZk j h
          obtain ⟨f, hf, hf0, hf1⟩ := hpZ.at_.map
          have hko : (keyOf Try.prog 3 (.int .i64 a.out)).isSome = true := keyInt (by have := (hm.2.2.2.2.1 a ham).2.2.2.2.2.2; unfold I64; omega)
          have hmu : ∃ u e, Try.prog.underlying 87 = some (.map u e) := ⟨91, 3, by kernel_rfl⟩
          have hl1 : leftP m I n1 q := (hdB q).1 hqB
          have hcn := jp.cn
          have hln := jp.ln a.out
          unfold S_machine_Outs_fn1_C1
          by_cases hz : p1.Nc a.out = []
          · have hfz := hf0 _ hz
            simp (disch := first | omega | simp) [iv, put_get_ne, hZa, hf, hfz, lawInt, hko, hZq, spA_len, spA_take, lawSp, vals_sp, hkq, hiv, putA_same]
            rw [← sF_nil, show putA (sF []) (spv q) (.p (.int .i64 1)) = sF [q] from sF_snoc [] q]
            refine ⟨by omega, by omega, ?_⟩
            have hfirst := jp.at_.first (q := q) hz (r := Z.nx + 3) (H' := ((((Z.up 5).put (Z.nx + 3) (.map 91 0 (sF []))).put g (.map 3 (p1.n + 1) (putA f (.int .i64 a.out) (.mp (Z.nx + 3))))).up 6).put (Z.nx + 3) (.map 91 1 (sF [q]))) (by omega) (by omega) (by simp only [put_nx, up_nx]; omega) (by simp only [put_nx, up_nx]; omega) (fun f2 hf2 => by
              rw [AH.get_put_ne (by omega), up_get, put_get]
              rw [hZk g (by omega)] at hf
              have e : f = f2 := by
                have h3 := hf.symm.trans hf2
                simp only [Option.some.injEq, AO.map.injEq, true_and] at h3
                exact h3
              exact e ▸ rfl) (by rw [put_get]) (fun j h1 h2 => by rw [AH.get_put_ne (by omega), up_get, AH.get_put_ne h2, AH.get_put_ne (by omega), up_get]; exact hZk j h1)
            refine hk2 (⟨nxPut p1.Nc a.out q, gidPut p1.gid a.out (Z.nx + 3), p1.n + 1⟩, x + 1) _ _ _ (.refl (by simp only [put_nx, up_nx]; omega)) ⟨by simp only [put_nx, up_nx]; omega, fun j hj => ?_, fun j h1 h2 h3 h4 => ?_, fun z hz2 hz3 => ?_, NI.put (D := fun y b => D y b ∨ (y = s ∧ b ∈ L.take x)) jp hr ho0 hl1 hD (Nat.le_refl _) hfirst, hxl⟩ (by dsimp only; omega)
            · rw [AH.get_put_ne (by omega), up_get, AH.get_put_ne (by omega), AH.get_put_ne (by omega), up_get, hZk j (by omega)]; exact jk j hj
            · rw [AH.get_put_ne (by omega), up_get, AH.get_put_ne h3, AH.get_put_ne (by omega), up_get, hZk j (by omega)]; exact jf j h1 h2 h3 h4
            · dsimp only at hz2 hz3 ⊢
              by_cases e : z = a.out
              · subst e; rw [gidPut_self] at hz3; omega
              · rw [nxPut_ne e] at hz2; rw [gidPut_ne e] at hz3 ⊢; exact jg _ hz2 hz3
          · have hfz := hf1 _ hz
            obtain ⟨s1, s2, s3⟩ := hpZ.at_.sub _ hz
            simp (disch := first | omega | simp) [iv, hZa, hf, hfz, lawInt, hko, s3, hZq, spA_len, spA_take, lawSp, vals_sp, hkq, hiv]
            rw [show putA (sF (p1.Nc a.out)) (spv q) (.p (.int .i64 1)) = sF (p1.Nc a.out ++ [q]) from sF_snoc _ q]
            refine ⟨by omega, ?_⟩
            have hgg := jp.at_.ne hz
            refine hk2 (⟨nxPut p1.Nc a.out q, p1.gid, p1.n⟩, x + 1) _ _ _ (.refl (by simp only [put_nx, up_nx]; omega)) ⟨by simp only [put_nx, up_nx]; omega, fun j hj => ?_, fun j h1 h2 h3 h4 => ?_, fun z hz2 hz3 => ?_, NI.put (D := fun y b => D y b ∨ (y = s ∧ b ∈ L.take x)) jp hr ho0 hl1 hD (Nat.le_succ _) (jp.at_.more hz (by omega) (by simp only [put_nx, up_nx]; omega) (by rw [put_get]) fun j h1 h2 => by rw [AH.get_put_ne h2, up_get]; exact hZk j h1), hxl⟩ (by dsimp only; omega)
            · rw [AH.get_put_ne (by omega), up_get, hZk j (by omega)]; exact jk j hj
            · rw [AH.get_put_ne ?_, up_get, hZk j (by omega)]
              · exact jf j h1 h2 h3 h4
              · intro e
                obtain ⟨e1, e2⟩ := jg _ hz (by rw [← e]; exact h2)
                exact h4 _ e1 (e.trans e2)
            · dsimp only at hz2 hz3 ⊢
              by_cases e : z = a.out
              · subst e; exact jg _ hz hz3
              · rw [nxPut_ne e] at hz2; exact jg _ hz2 hz3
        · have hsf := sF_out hqB
          simp (disch := first | omega | simp) [bv, iv, put_get_ne, spA_len, spA_take, hiv, hPa, ho0, hobP, hoP, hrP, hdP, hn1w, hdsi, hdsg, lawSp, vals_sp, hkq, hsf]
          refine hskip _ (by simp only [put_nx]; omega) (fun j hj => ?_) (fun y h _ hl => ?_)
          · rw [AH.get_put_ne (by omega), AH.get_put_ne (by omega)]; exact hPk j hj
          · rw [hr] at h; injection h with h; subst h; exact hqB ((hdB _).2 hl)
  · have hxi : ¬ (x : Int) < (L.length : Int) := by omega
    have hxe : x = L.length := by omega
    subst hxe
    rw [List.take_length] at jp
    simp (disch := first | omega | simp) [iv, hxi]
    exact hkk p1 H2 jn jk jf jp
end Go.Proofs.Ytgkkilbeingleaa

/- Outs, the walk: the way, what is told, the range over where one is. -/
namespace Go.Proofs.Ytgkkilbeingleaa
open Go.RowKit Go.Maps
def wE (xs : List Int) : AV := .dsl 1 (nE xs)
def wSs (l : List (List Int)) : List (List AV) := l.map fun s => [wE s]
theorem wSs_app (a b : List (List Int)) : wSs (a ++ b) = wSs a ++ wSs b := List.map_append
theorem wSs_len (l : List (List Int)) : (wSs l).length = l.length := List.length_map _
theorem dt_wSs (l : List (List Int)) : DtR (wSs l) := fun e he a ha => by
  obtain ⟨s, _, rfl⟩ := List.mem_map.1 he
  rcases List.mem_singleton.1 ha with rfl
  exact Dt.dsl _ _
theorem dt_nE (l : List Int) : DtR (nE l) := fun e he a ha => by
  obtain ⟨x, _, rfl⟩ := List.mem_map.1 he
  rcases List.mem_singleton.1 ha with rfl
  exact Dt.p _
/-- a way: nil, or a slice of one's own whose capacity is known -/
def WayAt (H : AH) (a : AV) (l : List Int) : Prop := (a = .p (.slice none 0 0) ∧ l = []) ∨ ∃ r c, a = .osl r 1 0 l.length ∧ H.get r = some (.crow 3 1 c (nE l)) ∧ 0 < l.length ∧ l.length ≤ c
theorem c_CloneW {H : AH} {a : AV} (l : List Int) (hb : l.length ≤ 1000) (ha : WayAt H a l) : Tri Try.prog 51 [a] H (fun v H' => H' = H ∧ v = wE l) := tri_wf fun hw => by
  have hml : maxLen = 9223372036854775807 := by decide
  have hu : ∃ e, Try.prog.underlying 26 = some (.slice e) := ⟨3, by kernel_rfl⟩
  refine tri_slices_Clone_s_int_int ?_
  unfold S_slices_Clone_s_int_int
  rcases ha with ⟨rfl, rfl⟩ | ⟨r, c, rfl, hg, hpos, hlc⟩
  · simp
    exact rt_sub (v' := wE []) hw (.refl _) (Nat.le_refl _) (.nil _ _ (Nat.zero_le _)) (Cl.dsl _ _) ⟨rfl, rfl⟩
  · have hr : r < H.nx := (hw _ _ hg).1
    have hll : (nE l).length = l.length := by simp
    have hdt := dt_nE l
    unfold wE
    generalize nE l = ys at *
    simp (disch := first | omega | simp)
    refine ⟨hpos, ?_⟩
    refine nd_bs0 fun q => ?_
    simp (disch := first | omega | simp) [hg, put_get_ne, hll]
    refine ⟨by omega, by omega, ?_⟩
    rw [List.take_of_length_le (by omega), ← hll]
    refine Grows.rt (t := 3) (.row (by first | omega | (simp only [up_nx, put_nx, kill_nx]; done) | (simp only [up_nx, put_nx, kill_nx]; omega)) (by first | omega | (simp only [up_nx, put_nx]; done) | (simp only [up_nx, put_nx]; omega)) (put_get _ _) hdt rfl) hw (by repeat (first | with_reducible assumption | with_reducible exact AH.le.refl _ | with_reducible apply AH.le.up | (with_reducible refine AH.le.put hw ?_ ?_; · first | omega | (simp only [up_nx, put_nx, kill_nx]; done) | (simp only [up_nx, put_nx, kill_nx]; omega)) | (with_reducible refine AH.le.kill hw ?_ ?_; · first | omega | (simp only [up_nx, put_nx, kill_nx]; done) | (simp only [up_nx, put_nx, kill_nx]; omega)))) (by first | omega | (simp only [up_nx, put_nx]; done) | (simp only [up_nx, put_nx]; omega)) ⟨rfl, rfl⟩
/-- what a step of the walk leaves: out holds more; all else is as it was -/
def LeftM (o : Nat) (u u' : AV) (H H' : AH) : Prop := H.nx ≤ H'.nx ∧ ∀ j w, j < H.nx → H.get j = some w → j ≠ o → (∀ n, u ≠ .osl j 1 0 n) → H'.get j = some w ∧ ∀ n, u' ≠ .osl j 1 0 n
theorem LeftM.trans {o : Nat} {u u1 u2 : AV} {H H1 H2 : AH} (h : LeftM o u u1 H H1) (k : LeftM o u1 u2 H1 H2) : LeftM o u u2 H H2 := ⟨Nat.le_trans h.1 k.1, fun j w hj hg hjo hu => by
  obtain ⟨h1, h2⟩ := h.2 j w hj hg hjo hu
  exact k.2 j w (Nat.lt_of_lt_of_le hj h.1) h1 hjo h2⟩
def OutB (o : Nat) (G H : AH) (u : AV) (acc : List (List Int)) : Prop := H.get o = some (.box 44 [u]) ∧ Grows 26 1 G H u (wSs acc) ∧ o < G.nx
def WlkAt (o b p : Nat) (H : AH) : Prop := ∃ tt, H.get p = some (.box tt [.fn (.func 50) [] [.ptr o 0, .ptr b 0, .ptr p 0]])
theorem way_off {H : AH} {u : AV} {G : AH} {acc : List (List Int)} {r : Nat} {w : AO} (hg : Grows 26 1 G H u (wSs acc)) (hr : H.get r = some w) (hw : ∀ xs, w ≠ .row 26 1 xs) : ∀ n, u ≠ .osl r 1 0 n := fun n hu => by
  rcases hg with ⟨rfl, _⟩ | ⟨q, xs, rfl, _, _, h3, _⟩
  · cases hu
  · injection hu with hu
    subst hu
    rw [h3] at hr; injection hr with hr
    exact hw _ hr.symm
set_option maxHeartbeats 2000000 in
theorem walk_L5 {H M0 : AH} {N0 ob o e n1 dn g it dA : Nat} {st : Value → Nat} {cc : Nat} {m : Mac} {I : List Int} {Bt : List Sp} {a0 a5 : AV} {Q : AV → AH → Prop}
    (hm : m.Ok) (hms : m.arcs.length ≤ 120) (hI : I.length ≤ 60) (hn1 : n1 ≤ 100) (hw : WF H) (hK : WkAt H N0 ob o e n1 dn m I) (hdn : dn ≠ dA) (hA : H.get dA = some (.map 91 Bt.length (sF Bt))) (_hBn : Bt.Nodup) (hBv : ∀ s ∈ Bt, Vs m I s)
    (_hMn : H.nx ≤ M0.nx) (hMk : ∀ j, j < H.nx → j ≠ dA → M0.get j = H.get j) (hMA : M0.get dA = some (.smap 91 Bt.length (sF Bt) st cc)) (hMi : M0.get it = some (.miter dA st cc [])) (hMg : M0.get g = some (.map 3 0 fun _ => none)) (hg : H.nx ≤ g) (hgn : g < M0.nx) (hit : H.nx ≤ it) (hitn : it < M0.nx)
    (hkk : ∀ (p : NxS) (M Hs : AH), GW Try.prog Hs.nx [iv 1] Hs [iv 1] M → M0.nx ≤ M.nx → (∀ j, j < H.nx → M.get j = H.get j) → NxAt H.nx M g p.n p.Nc p.gid → (∀ z q, q ∈ p.Nc z ↔ nx m I (· ∈ Bt) n1 z q) → (∀ z, (p.Nc z).length ≤ 1000000000) → LoopA Try.prog 1 (S_machine_Outs_fn1_L4 a0 (iv ((n1 + 1 : Nat) : Int)) (.ptr ob 0) a5 Q H (.mp g)) [iv 1] Hs) :
    LoopA Try.prog 0 (S_machine_Outs_fn1_L5 a0 (iv ((n1 + 1 : Nat) : Int)) (.ptr ob 0) a5 Q H (.mp g) (.ptr it 0)) [] M0 := by
  have hml : maxLen = 9223372036854775807 := by decide
  have hAn := (hw _ _ hA).1
  have hcl : ClO H.nx (.smap 91 Bt.length (sF Bt) st cc) := fun x a h => by
    obtain ⟨s, _, _, rfl⟩ := sF_some h
    exact Cl.p _
  have hwK : WF (H.put dA (.smap 91 Bt.length (sF Bt) st cc)) := hw.put hAn hcl
  generalize hKe : H.put dA (.smap 91 Bt.length (sF Bt) st cc) = K at hwK
  have hKn : K.nx = H.nx := by rw [← hKe]; rfl
  have hKA : K.get dA = some (.smap 91 Bt.length (sF Bt) st cc) := by rw [← hKe, put_get]
  have hKk : ∀ j, j ≠ dA → K.get j = H.get j := fun j h1 => by rw [← hKe, AH.get_put_ne h1]
  clear hKe
  have hMK : ∀ j, j < K.nx → M0.get j = K.get j := fun j hj => by
    by_cases q : j = dA
    · subst q; rw [hMA, hKA]
    · rw [hKk j q]; exact hMk j (by omega) q
  have hKW : WkAt K N0 ob o e n1 dn m I := by
    obtain ⟨⟨tt, h1⟩, r, c, B, ds, h2, h3, h4, h5, h6⟩ := hK
    have e1 : ob ≠ dA := fun q => by rw [q, hA] at h1; cases h1
    have e2 : o ≠ dA := fun q => by have := h2.box; rw [q, hA] at this; cases this
    have e3 : r ≠ dA := fun q => by rw [q, hA] at h3; cases h3
    exact ⟨⟨tt, by rw [hKk _ e1]; exact h1⟩, r, c, B, ds, ⟨by rw [hKk _ e2]; exact h2.box⟩, by rw [hKk _ e3]; exact h3, h4, by rw [hKk _ hdn]; exact h5, h6⟩
  have hgi : g ≠ it := fun q => by rw [q, hMi] at hMg; cases hMg
  refine loop_wf (fun _ : NxS × List Sp => []) (fun x H' => M0.nx ≤ H'.nx ∧ (∀ j, j < K.nx → H'.get j = K.get j) ∧ H'.get it = some (.miter dA st cc (x.2.map spv)) ∧ x.2.Nodup ∧ (∀ s ∈ x.2, s ∈ Bt) ∧ NI m I n1 H' K.nx g (x.2.length * 120) (fun y a => y ∈ x.2 ∧ a ∈ m.arcs ∧ a.fr = y.1) x.1) (fun x => 1000000 - x.2.length) (⟨fun _ => [], fun _ => 0, 0⟩, []) (.refl (Nat.le_refl _)) ⟨Nat.le_refl _, hMK, hMi, .nil, (fun _ h => by cases h), ⟨⟨⟨_, hMg, fun _ _ => rfl, fun _ h => absurd rfl h⟩, fun _ h => absurd rfl h, fun _ _ h => absurd rfl h⟩, fun z q => ⟨fun h => (List.not_mem_nil h).elim, fun ⟨x, a, h, _⟩ => (List.not_mem_nil h.1).elim⟩, Nat.zero_le _, fun _ => Nat.zero_le _⟩⟩ ?_
  rintro ⟨p, S⟩ H2 hn2 hw2 ⟨jn, jk, ji, jnd, jsB, jp⟩ k3 hk3
  dsimp only at ji jnd jsB jp hk3 ⊢
  have hSl := vs_le hm hI jnd fun s hs => hBv s (jsB s hs)
  have jA : H2.get dA = some (.smap 91 Bt.length (sF Bt) st cc) := by rw [jk _ (by omega)]; exact hKA
  have hKW2 := hKW
  obtain ⟨⟨tt, hob⟩, rr, cl, B, ds, hoa, hrow, hds, hdg, hdB⟩ := hKW2
  have hobn := (hwK _ _ hob).1
  have hoan := (hwK _ _ hoa.box).1
  have hob2 : H2.get ob = some (.box tt [.ptr o 0]) := by rw [jk _ hobn]; exact hob
  have ho2 : H2.get o = some (.box 85 [.dsl 1 (fromE m), .dsl 1 (nE I), .mp e, .osl rr 1 0 ds.length]) := by rw [jk _ hoan]; exact hoa.box
  unfold S_machine_Outs_fn1_L5
  simp (disch := first | omega | simp) []
  refine nd_nxt (vis := S.map spv) (by exact ji) (by exact jA) lawSp (fun x hx => ?_) ?_ (fun hall => ?_) (fun x a hkx hfx hnv hlt => ?_)
  · obtain ⟨s, hs, rfl⟩ := List.mem_map.1 hx
    exact ⟨by rw [sF_in (jsB s hs)]; rfl, (hBv s (jsB s hs)).key hm hI⟩
  · exact List.Pairwise.map spv (fun a b h e => h (spv_inj e)) jnd
  · have hal : ∀ s ∈ Bt, s ∈ S := fun s hs => by
      obtain ⟨q, hq, hqe⟩ := List.mem_map.1 (hall (spv s) ((hBv s hs).key hm hI) (by rw [sF_in hs]; rfl))
      rw [← spv_inj hqe]; exact hq
    simp (disch := first | omega | simp) []
    have hgA : dA ≠ g := by omega
    have hjA : ∀ z, p.Nc z ≠ [] → p.gid z ≠ dA := fun z hz e => by have := (jp.at_.sub z hz).1; omega
    refine hkk p ((H2.up 2).put dA (.map 91 Bt.length (sF Bt))) _ (.st (Gst.unstamp (by rw [up_get]; exact jA)) (Nat.le_refl _)) (by simp only [put_nx, up_nx]; omega) (fun j hj => ?_) (by rw [← hKn]; exact jp.at_.same (by omega) (by simp only [put_nx, up_nx]; omega) fun j hj hj2 => by rw [AH.get_put_ne (by omega), up_get]) (fun z q => ?_) (fun z => by have := jp.ln z; omega)
    · by_cases q : j = dA
      · subst q; rw [put_get, hA]
      · rw [AH.get_put_ne q, up_get, jk j (by omega), hKk j q]
    · rw [jp.mem]
      unfold nx lst
      constructor
      · rintro ⟨x, a, ⟨h1, h2, h3⟩, h4, h5, h6, h7⟩
        exact ⟨x, jsB x h1, ⟨a, h2, h3, h4, h5, h6⟩, h7⟩
      · rintro ⟨x, h1, ⟨a, h2, h3, h4, h5, h6⟩, h7⟩
        exact ⟨x, a, ⟨hal x h1, h2, h3⟩, h4, h5, h6, h7⟩
  · obtain ⟨s, hsm, rfl, rfl⟩ := sF_some hfx
    have hsS : s ∉ S := fun h => hnv (List.mem_map.2 ⟨s, h, rfl⟩)
    have hvs := hBv s hsm
    have hks := hvs.key hm hI
    simp (disch := first | omega | simp)
    refine nd_ent (x := spv s) (v := iv 1) (by rw [up_get, put_get]) (by rw [up_get, AH.get_put_ne (by omega)]; exact jA) lawSp (sF_in hsm) hks ?_
    rw [avSp]
    obtain ⟨s1, s2⟩ := s
    obtain ⟨q1, q2, q3⟩ := hvs
    dsimp only at q1 q2 q3
    obtain ⟨ns, rfl⟩ := Int.eq_ofNat_of_zero_le q1
    have hfr : (fromE m)[ns]? = some [.dsl 5 ((outs m.arcs ns).map Arc.cs)] := oV_get (by omega)
    have hfn := (List.getElem?_eq_some_iff.1 hfr).1
    have hfg : ∀ h, (fromE m)[ns]'h = [.dsl 5 ((outs m.arcs ns).map Arc.cs)] := fun h => (List.getElem?_eq_some_iff.1 hfr).2
    have hoi : o ≠ it := by omega
    have hobi : ob ≠ it := by omega
    simp (disch := first | omega | simp) [put_get_ne, spA_len, hob2, ho2]
    have hsp0 : (spA ((ns : Int), s2))[0]? = some (.p (.int .i64 (ns : Int))) := rfl
    simp (disch := first | omega | simp) [hsp0, hfn, hfg]
    generalize hZ : AH.put _ (H2.nx + 2 + 2) (AO.box _ (spA _)) = Z
    have hZk : ∀ j, j < H2.nx → j ≠ it → Z.get j = H2.get j := fun j h1 h2 => by
      rw [← hZ, AH.get_put_ne (by omega), AH.get_put_ne (by omega), up_get, AH.get_put_ne h2, up_get]
    have hZi : Z.get it = some (.miter dA st cc (S.map spv ++ [spv ((ns : Int), s2)])) := by
      rw [← hZ, AH.get_put_ne (by omega), AH.get_put_ne (by omega), up_get, put_get]
    have hZp : Z.get (H2.nx + 2 + 2) = some (.box 91 (spA ((ns : Int), s2))) := by rw [← hZ, put_get]
    have hZn : Z.nx = H2.nx + 6 := by rw [← hZ]; simp only [put_nx, up_nx]
    clear hZ
    have hji : ∀ z, p.Nc z ≠ [] → it ≠ p.gid z := fun z hz e => by
      have := (jp.at_.sub z hz).2.2
      rw [← e, ji] at this; cases this
    have hpZ : NI m I n1 Z K.nx g (S.length * 120) (fun y a => y ∈ S ∧ a ∈ m.arcs ∧ a.fr = y.1) p := by
      refine ⟨⟨?_, fun z hz => ?_, jp.at_.inj⟩, jp.mem, jp.cn, jp.ln⟩
      · obtain ⟨f, f1, f2⟩ := jp.at_.map
        exact ⟨f, by rw [hZk g (by omega) hgi]; exact f1, f2⟩
      · obtain ⟨f1, f2, f3⟩ := jp.at_.sub z hz
        exact ⟨f1, by omega, by rw [hZk _ f2 (hji z hz).symm]; exact f3⟩
    have hol := outs_le m.arcs ns
    have hnd2 : (S ++ [((ns : Int), s2)]).Nodup := List.nodup_append.2 ⟨jnd, by simp, fun a ha b hb => by simp at hb; subst hb; exact fun q => hsS (q ▸ ha)⟩
    have hsB2 : ∀ x ∈ S ++ [((ns : Int), s2)], x ∈ Bt := fun x hx => by
      rcases List.mem_append.1 hx with hx | hx
      · exact jsB x hx
      · rcases List.mem_singleton.1 hx with rfl; exact hsm
    have hS2 := vs_le hm hI hnd2 fun s hs => hBv s (hsB2 s hs)
    rw [List.length_append, List.length_singleton] at hS2
    refine walk_L3 (H0 := K) (N0 := N0) (o := o) (e := e) (n1 := n1) (dn := dn) (s := ((ns : Int), s2)) (p := p) (c := S.length * 120) (D := fun y a => y ∈ S ∧ a ∈ m.arcs ∧ a.fr = y.1) (L := outs m.arcs ns) hm hI hn1 hwK hKW hpZ (by omega) (by omega) (by omega) hZp (by omega) (by omega) ⟨q1, q2, q3⟩ (fun a ha => (outs_mem.1 ha).1) (by omega) (by omega) (fun j hj => by rw [hZk j (by omega) (by omega)]; exact jk j hj) fun p' H3 m1 m2 m3 m4 => ?_
    refine hk3 (p', S ++ [((ns : Int), s2)]) _ _ _ (.refl (by omega)) ⟨by omega, m2, ?_, hnd2, hsB2, ?_⟩ (by dsimp only; rw [List.length_append, List.length_singleton]; omega)
    · dsimp only
      rw [m3 it (by omega) (by omega) hgi.symm hji, hZi, List.map_append]; rfl
    · dsimp only
      refine m4.to (by rw [List.length_append, List.length_singleton]; omega) fun x a => ?_
      rw [outs_mem, List.mem_append, List.mem_singleton]
      constructor
      · rintro (⟨h1, h2, h3⟩ | ⟨rfl, h2, h3⟩)
        · exact ⟨.inl h1, h2, h3⟩
        · exact ⟨.inr rfl, h2, h3⟩
      · rintro ⟨h1 | rfl, h2, h3⟩
        · exact .inl ⟨h1, h2, h3⟩
        · exact .inr ⟨rfl, h2, h3⟩
end Go.Proofs.Ytgkkilbeingleaa

/- Outs, the walk itself. -/
namespace Go.Proofs.Ytgkkilbeingleaa
open Go.RowKit Go.Maps
open Classical in
noncomputable def wsC (m : Mac) (I : List Int) (n : Nat) (A : Sp → Prop) (c : Int) : List (List Int) := if ∃ q, nx m I A n c q then (ws m I n (cl m I (nx m I A n c))).map (c :: ·) else []
theorem ws_succ (m : Mac) (I : List Int) (n : Nat) (A : Sp → Prop) : ws m I (n + 1) A = syms.flatMap (wsC m I n A) := by rw [ws]; rfl
theorem syms_len : syms.length = 60 := by simp [syms]
theorem syms_get {i : Nat} (h : i < 60) : syms[i]? = some ((i : Int) + 1) := by simp [syms, h]
theorem wsP_succ {f : Int → List (List Int)} {i : Nat} (h : i < 60) : (syms.take (i + 1)).flatMap f = (syms.take i).flatMap f ++ f ((i : Int) + 1) := by
  rw [List.take_add_one, syms_get h, List.flatMap_append]; simp
theorem WkAt.left {H H' G : AH} {N0 ob o e n1 dn ou : Nat} {m : Mac} {I : List Int} {u u' : AV} {acc : List (List Int)} (hw : WF H) (h : WkAt H N0 ob o e n1 dn m I) (ho : OutB ou G H u acc) (hl : LeftM ou u u' H H') : WkAt H' N0 ob o e n1 dn m I := by
  obtain ⟨⟨tt, h1⟩, r, c, B, ds, h2, h3, h4, h5, h6⟩ := h
  have hou := ho.1
  have e1 : ob ≠ ou := fun q => by
    rw [q, hou] at h1
    simp only [Option.some.injEq, AO.box.injEq, List.cons.injEq, and_true] at h1
    have := h1.2
    rcases ho.2.1 with ⟨h, _⟩ | ⟨_, _, h, _⟩ <;> rw [h] at this <;> cases this
  have e2 : o ≠ ou := fun q => by
    have h2 := h2.box
    rw [q, hou] at h2
    simp at h2
  have e3 : r ≠ ou := fun q => by rw [q, hou] at h3; cases h3
  have e4 : dn ≠ ou := fun q => by rw [q, hou] at h5; cases h5
  exact ⟨⟨tt, (hl.2 ob _ (hw _ _ h1).1 h1 e1 (way_off ho.2.1 h1 fun xs => by simp)).1⟩, r, c, B, ds, ⟨(hl.2 o _ (hw _ _ h2.box).1 h2.box e2 (way_off ho.2.1 h2.box fun xs => by simp)).1⟩, (hl.2 r _ (hw _ _ h3).1 h3 e3 (way_off ho.2.1 h3 fun xs => by simp)).1, h4, (hl.2 dn _ (hw _ _ h5).1 h5 e4 (way_off ho.2.1 h5 fun xs => by simp)).1, h6⟩
theorem NxAt.left {B : Nat} {H H' G : AH} {g n ou : Nat} {Nc : Int → List Sp} {gid : Int → Nat} {u u' : AV} {acc : List (List Int)} (hg : g < H.nx) (h : NxAt B H g n Nc gid) (ho : OutB ou G H u acc) (hl : LeftM ou u u' H H') : NxAt B H' g n Nc gid := by
  have hou := ho.1
  refine ⟨?_, fun c hc => ?_, h.inj⟩
  · obtain ⟨f, h1, h2⟩ := h.map
    exact ⟨f, (hl.2 g _ hg h1 (fun q => by rw [q, hou] at h1; cases h1) (way_off ho.2.1 h1 fun xs => by simp)).1, h2⟩
  · obtain ⟨h1, h2, h3⟩ := h.sub c hc
    have := hl.1
    exact ⟨h1, by omega, (hl.2 _ _ h2 h3 (fun q => by rw [q, hou] at h3; cases h3) (way_off ho.2.1 h3 fun xs => by simp)).1⟩
/-- all that lies there lies there still, but for ways -/
def LeC (H X : AH) : Prop := H.nx ≤ X.nx ∧ ∀ j w, j < H.nx → (∀ c es, w ≠ .crow 3 1 c es) → H.get j = some w → X.get j = some w
def LeF (H X : AH) : Prop := H.nx ≤ X.nx ∧ ∀ j w, j < H.nx → H.get j = some w → X.get j = some w
theorem LeF.c {H X : AH} (h : LeF H X) : LeC H X := ⟨h.1, fun j w hj _ hg => h.2 j w hj hg⟩
theorem LeF.le {H X Y : AH} (h : LeF H X) (hl : X.le Y) (hn : X.nx ≤ Y.nx) : LeF H Y := ⟨Nat.le_trans h.1 hn, fun j w hj hg => hl _ _ (h.2 j w hj hg)⟩
theorem LeC.le {H X Y : AH} (h : LeC H X) (hl : X.le Y) (hn : X.nx ≤ Y.nx) : LeC H Y := ⟨Nat.le_trans h.1 hn, fun j w hj hw hg => hl _ _ (h.2 j w hj hw hg)⟩
theorem WkAt.up {H X : AH} {N0 ob o e n1 dn : Nat} {m : Mac} {I : List Int} (hw : WF H) (h : WkAt H N0 ob o e n1 dn m I) (hl : LeC H X) : WkAt X N0 ob o e n1 dn m I := by
  obtain ⟨⟨tt, h1⟩, r, c, B, ds, h2, h3, h4, h5, h6⟩ := h
  exact ⟨⟨tt, hl.2 ob _ (hw _ _ h1).1 (fun _ _ => by simp) h1⟩, r, c, B, ds, ⟨hl.2 o _ (hw _ _ h2.box).1 (fun _ _ => by simp) h2.box⟩, hl.2 r _ (hw _ _ h3).1 (fun _ _ => by simp) h3, h4, hl.2 dn _ (hw _ _ h5).1 (fun _ _ => by simp) h5, h6⟩
theorem OutB.up {H X G : AH} {ou : Nat} {u : AV} {acc : List (List Int)} (hw : WF H) (h : OutB ou G H u acc) (hl : LeC H X) : OutB ou G X u acc := by
  obtain ⟨h1, h2, h3⟩ := h
  refine ⟨hl.2 ou _ (hw _ _ h1).1 (fun _ _ => by simp) h1, ?_, h3⟩
  rcases h2 with h2 | ⟨r, xs, k1, k2, k3, k4, k5, k6⟩
  · exact .inl h2
  · exact .inr ⟨r, xs, k1, k2, by have := hl.1; omega, hl.2 r _ k3 (fun _ _ => by simp) k4, k5, k6⟩
/-- what the walk answers -/
def WalkQ (ou : Nat) (G H : AH) (u : AV) (acc W : List (List Int)) (r : AV) (H' : AH) : Prop :=
  r = bv (decide (acc.length + W.length ≤ 500)) ∧ ∃ u', LeftM ou u u' H H' ∧ (acc.length + W.length ≤ 500 → OutB ou G H' u' (acc ++ W))
set_option maxHeartbeats 4000000 in
theorem c_walkM {m : Mac} {I : List Int} (hm : m.Ok) (hms : m.arcs.length ≤ 120) (hI : I.length ≤ 60) (ou ob wp o e N0 : Nat) (G : AH) : ∀ n : Nat, n ≤ 8 → ∀ (l : List Int) (way : AV), l.length + n ≤ 100 → ∀ acc : List (List Int), acc.length ≤ 500 → ∀ (H : AH) (u : AV) (dA : Nat) (Bt : List Sp), G.nx ≤ H.nx → WayAt H way l → WlkAt ou ob wp H → OutB ou G H u acc → (∀ k, k < n → ∃ dn, dn ≠ dA ∧ WkAt H N0 ob o e k dn m I) → H.get dA = some (.map 91 Bt.length (sF Bt)) → Bt.Nodup → (∀ s ∈ Bt, Vs m I s) →
    Tri Try.prog 50 [way, .mp dA, iv (n : Int), .ptr ou 0, .ptr ob 0, .ptr wp 0] H (WalkQ ou G H u acc ((ws m I n (· ∈ Bt)).map (l ++ ·))) := by
  intro n
  induction n with
  | zero =>
    intro _ l way hln acc hacc H u dA Bt hG hway hwk hout hks hA hBn hBv
    refine tri_wf fun hw => tri_machine_Outs_fn1 ?_
    have hml : maxLen = 9223372036854775807 := by decide
    obtain ⟨ho, hgr, hoG⟩ := hout
    have hon := (hw _ _ ho).1
    unfold S_machine_Outs_fn1
    simp (disch := first | omega | simp) [iv, ho]
    refine cav_pure (by kernel_rfl) (fun H2 hle2 => c_CloneW l (by omega) (hway.imp_right fun ⟨r, c, h1, h2, h3⟩ => ⟨r, c, h1, hle2 _ _ h2, h3⟩)) ?_
    simp (disch := first | omega | simp) [wE]
    have hal : (wSs acc).length = acc.length := wSs_len acc
    rw [ws]
    rcases hgr with ⟨rfl, hnil⟩ | ⟨r, xs, rfl, q1, q2, q3, q4, q5⟩
    · have ha0 : acc = [] := List.eq_nil_of_length_eq_zero (by rw [← hal, hnil]; rfl)
      subst ha0
      simp (disch := first | omega | simp) [put_get_ne, ho]
      refine ⟨by omega, rt_refl ⟨by simp [bv], .osl (H.nx + 4) 1 0 1, ⟨(by first | omega | (simp only [up_nx, put_nx]; done) | (simp only [up_nx, put_nx]; omega)), fun j w hj hg hjo _ => ⟨by simp (disch := first | omega | simp) [put_get_ne, hg], fun n hn => by injection hn with hn; omega⟩⟩, fun _ => ⟨by simp (disch := first | omega | simp), ?_, hoG⟩⟩ (by first | omega | (simp only [up_nx, put_nx]; done) | (simp only [up_nx, put_nx]; omega))⟩
      exact .row (by first | omega | (simp only [up_nx, put_nx, kill_nx]; done) | (simp only [up_nx, put_nx, kill_nx]; omega)) (by first | omega | (simp only [up_nx, put_nx]; done) | (simp only [up_nx, put_nx]; omega)) (by simp (disch := first | omega | simp) [put_get_ne]; rfl) (dt_wSs [l]) rfl
    · have hxl' : acc.length ≤ xs.length := by have := congrArg List.length q4; rw [hal, List.length_take] at this; omega
      rw [hal] at q4 ⊢
      have hro : r ≠ ou := fun e => by subst e; rw [ho] at q3; cases q3
      simp (disch := first | omega | simp) [put_get_ne, kill_get_ne, ho, q3]
      refine ⟨hxl', by omega, by omega, rt_refl ⟨by simp [bv]; omega, .osl (H.nx + 4) 1 0 (acc.length + 1), ⟨(by first | omega | (simp only [up_nx, put_nx, kill_nx]; done) | (simp only [up_nx, put_nx, kill_nx]; omega)), fun j w hj hg hjo hju => ⟨?_, fun n hn => by injection hn with hn; omega⟩⟩, fun _ => ⟨by simp (disch := first | omega | simp), ?_, hoG⟩⟩ (by first | omega | (simp only [up_nx, put_nx, kill_nx]; done) | (simp only [up_nx, put_nx, kill_nx]; omega))⟩
      · have hjr : j ≠ r := fun e => hju acc.length (by rw [e])
        simp (disch := first | omega | simp) [put_get_ne, kill_get_ne, hg]
      · rw [wSs_app]
        refine .row (by first | omega | (simp only [up_nx, put_nx, kill_nx]; done) | (simp only [up_nx, put_nx, kill_nx]; omega)) (by first | omega | (simp only [up_nx, put_nx, kill_nx]; done) | (simp only [up_nx, put_nx, kill_nx]; omega)) (by simp (disch := first | omega | simp) [put_get_ne, q4]; rfl) (by rw [← wSs_app]; exact dt_wSs _) (by rw [List.length_append, hal]; rfl)
  | succ n1 ih =>
    intro hn8 l way hln acc hacc H u dA Bt hG hway hwk hout hks hA hBn hBv
    refine tri_wf fun hw => tri_machine_Outs_fn1 ?_
    have hml : maxLen = 9223372036854775807 := by decide
    have hAn := (hw _ _ hA).1
    obtain ⟨dn, hdn, hK⟩ := hks n1 (Nat.lt_succ_self _)
    unfold S_machine_Outs_fn1
    have hn0 : ¬ ((n1 : Int) + 1) = 0 := by omega
    simp (disch := first | omega | simp) [iv, hn0]
    refine nd_rng (n := Bt.length) (f := sF Bt) (by simp (disch := first | omega | simp) [hA, mapOf, put_get_ne]) lawSp fun st cc => ?_
    generalize hM : AH.put _ (H.nx + 2 + 1) _ = M0
    have hMk : ∀ j, j < H.nx → j ≠ dA → M0.get j = H.get j := fun j h1 h2 => by
      rw [← hM, AH.get_put_ne (by omega), AH.get_put_ne h2, up_get, AH.get_put_ne (by omega), up_get]
    have hMA : M0.get dA = some (.smap 91 Bt.length (sF Bt) st cc) := by rw [← hM, AH.get_put_ne (by omega), put_get]
    have hMi : M0.get (H.nx + 2 + 1) = some (.miter dA st cc []) := by rw [← hM, put_get]
    have hMg : M0.get H.nx = some (.map 3 0 fun _ => none) := by rw [← hM, AH.get_put_ne (by omega), AH.get_put_ne (by omega), up_get, put_get]
    have hMn : M0.nx = H.nx + 4 := by rw [← hM]; simp only [put_nx, up_nx]
    clear hM
    refine walk_L5 (N0 := N0) (e := e) (o := o) (dn := dn) (n1 := n1) hm hms hI (by omega) hw hK hdn hA hBn hBv (by omega) hMk hMA hMi hMg (Nat.le_refl _) (by omega) (by omega) (by omega) ?_
    intro p M Hs hGW hMn2 hMk2 hNx hNm hNl
    rw [ws_succ]
    generalize hW : wsC m I n1 (· ∈ Bt) = W
    refine loop_wf (fun x : Nat × AV => [iv ((x.1 + 1 : Nat) : Int)]) (fun x H' => M.nx ≤ H'.nx ∧ x.1 ≤ 60 ∧ acc.length + ((syms.take x.1).flatMap W).length ≤ 500 ∧ NxAt H.nx H' H.nx p.n p.Nc p.gid ∧ LeftM ou u x.2 H H' ∧ OutB ou G H' x.2 (acc ++ ((syms.take x.1).flatMap W).map (l ++ ·))) (fun x => 60 - x.1) (0, u) hGW ⟨Nat.le_refl _, Nat.zero_le _, by rw [List.take_zero]; exact hacc, hNx, ?_, ?_⟩ ?_
    · exact ⟨by omega, fun j w hj hg hjo hju => ⟨by rw [hMk2 j hj]; exact hg, hju⟩⟩
    · obtain ⟨o1, o2, o3⟩ := hout
      refine ⟨by rw [hMk2 _ (hw _ _ o1).1]; exact o1, ?_, o3⟩
      simp only [List.take_zero, List.flatMap_nil, List.map_nil, List.append_nil]
      exact o2.same (by omega) fun j hj _ => hMk2 j hj
    rintro ⟨i, u1⟩ H1 hn1 hw1 ⟨jn, ji, ja, jN, jL, jO⟩ k hk
    dsimp only at ji ja jL jO hk ⊢
    unfold S_machine_Outs_fn1_L4
    by_cases hi : i < 60
    · have hii : ((i : Int) + 1) ≤ 60 := by omega
      have hP := wsP_succ (f := W) hi
      have hko : (keyOf Try.prog 3 (.int .i64 ((i : Int) + 1))).isSome = true := keyInt (by unfold I64; omega)
      have hmu : ∃ u e, Try.prog.underlying 87 = some (.map u e) := ⟨91, 3, by kernel_rfl⟩
      have hiv := ivn (i := i + 1) (by omega)
      obtain ⟨f, hf, hf0, hf1⟩ := jN.map
      by_cases hz : p.Nc ((i : Int) + 1) = []
      · have hWc : W ((i : Int) + 1) = [] := by
          rw [← hW]; unfold wsC
          rw [if_neg]
          rintro ⟨q, hq⟩
          have := (hNm _ q).2 hq
          rw [hz] at this; cases this
        have hfz := hf0 _ hz
        simp (disch := first | omega | simp) [iv, hii, hf, hfz, lawInt, hko]
        have e2 : ((i : Int) + 1 + 1) = ((i + 1 + 1 : Nat) : Int) := by omega
        have hiv2 : IntKind.i64.wrap ((i : Int) + 1 + 1) = ((i + 1 + 1 : Nat) : Int) := by rw [e2, IntKind.wrap_i64]; omega
        rw [hiv2]
        exact hk (i + 1, u1) _ _ _ (.refl (by omega)) ⟨jn, hi, by dsimp only; rw [hP, hWc, List.append_nil]; exact ja, jN, jL, by dsimp only; rw [hP, hWc, List.append_nil]; exact jO⟩ (by dsimp only; omega)
      · have hfz := hf1 _ hz
        simp (disch := first | omega | simp) [iv, hii, hf, hfz, lawInt, hko]
        have hHH1 := jL.1
        have hK1 : ∀ k, k < n1 + 1 → ∃ dn, dn < H.nx ∧ dn ≠ dA ∧ WkAt H1 N0 ob o e k dn m I := fun k hk => by
          obtain ⟨dn, h1, h2⟩ := hks k hk
          obtain ⟨_, _, _, _, _, _, _, _, h5, _⟩ := id h2
          exact ⟨dn, (hw _ _ h5).1, h1, h2.left hw hout jL⟩
        obtain ⟨tw, hwp⟩ := hwk
        have hwpo : wp ≠ ou := fun q => by
          have h1 := hout.1
          rw [← q, hwp] at h1
          simp only [Option.some.injEq, AO.box.injEq, List.cons.injEq, and_true] at h1
          have := h1.2
          rcases hout.2.1 with ⟨h, _⟩ | ⟨_, _, h, _⟩ <;> rw [h] at this <;> cases this
        have hwp1 := (jL.2 wp _ (hw _ _ hwp).1 hwp hwpo (way_off hout.2.1 hwp fun xs => by simp)).1
        have hwpn := (hw1 _ _ hwp1).1
        obtain ⟨_, _, _, ⟨tb, hob1⟩, r5, c5, B5, ds5, ho5, hr5, hd5, hdg5, hdB5⟩ := hK1 n1 (Nat.lt_succ_self _)
        have hobn := (hw1 _ _ hob1).1
        obtain ⟨hg1, hg2, hg3⟩ := jN.sub _ hz
        have e1 : ((n1 : Int) + 1 - 1) = (n1 : Int) := by omega
        have hn1w : IntKind.i64.wrap (n1 : Int) = (n1 : Int) := by rw [IntKind.wrap_i64]; omega
        have hgn : H.nx < H1.nx := by omega
        generalize hA : acc ++ ((syms.take i).flatMap W).map (l ++ ·) = A at *
        generalize hc : ((i : Int) + 1) = c at *
        have hAl : A.length = acc.length + ((syms.take i).flatMap W).length := by rw [← hA, List.length_append, List.length_map]
        have hWex : ∃ q, nx m I (· ∈ Bt) n1 c q := by
          obtain ⟨q, hq⟩ := List.exists_mem_of_ne_nil _ hz
          exact ⟨q, (hNm c q).1 hq⟩
        have hWc : W c = (ws m I n1 (cl m I (nx m I (· ∈ Bt) n1 c))).map (c :: ·) := by
          rw [← hW]; unfold wsC; rw [if_pos hWex]
        have hWle : ((syms.take i).flatMap W).length + (W c).length ≤ (syms.flatMap W).length := by
          have h1 : syms.flatMap W = (syms.take (i + 1)).flatMap W ++ (syms.drop (i + 1)).flatMap W := by rw [← List.flatMap_append, List.take_append_drop]
          rw [h1, hP]
          simp only [List.length_append]
          omega
        have hNv : ∀ q ∈ p.Nc c, Vs m I q := fun q hq => by
          obtain ⟨_, _, _, w, _, h⟩ := (hNm c q).1 hq
          exact wrs_vs hm h
        have fin : ∀ (v : AV) (H' : AH), H1.nx ≤ H'.nx → v = bv (decide (A.length + (W c).length ≤ 500)) → (∃ u' H'', Gst Try.prog H' H'' ∧ H1.nx ≤ H''.nx ∧ LeftM ou u1 u' H1 H'' ∧ (A.length + (W c).length ≤ 500 → OutB ou G H'' u' (A ++ (W c).map (l ++ ·)))) → Pu Try.prog (.un .not) [v] (fun v110 => CdA v110 (Rt Try.prog H.nx (.p (.bool false)) (WalkQ ou G H u acc ((syms.flatMap W).map (l ++ ·)))) (Pu Try.prog (.bin .add 3) [.p (.int .i64 c), .p (.int .i64 1)] fun v92 => k [v92])) H' := by
          intro v H' n1' hv hq
          subst hv
          obtain ⟨u', H'', q1, q2, q3, q4⟩ := hq
          by_cases hd : A.length + (W c).length ≤ 500
          · have q4 := q4 hd
            have e2 : IntKind.i64.wrap (c + 1) = ((i + 1 + 1 : Nat) : Int) := by rw [IntKind.wrap_i64]; omega
            have hdt : decide (A.length + (W c).length ≤ 500) = true := by simpa using hd
            rw [hdt]
            simp (disch := first | omega | simp) [bv, e2]
            rw [show ((i : Int) + 1 + 1) = ((i + 1 + 1 : Nat) : Int) by omega]
            refine hk (i + 1, u') H'' _ _ (.st q1 (by omega)) ⟨by omega, hi, by dsimp only; rw [hP, List.length_append]; omega, jN.left hgn jO q3, jL.trans q3, ?_⟩ (by dsimp only; omega)
            dsimp only
            rw [hP, List.map_append, ← List.append_assoc, hA]
            exact q4
          · have hdt : decide (A.length + (W c).length ≤ 500) = false := by simpa using hd
            rw [hdt]
            simp (disch := first | omega | simp) [bv]
            have hnot : ¬ acc.length + ((syms.flatMap W).map (l ++ ·)).length ≤ 500 := by rw [List.length_map]; omega
            exact Gh.step (GW.st q1 (by omega)) (rt_refl ⟨congrArg bv (decide_eq_false hnot).symm, u', jL.trans q3, fun h => absurd h hnot⟩ (by omega))
        have call : ∀ (X : AH) (way' : AV) (d' : Nat) (B' : List Sp), LeC H1 X → WayAt X way' (l ++ [c]) → X.get d' = some (.map 91 B'.length (sF B')) → H1.nx ≤ d' → B'.Nodup → (∀ s ∈ B', Vs m I s) → (∀ q, q ∈ B' ↔ cl m I (· ∈ p.Nc c) q) → Tri Try.prog 50 [way', .mp d', iv (n1 : Int), .ptr ou 0, .ptr ob 0, .ptr wp 0] X (WalkQ ou G X u1 A ((W c).map (l ++ ·))) := by
          intro X way' d' B' x1 x2 x3 x4 x5 x6 x7
          have hAeq : (· ∈ B') = cl m I (nx m I (· ∈ Bt) n1 c) := by
            have h2 : (fun q => q ∈ p.Nc c) = nx m I (· ∈ Bt) n1 c := funext fun q => propext (hNm c q)
            rw [← h2]
            exact funext fun q => propext (x7 q)
          have hWe : (W c).map (l ++ ·) = (ws m I n1 (· ∈ B')).map ((l ++ [c]) ++ ·) := by
            rw [hWc, hAeq, List.map_map]
            exact List.map_congr_left fun s _ => by simp
          rw [hWe]
          have hx1 := x1.1
          exact ih (by omega) (l ++ [c]) way' (by rw [List.length_append, List.length_singleton]; omega) A (by omega) X u1 d' B' (by omega) x2 ⟨tw, x1.2 wp _ hwpn (fun _ _ => by simp) hwp1⟩ (jO.up hw1 x1) (fun k hk => by
            obtain ⟨dn, q1, _, q3⟩ := hK1 k (by omega)
            exact ⟨dn, by omega, q3.up hw1 x1⟩) x3 x5 x6
        have fresh : ∀ (X : AH) (q d' : Nat) (B' : List Sp), LeF H1 X → H1.nx ≤ q → d' ≠ q → X.get q = some (.row 3 1 (nE (l ++ [c]))) → X.get d' = some (.map 91 B'.length (sF B')) → H1.nx ≤ d' → B'.Nodup → (∀ s ∈ B', Vs m I s) → (∀ q, q ∈ B' ↔ cl m I (· ∈ p.Nc c) q) → Tri Try.prog 50 [.osl q 1 0 (l.length + 1), .mp d', iv (n1 : Int), .ptr ou 0, .ptr ob 0, .ptr wp 0] X (fun v H' => v = bv (decide (A.length + (W c).length ≤ 500)) ∧ H1.nx ≤ H'.nx ∧ (∃ u' H'', Gst Try.prog H' H'' ∧ H1.nx ≤ H''.nx ∧ LeftM ou u1 u' H1 H'' ∧ (A.length + (W c).length ≤ 500 → OutB ou G H'' u' (A ++ (W c).map (l ++ ·))))) := by
          intro X q d' B' x1 xq xd xg x3 x4 x5 x6 x7
          refine Tri.capped xg fun cc hcc => ?_
          have hx1 := x1.1
          have hle : LeF H1 (X.put q (.crow 3 1 cc (nE (l ++ [c])))) := ⟨by simp only [put_nx]; omega, fun j w hj h1 => by rw [AH.get_put_ne (by omega)]; exact x1.2 j w hj h1⟩
          refine (call (X.put q (.crow 3 1 cc (nE (l ++ [c])))) (.osl q 1 0 (l.length + 1)) d' B' hle.c (.inr ⟨q, cc, by rw [List.length_append]; rfl, put_get _ _, by rw [List.length_append]; exact Nat.succ_pos _, by simpa using hcc⟩) (by rw [AH.get_put_ne xd]; exact x3) x4 x5 x6 x7).mono fun v H' h => ?_
          obtain ⟨h1, u', h3, h4⟩ := h
          rw [List.length_map] at h1 h4
          exact ⟨h1, Nat.le_trans hle.1 h3.1, u', H', .refl _, Nat.le_trans hle.1 h3.1, ⟨Nat.le_trans hle.1 h3.1, fun j w hj hg hjo hju => h3.2 j w (Nat.lt_of_lt_of_le hj hle.1) (hle.2 j w hj hg) hjo hju⟩, h4⟩
        have body : ∀ (V X : AH) (wv : AV) (k' : AV → AH → Prop), LeC H1 X → V.le X → (∀ d' B' Y, X.le Y → X.nx ≤ Y.nx → Y.get d' = some (.map 91 B'.length (sF B')) → X.nx ≤ d' → B'.Nodup → (∀ s ∈ B', Vs m I s) → (∀ q, q ∈ B' ↔ cl m I (· ∈ p.Nc c) q) → Tri Try.prog 50 [wv, .mp d', iv (n1 : Int), .ptr ou 0, .ptr ob 0, .ptr wp 0] Y (fun v H' => v = bv (decide (A.length + (W c).length ≤ 500)) ∧ H1.nx ≤ H'.nx ∧ (∃ u' H'', Gst Try.prog H' H'' ∧ H1.nx ≤ H''.nx ∧ LeftM ou u1 u' H1 H'' ∧ (A.length + (W c).length ≤ 500 → OutB ou G H'' u' (A ++ (W c).map (l ++ ·)))))) →
            CaK Try.prog V (.fn (.func 53) [] []) [.ptr o 0, .mp (p.gid c)] (fun v106 => Ca Try.prog (.fn (.func 50) [] [.ptr ou 0, .ptr ob 0, .ptr wp 0]) [wv, v106, .p (.int .i64 (n1 : Int))] fun v109 => Vw fun _ => Pu Try.prog (.un .not) [v109] (fun v110 => CdA v110 (Rt Try.prog H.nx (.p (.bool false)) (WalkQ ou G H u acc ((syms.flatMap W).map (l ++ ·)))) (Pu Try.prog (.bin .add 3) [.p (.int .i64 c), .p (.int .i64 1)] (fun v92 => k [v92])))) X := by
          intro V X wv _ x1 xv hT
          have hoX : OutAt X o m I e (.osl r5 1 0 ds5.length) := ⟨x1.2 o _ (hw1 _ _ ho5.box).1 (fun _ _ => by simp) ho5.box⟩
          refine cak_of (by kernel_rfl) (c_quiet hm hI hoX (x1.2 _ _ hg2 (fun _ _ => by simp) hg3) (hNl c) hNv) ?_
          rintro _ Y wY ⟨d', B', rfl, y1, y2, y3, y4, y5, y6, y7, y8⟩
          refine ⟨fun j w h => y7 _ _ (xv _ _ h), ?_⟩
          refine ca_wf (by kernel_rfl) (hT d' B' Y y7 y8 y3 y1 y4 y5 y6) ?_
          rintro v H' wf' ⟨z1, z0, z2⟩
          exact fin v H' z0 z1 z2
        rcases hway with ⟨rfl, hl⟩ | ⟨r, cp, rfl, hr, hr1, hr2⟩
        · refine ⟨[], ?_⟩
          simp (disch := first | omega | simp) [hwp1]
          have hln : l.length = 0 := by rw [hl]; rfl
          refine wro_nil (elF_whole (t := 3) (es := [[iv c]]) rfl (by simp (disch := first | omega | simp) [iv]) rfl) (by simp; omega) (by simp) ?_
          simp (disch := first | omega | simp) [iv, hob1, hf, hfz, lawInt, hko, hn1w]
          generalize hX : AH.put _ (H1.nx + 4) _ = X
          have hXn : X.nx = H1.nx + 14 := by rw [← hX]; simp only [put_nx, up_nx]
          have hXk : ∀ j, j < H1.nx → X.get j = H1.get j := fun j hj => by rw [← hX, AH.get_put_ne (by omega), AH.get_put_ne (by omega), up_get]
          have hXq : X.get (H1.nx + 4) = some (.row 3 1 (nE (l ++ [c]))) := by rw [← hX, put_get, hl]; rfl
          clear hX
          refine body (H1.up 14) X (.osl (H1.nx + 4) 1 0 1) (fun _ _ => True) (LeF.c ⟨by omega, fun j w hj hg => by rw [hXk j hj]; exact hg⟩) (fun j w hg => by
            rw [up_get] at hg
            rw [hXk j (hw1 _ _ hg).1]; exact hg) fun d' B' Y y1 y2 y3 y4 y5 y6 y7 => ?_
          have := fresh Y (H1.nx + 4) d' B' (LeF.le ⟨by omega, fun j w hj hg => by rw [hXk j hj]; exact hg⟩ y1 y2) (by omega) (by omega) (y1 _ _ hXq) y3 (by omega) y5 y6 y7
          rw [hln] at this
          exact this
        · refine ⟨[r], ?_⟩
          have hrn := (hw _ _ hr).1
          have hro : r ≠ ou := fun e => by subst e; rw [hout.1] at hr; cases hr
          have hr1' := (jL.2 r _ hrn hr hro (way_off hout.2.1 hr fun xs => by simp)).1
          have hwr : wp ≠ r := fun e => by rw [e, hr] at hwp; cases hwp
          have hor : ob ≠ r := fun e => by rw [e, hr1'] at hob1; cases hob1
          simp (disch := first | omega | simp) [del_get_ne, hwp1]
          have hrlt : r < H1.nx := by omega
          have hes : nE l ++ [[iv c]] = nE (l ++ [c]) := by unfold nE; rw [List.map_append]; rfl
          by_cases hroom : l.length + 1 ≤ cp
          · refine wro_in (es := nE l) (c := cp) (by omega) (by simp) (by simp (disch := first | omega | simp) [put_get_ne, hr1']) (by simp) (elF_whole (t := 3) (es := [[iv c]]) rfl (by simp (disch := first | omega | simp) [iv]) rfl) (by simpa using hroom) ?_
            rw [hes]
            simp (disch := first | omega | simp) [iv, del_get_ne, hob1, hf, hfz, lawInt, hko, hn1w]
            generalize hX : AH.put _ r _ = X
            have hXn : X.nx = H1.nx + 14 := by rw [← hX]; simp only [put_nx, up_nx]
            have hXk : ∀ j, j < H1.nx → j ≠ r → X.get j = H1.get j := fun j hj hjr => by rw [← hX, AH.get_put_ne hjr, AH.get_put_ne (by omega), up_get]
            have hXr : X.get r = some (.crow 3 1 cp (nE (l ++ [c]))) := by rw [← hX, put_get]
            clear hX
            have hXC : LeC H1 X := ⟨by omega, fun j w hj hw hg => by
              have : j ≠ r := fun e => by rw [e, hr1'] at hg; injection hg with hg; exact hw _ _ hg.symm
              rw [hXk j hj this]; exact hg⟩
            refine body ((H1.up 14).del r) X (.osl r 1 0 (l.length + 1)) (fun _ _ => True) hXC (fun j w hg => ?_) fun d' B' Y y1 y2 y3 y4 y5 y6 y7 => ?_
            · by_cases e : j = r
              · subst e; rw [del_get] at hg; cases hg
              · rw [del_get_ne _ _ e, up_get] at hg
                rw [hXk j (hw1 _ _ hg).1 e]; exact hg
            · have hYC := hXC.le y1 y2
              have hYr := y1 _ _ hXr
              refine (call Y (.osl r 1 0 (l.length + 1)) d' B' hYC (.inr ⟨r, cp, by rw [List.length_append]; rfl, hYr, by rw [List.length_append]; exact Nat.succ_pos _, by rw [List.length_append]; exact hroom⟩) y3 (by omega) y5 y6 y7).mono fun v H' h => ?_
              obtain ⟨h1, u', h3, h4⟩ := h
              have hn := h3.1
              rw [List.length_map] at h1 h4
              refine ⟨h1, by have := hYC.1; omega, ?_⟩
              have hru1 := way_off jO.2.1 hr1' fun xs => by simp
              obtain ⟨hr', hru'⟩ := h3.2 r _ (by omega) hYr hro hru1
              have hp2 := Gst.prefix (P := Try.prog) hr' l.length
              have e5 : (nE (l ++ [c])).take l.length = nE l := by rw [← hes]; exact List.take_left' (by simp)
              rw [e5] at hp2
              refine ⟨u', _, hp2, by have := hYC.1; simp only [put_nx]; omega, ⟨by have := hYC.1; simp only [put_nx]; omega, fun j w hj hg hjo hju => ?_⟩, ?_⟩
              · by_cases e : j = r
                · subst e; rw [hr1'] at hg; exact ⟨by rw [put_get]; exact hg, hru'⟩
                · have hYj : Y.get j = some w := by
                    refine y1 _ _ ?_
                    rw [hXk j hj e]; exact hg
                  obtain ⟨q1, q2⟩ := h3.2 j w (by have := hYC.1; omega) hYj hjo hju
                  exact ⟨by rw [AH.get_put_ne e]; exact q1, q2⟩
              · intro hd
                have h4 := h4 hd
                exact ⟨by rw [AH.get_put_ne (Ne.symm hro)]; exact h4.1, h4.2.1.same (by simp only [put_nx]; omega) fun j hj ⟨n, hv⟩ => AH.get_put_ne fun e => hru' n (by rw [← e]; exact hv), h4.2.2⟩
          · refine wro_out (es := nE l) (c := cp) (by omega) (by simp (disch := first | omega | simp) [put_get_ne, hr1']) (by simp) (elF_whole (t := 3) (es := [[iv c]]) rfl (by simp (disch := first | omega | simp) [iv]) rfl) (by simp; omega) (by simp; omega) (by simp; omega) ?_
            rw [hes]
            simp (disch := first | omega | simp) [iv, del_get_ne, hob1, hf, hfz, lawInt, hko, hn1w]
            generalize hX : AH.put _ (H1.nx + 4) _ = X
            have hXn : X.nx = H1.nx + 14 := by rw [← hX]; simp only [put_nx, up_nx]
            have hXk : ∀ j, j < H1.nx → X.get j = H1.get j := fun j hj => by rw [← hX, AH.get_put_ne (by omega), AH.get_put_ne (by omega), up_get]
            have hXq : X.get (H1.nx + 4) = some (.row 3 1 (nE (l ++ [c]))) := by rw [← hX, put_get]
            clear hX
            refine body ((H1.up 14).del r) X (.osl (H1.nx + 4) 1 0 (l.length + 1)) (fun _ _ => True) (LeF.c ⟨by omega, fun j w hj hg => by rw [hXk j hj]; exact hg⟩) (fun j w hg => ?_) fun d' B' Y y1 y2 y3 y4 y5 y6 y7 => ?_
            · by_cases e : j = r
              · subst e; rw [del_get] at hg; cases hg
              · rw [del_get_ne _ _ e, up_get] at hg
                rw [hXk j (hw1 _ _ hg).1]; exact hg
            · exact fresh Y (H1.nx + 4) d' B' (LeF.le ⟨by omega, fun j w hj hg => by rw [hXk j hj]; exact hg⟩ y1 y2) (by omega) (by omega) (y1 _ _ hXq) y3 (by omega) y5 y6 y7
    · have hie : i = 60 := by omega
      subst hie
      simp (disch := first | omega | simp) [iv]
      rw [show (60 : Nat) = syms.length from rfl, List.take_length] at ja jO
      have hyes : acc.length + ((syms.flatMap W).map (l ++ ·)).length ≤ 500 := by rw [List.length_map]; exact ja
      exact rt_refl ⟨congrArg bv (decide_eq_true hyes).symm, u1, jL, fun _ => jO⟩ jL.1
end Go.Proofs.Ytgkkilbeingleaa
