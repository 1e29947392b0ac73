/- Texts that the proof rests on, part 14: what each holds stands at its head. -/
import Derived.Test.YtgkkilbeingleaaZo13

/- The reference's ThroughCost: one arc of the product at one place. -/
namespace Go.Proofs.Ytgkkilbeingleaa
open Go.RowKit Go.Maps
section
variable {a b : Mac} {n k A B p9 p10 p11 p14 R : Nat} {H H' : AH} {better : Bool} {L Lo I O : List Int} {D : Arc → Nat → Nat → Prop}
theorem TC.ne (h : TC a b n k A B p9 p10 p11 p14 R H better L) : A ≠ R ∧ B ≠ R ∧ p9 ≠ R ∧ p10 ≠ R ∧ p11 ≠ R ∧ p14 ≠ R ∧ A ≠ p14 ∧ B ≠ p14 ∧ p9 ≠ p14 ∧ p10 ≠ p14 ∧ p11 ≠ p14 := by
  have hr := h.gR
  have hb := h.g14
  refine ⟨?_, ?_, ?_, ?_, ?_, ?_, ?_, ?_, ?_, ?_, ?_⟩ <;> intro e
  · have := h.gA; rw [e, hr] at this; cases this
  · have := h.gB; rw [e, hr] at this; cases this
  · have := h.g9; rw [e, hr] at this; cases this
  · have := h.g10; rw [e, hr] at this; cases this
  · have := h.g11; rw [e, hr] at this; cases this
  · rw [e, hr] at hb; cases hb
  · have := h.gA; rw [e, hb] at this; injection this with this; injection this with this; exact absurd this (by decide)
  · have := h.gB; rw [e, hb] at this; injection this with this; injection this with this; exact absurd this (by decide)
  · have := h.g9; rw [e, hb] at this; injection this with this; injection this with this; exact absurd this (by decide)
  · have := h.g10; rw [e, hb] at this; injection this with this; injection this with this; exact absurd this (by decide)
  · have := h.g11; rw [e, hb] at this; injection this with this; injection this with this; exact absurd this (by decide)
theorem TC.low (h : TC a b n k A B p9 p10 p11 p14 R H better L) {better' : Bool} {L' : List Int} (hk : ∀ j, j ≠ R → j ≠ p14 → H'.get j = H.get j) (h14 : H'.get p14 = some (.box 4 [bv better'])) (hR : H'.get R = some (.row 3 1 (nE L'))) (hl : L'.length = L.length) : TC a b n k A B p9 p10 p11 p14 R H' better' L' := by
  obtain ⟨q1, q2, q3, q4, q5, q6, q7, q8, q9, q10, q11⟩ := h.ne
  exact ⟨by rw [hk _ q1 q7]; exact h.gA, by rw [hk _ q2 q8]; exact h.gB, by rw [hk _ q3 q9]; exact h.g9, by rw [hk _ q4 q10]; exact h.g10, by rw [hk _ q5 q11, hl]; exact h.g11, h14, hR⟩
theorem TC.keep (h : TC a b n k A B p9 p10 p11 p14 R H better L) (hw : WF H) (hk : ∀ j, j < H.nx → H'.get j = H.get j) : TC a b n k A B p9 p10 p11 p14 R H' better L := by
  have hb : ∀ {j o}, H.get j = some o → H'.get j = some o := fun ho => by rw [hk _ (hw _ _ ho).1]; exact ho
  exact ⟨hb h.gA, hb h.gB, hb h.g9, hb h.g10, hb h.g11, hb h.g14, hb h.gR⟩
/-- what a place's look leaves -/
def Seen (D : Arc → Nat → Nat → Prop) (x : Arc) (i j : Nat) : Arc → Nat → Nat → Prop := fun y i' j' => D y i' j' ∨ (y = x ∧ i' = i ∧ j' = j)
theorem seen_dear (h : RndG (prodM a b) true I O n k Lo better L D) {x : Arc} {i j : Nat} (hp : L[ix n k x.fr.toNat i j]? = some dear) : RndG (prodM a b) true I O n k Lo better L (Seen D x i j) :=
  h.skip fun y i' j' ⟨e1, e2, e3⟩ _ _ => by subst e1 e2 e3; exact stab_dear hp
theorem seen_low (hm : (prodM a b).Fit) (h : RndG (prodM a b) true I O n k Lo better L D) (htc : TC a b n k A B p9 p10 p11 p14 R H better L) {x : Arc} (hx : x ∈ (prodM a b).arcs) {i j i' j' : Nat} {p q : Int} (hi : i < n) (hj : j < k) (hi' : i' < n) (hj' : j' < k) (hp : L[ix n k x.fr.toNat i j]? = some p) (hpd : p < dear) (h1 : adv x.inn I i = some i') (h2 : advo true x.out O j = some j')
    (hq : L[ix n k x.to.toNat i' j']? = some q) {r : AV} (hl : LowQ p14 R better L (ix n k x.to.toNat i' j') q (p + x.w) H r H') : ∃ better' L', TC a b n k A B p9 p10 p11 p14 R H' better' L' ∧ RndG (prodM a b) true I O n k Lo better' L' (Seen D x i j) := by
  obtain ⟨_, _, l3, ⟨c1, c2, c3⟩ | ⟨c1, c2, c3⟩⟩ := hl
  · exact ⟨true, _, htc.low l3 c2 c3 (by rw [List.length_set]), h.low hm hx hi hj hi' hj' hp hpd h1 h2 hq c1⟩
  · exact ⟨better, L, htc.low l3 c2 c3 rfl, h.skip fun y i2 j2 ⟨e1, e2, e3⟩ _ _ => by subst e1 e2 e3; exact stab_le hp h1 h2 hq (by omega)⟩
set_option maxHeartbeats 1000000 in
/-- an arc of a that writes nothing, beside a state of b -/
theorem tc_one {f : Arc} {F i j r t x : Nat} {kk kt : List AV → AH → Prop} (ha : a.Ok) (hb : b.Ok) (hS : a.states * b.states ≤ 3000) (hn : n ≤ 61) (hk : k ≤ 61) (hw : WF H) (htc : TC a b n k A B p9 p10 p11 p14 R H better L) (h : RndG (prodM a b) true I O n k Lo better L D) (hf : f ∈ a.arcs) (ho : f.out = 0) (gF : H.get F = some (.box 53 f.cs)) (hi : i < n) (hj : j < k) (hr : r < n) (hadv : adv f.inn I i = some r) (ht : (t : Int) < b.states)
    (hgo : ∀ better' L' H', H.nx ≤ H'.nx → (∀ j, j < H.nx → j ≠ R → j ≠ p14 → H'.get j = H.get j) → TC a b n k A B p9 p10 p11 p14 R H' better' L' → RndG (prodM a b) true I O n k Lo better' L' (Seen D (arc1 b.states f (t : Int)) i j) → kt [iv ((t + 1 : Nat) : Int)] H') :
    S_wordhoardref_ThroughCost_L1 (.ptr B 0) (.ptr p11 0) (.fn (.func 37) [] [.ptr B 0, .ptr p9 0, .ptr p10 0]) (.fn (.func 38) [] [.ptr p11 0, .ptr p14 0]) [iv (i : Int)] [iv (j : Int)] kk [iv (x : Int)] (.ptr F 0) [iv (r : Int)] [iv (t : Int)] kt H := by
  have hfit := prod_fit ha hb
  have o := ha.2.2.2.2.1 f hf
  have hb1 := hb.1
  have hb2 := hb.2.1
  have hB := htc.gB
  unfold Mac.cs iv at hB
  have hg11 := htc.g11
  have hgR := htc.gR
  have htv := ivn (i := t) (by omega)
  have hmem : arc1 b.states f (t : Int) ∈ (prodM a b).arcs := List.mem_append.2 (.inl (List.mem_flatMap.2 ⟨f, hf, by unfold fam12; rw [if_pos ho]; exact List.mem_map.2 ⟨t, List.mem_range.2 (by omega), rfl⟩⟩))
  have p1 := pair_lt (s := f.fr) (t := (t : Int)) (A := a.states) (B := b.states) (by omega) (by omega) (by omega) (by omega)
  have p2 := pair_lt (s := f.to) (t := (t : Int)) (A := a.states) (B := b.states) (by omega) (by omega) (by omega) (by omega)
  have hst : (prodM a b).states = a.states * b.states := rfl
  obtain ⟨p, hp⟩ := h.tab.at_ (s := (f.fr * b.states + t).toNat) (i := i) (j := j) (by rw [hst]; omega) hi hj
  obtain ⟨q, hq⟩ := h.tab.at_ (s := (f.to * b.states + t).toNat) (i := r) (j := j) (by rw [hst]; omega) hr hj
  have hp0 := h.tab.nonneg (by rw [hst]; omega) hi hj hp
  have hpl := (List.getElem?_eq_some_iff.1 hp).1
  have hpe := nE_get hp
  unfold iv at hpe
  unfold Arc.cs iv at gF
  have hdr : dear = 1152921504606846976 := rfl
  have hlen : L.length ≤ 9223372036854775807 := by
    rw [h.tab.len, hst]
    have h1 : (a.states * b.states).toNat * n * k ≤ 3000 * 61 * 61 := Nat.mul_le_mul (Nat.mul_le_mul (by omega) hn) hk
    omega
  have hw1 : IntKind.i64.wrap (p + f.w) = p + f.w := by rw [IntKind.wrap_i64]; omega
  unfold S_wordhoardref_ThroughCost_L1
  simp (disch := first | omega | simp) [iv, hB, ht, hg11, gF]
  refine cav_pure (by kernel_rfl) (fun H2 hle => c_place (a := a) (hle _ _ htc.gB) (hle _ _ htc.g9) (hle _ _ htc.g10) hS (by omega) (by omega) (by omega) ht hn hk hi hj) ?_
  by_cases hpd : p < 1152921504606846976
  · simp (disch := first | omega | simp) [iv, hgR, hpe, hpl, hpd, gF]
    generalize hNe : AH.up _ 13 = N
    have hNn : N.nx = H.nx + 13 := by rw [← hNe]; rfl
    have hNk : ∀ j, j < H.nx → N.get j = H.get j := fun j _ => by rw [← hNe]; rfl
    clear hNe
    have hNt := htc.keep hw hNk
    have hgFN : N.get F = some (.box 53 [.p (.int .i64 f.fr), .p (.int .i64 f.to), .p (.int .i64 f.inn), .p (.int .i64 f.out), .p (.int .i64 f.w)]) := by rw [hNk _ (hw _ _ gF).1]; exact gF
    refine cav_pure (by kernel_rfl) (fun H2 hle => c_place (a := a) (hle _ _ hNt.gB) (hle _ _ hNt.g9) (hle _ _ hNt.g10) hS (by omega) (by omega) (by omega) ht hn hk hr hj) ?_
    simp (disch := first | omega | simp) [iv, hgFN, hw1]
    refine ca_of (by kernel_rfl) (c_lower (x := q) hNt.g11 hNt.g14 hNt.gR hq hlen) ?_
    intro r0 H2 hl
    obtain ⟨better', L', n1, n2⟩ := seen_low hfit h hNt hmem hi hj hr hj hp (by omega) hadv (by unfold advo adv arc1; simp) hq hl
    obtain ⟨_, l2, l3, _⟩ := hl
    simp (disch := first | omega | simp) [htv]
    exact hgo better' L' H2 (by omega) (fun j hj h1 h2 => (l3 j h1 h2).trans (hNk j hj)) n1 n2
  · simp (disch := first | omega | simp) [iv, hgR, hpe, hpl, hpd, htv]
    refine hgo better L H (Nat.le_refl _) (fun _ _ _ _ => rfl) htc (seen_dear h ?_)
    have : p = dear := by omega
    rw [← this]; exact hp
set_option maxHeartbeats 1000000 in
/-- an arc of a and one of b that reads what it writes -/
theorem tc_two {f g : Arc} {F G i j r w t : Nat} {kt : List AV → AH → Prop} (ha : a.Ok) (hb : b.Ok) (hS : a.states * b.states ≤ 3000) (hn : n ≤ 61) (hk : k ≤ 61) (hw : WF H) (htc : TC a b n k A B p9 p10 p11 p14 R H better L) (h : RndG (prodM a b) true I O n k Lo better L D) (hf : f ∈ a.arcs) (ho : f.out ≠ 0) (hg : g ∈ b.arcs) (hgo2 : g.inn = f.out) (gF : H.get F = some (.box 53 f.cs)) (gG : H.get G = some (.box 53 g.cs)) (ht : t < 9223372036854775807) (hi : i < n) (hj : j < k) (hr : r < n) (hadv : adv f.inn I i = some r) (hwk : w < k) (hadvo : advo true g.out O j = some w)
    (hgo : ∀ better' L' H', H.nx ≤ H'.nx → (∀ j, j < H.nx → j ≠ R → j ≠ p14 → H'.get j = H.get j) → TC a b n k A B p9 p10 p11 p14 R H' better' L' → RndG (prodM a b) true I O n k Lo better' L' (Seen D (arc2 b.states f g) i j) → kt [iv ((t + 1 : Nat) : Int)] H') :
    S_wordhoardref_ThroughCost_K2 (.ptr p11 0) (.fn (.func 37) [] [.ptr B 0, .ptr p9 0, .ptr p10 0]) (.fn (.func 38) [] [.ptr p11 0, .ptr p14 0]) [iv (i : Int)] [iv (j : Int)] (.ptr F 0) [iv (r : Int)] kt [iv (t : Int)] (.ptr G 0) [iv (w : Int)] H := by
  have hfit := prod_fit ha hb
  have o := ha.2.2.2.2.1 f hf
  have og := hb.2.2.2.2.1 g hg
  have hb1 := hb.1
  have hb2 := hb.2.1
  have hB := htc.gB
  unfold Mac.cs iv at hB
  have hg11 := htc.g11
  have hgR := htc.gR
  have htv := ivn (i := t) (by omega)
  have hmem : arc2 b.states f g ∈ (prodM a b).arcs := List.mem_append.2 (.inl (List.mem_flatMap.2 ⟨f, hf, by unfold fam12; rw [if_neg ho]; exact List.mem_map.2 ⟨g, List.mem_filter.2 ⟨hg, by simpa using hgo2⟩, rfl⟩⟩))
  have p1 := pair_lt (s := f.fr) (t := g.fr) (A := a.states) (B := b.states) (by omega) (by omega) (by omega) (by omega)
  have p2 := pair_lt (s := f.to) (t := g.to) (A := a.states) (B := b.states) (by omega) (by omega) (by omega) (by omega)
  have hst : (prodM a b).states = a.states * b.states := rfl
  obtain ⟨p, hp⟩ := h.tab.at_ (s := (f.fr * b.states + g.fr).toNat) (i := i) (j := j) (by rw [hst]; omega) hi hj
  obtain ⟨q, hq⟩ := h.tab.at_ (s := (f.to * b.states + g.to).toNat) (i := r) (j := w) (by rw [hst]; omega) hr hwk
  have hp0 := h.tab.nonneg (by rw [hst]; omega) hi hj hp
  have hpl := (List.getElem?_eq_some_iff.1 hp).1
  have hpe := nE_get hp
  unfold iv at hpe
  unfold Arc.cs iv at gF gG
  have hdr : dear = 1152921504606846976 := rfl
  have hlen : L.length ≤ 9223372036854775807 := by
    rw [h.tab.len, hst]
    have h1 : (a.states * b.states).toNat * n * k ≤ 3000 * 61 * 61 := Nat.mul_le_mul (Nat.mul_le_mul (by omega) hn) hk
    omega
  have hw1 : IntKind.i64.wrap (p + f.w) = p + f.w := by rw [IntKind.wrap_i64]; omega
  have hw2 : IntKind.i64.wrap (p + f.w + g.w) = p + (f.w + g.w) := by rw [IntKind.wrap_i64]; omega
  unfold S_wordhoardref_ThroughCost_K2
  simp (disch := first | omega | simp) [iv, hg11, gF, gG]
  refine cav_pure (by kernel_rfl) (fun H2 hle => c_place (a := a) (hle _ _ htc.gB) (hle _ _ htc.g9) (hle _ _ htc.g10) hS (by omega) (by omega) (by omega) (by omega) hn hk hi hj) ?_
  by_cases hpd : p < 1152921504606846976
  · simp (disch := first | omega | simp) [iv, hgR, hpe, hpl, hpd, gF, gG]
    generalize hNe : AH.up _ 17 = N
    have hNn : N.nx = H.nx + 17 := by rw [← hNe]; rfl
    have hNk : ∀ j, j < H.nx → N.get j = H.get j := fun j _ => by rw [← hNe]; rfl
    clear hNe
    have hNt := htc.keep hw hNk
    have hgFN : N.get F = some (.box 53 [.p (.int .i64 f.fr), .p (.int .i64 f.to), .p (.int .i64 f.inn), .p (.int .i64 f.out), .p (.int .i64 f.w)]) := by rw [hNk _ (hw _ _ gF).1]; exact gF
    have hgGN : N.get G = some (.box 53 [.p (.int .i64 g.fr), .p (.int .i64 g.to), .p (.int .i64 g.inn), .p (.int .i64 g.out), .p (.int .i64 g.w)]) := by rw [hNk _ (hw _ _ gG).1]; exact gG
    refine cav_pure (by kernel_rfl) (fun H2 hle => c_place (a := a) (hle _ _ hNt.gB) (hle _ _ hNt.g9) (hle _ _ hNt.g10) hS (by omega) (by omega) (by omega) (by omega) hn hk hr hwk) ?_
    simp (disch := first | omega | simp) [iv, hgFN, hgGN, hw1, hw2]
    refine ca_of (by kernel_rfl) (c_lower (x := q) hNt.g11 hNt.g14 hNt.gR hq hlen) ?_
    intro r0 H2 hl
    obtain ⟨better', L', n1, n2⟩ := seen_low hfit h hNt hmem hi hj hr hwk hp (by omega) hadv hadvo hq hl
    obtain ⟨_, l2, l3, _⟩ := hl
    simp (disch := first | omega | simp) [htv]
    exact hgo better' L' H2 (by omega) (fun j hj h1 h2 => (l3 j h1 h2).trans (hNk j hj)) n1 n2
  · simp (disch := first | omega | simp) [iv, hgR, hpe, hpl, hpd, htv]
    refine hgo better L H (Nat.le_refl _) (fun _ _ _ _ => rfl) htc (seen_dear h ?_)
    have : p = dear := by omega
    rw [← this]; exact hp
set_option maxHeartbeats 1000000 in
/-- an arc of b that reads nothing, beside a state of a -/
theorem tc_three {f : Arc} {F i j r t x : Nat} {kk kt : List AV → AH → Prop} (ha : a.Ok) (hb : b.Ok) (hS : a.states * b.states ≤ 3000) (hn : n ≤ 61) (hk : k ≤ 61) (hw : WF H) (htc : TC a b n k A B p9 p10 p11 p14 R H better L) (h : RndG (prodM a b) true I O n k Lo better L D) (hf : f ∈ b.arcs) (ho : f.inn = 0) (gF : H.get F = some (.box 53 f.cs)) (hi : i < n) (hj : j < k) (hr : r < k) (hadv : advo true f.out O j = some r) (ht : (t : Int) < a.states)
    (hgo : ∀ better' L' H', H.nx ≤ H'.nx → (∀ j, j < H.nx → j ≠ R → j ≠ p14 → H'.get j = H.get j) → TC a b n k A B p9 p10 p11 p14 R H' better' L' → RndG (prodM a b) true I O n k Lo better' L' (Seen D (arc3 b.states f (t : Int)) i j) → kt [iv ((t + 1 : Nat) : Int)] H') :
    S_wordhoardref_ThroughCost_L7 (.ptr A 0) (.ptr p11 0) (.fn (.func 37) [] [.ptr B 0, .ptr p9 0, .ptr p10 0]) (.fn (.func 38) [] [.ptr p11 0, .ptr p14 0]) [iv (i : Int)] [iv (j : Int)] kk [iv (x : Int)] (.ptr F 0) [iv (r : Int)] [iv (t : Int)] kt H := by
  have hfit := prod_fit ha hb
  have o := hb.2.2.2.2.1 f hf
  have hb1 := ha.1
  have hb2 := ha.2.1
  have hB := htc.gA
  unfold Mac.cs iv at hB
  have hg11 := htc.g11
  have hgR := htc.gR
  have htv := ivn (i := t) (by omega)
  have hmem : arc3 b.states f (t : Int) ∈ (prodM a b).arcs := List.mem_append.2 (.inr (List.mem_flatMap.2 ⟨f, hf, by unfold fam3; rw [if_pos ho]; exact List.mem_map.2 ⟨t, List.mem_range.2 (by omega), rfl⟩⟩))
  have p1 := pair_lt (s := (t : Int)) (t := f.fr) (A := a.states) (B := b.states) (by omega) (by omega) (by omega) (by omega)
  have p2 := pair_lt (s := (t : Int)) (t := f.to) (A := a.states) (B := b.states) (by omega) (by omega) (by omega) (by omega)
  have hst : (prodM a b).states = a.states * b.states := rfl
  obtain ⟨p, hp⟩ := h.tab.at_ (s := (t * b.states + f.fr).toNat) (i := i) (j := j) (by rw [hst]; omega) hi hj
  obtain ⟨q, hq⟩ := h.tab.at_ (s := (t * b.states + f.to).toNat) (i := i) (j := r) (by rw [hst]; omega) hi hr
  have hp0 := h.tab.nonneg (by rw [hst]; omega) hi hj hp
  have hpl := (List.getElem?_eq_some_iff.1 hp).1
  have hpe := nE_get hp
  unfold iv at hpe
  unfold Arc.cs iv at gF
  have hdr : dear = 1152921504606846976 := rfl
  have hlen : L.length ≤ 9223372036854775807 := by
    rw [h.tab.len, hst]
    have h1 : (a.states * b.states).toNat * n * k ≤ 3000 * 61 * 61 := Nat.mul_le_mul (Nat.mul_le_mul (by omega) hn) hk
    omega
  have hw1 : IntKind.i64.wrap (p + f.w) = p + f.w := by rw [IntKind.wrap_i64]; omega
  unfold S_wordhoardref_ThroughCost_L7
  simp (disch := first | omega | simp) [iv, hB, ht, hg11, gF]
  refine cav_pure (by kernel_rfl) (fun H2 hle => c_place (a := a) (hle _ _ htc.gB) (hle _ _ htc.g9) (hle _ _ htc.g10) hS (by omega) ht (by omega) (by omega) hn hk hi hj) ?_
  by_cases hpd : p < 1152921504606846976
  · simp (disch := first | omega | simp) [iv, hgR, hpe, hpl, hpd, gF]
    generalize hNe : AH.up _ 13 = N
    have hNn : N.nx = H.nx + 13 := by rw [← hNe]; rfl
    have hNk : ∀ j, j < H.nx → N.get j = H.get j := fun j _ => by rw [← hNe]; rfl
    clear hNe
    have hNt := htc.keep hw hNk
    have hgFN : N.get F = some (.box 53 [.p (.int .i64 f.fr), .p (.int .i64 f.to), .p (.int .i64 f.inn), .p (.int .i64 f.out), .p (.int .i64 f.w)]) := by rw [hNk _ (hw _ _ gF).1]; exact gF
    refine cav_pure (by kernel_rfl) (fun H2 hle => c_place (a := a) (hle _ _ hNt.gB) (hle _ _ hNt.g9) (hle _ _ hNt.g10) hS (by omega) ht (by omega) (by omega) hn hk hi hr) ?_
    simp (disch := first | omega | simp) [iv, hgFN, hw1]
    refine ca_of (by kernel_rfl) (c_lower (x := q) hNt.g11 hNt.g14 hNt.gR hq hlen) ?_
    intro r0 H2 hl
    obtain ⟨better', L', n1, n2⟩ := seen_low hfit h hNt hmem hi hj hi hr hp (by omega) (by unfold adv arc3; simp) hadv hq hl
    obtain ⟨_, l2, l3, _⟩ := hl
    simp (disch := first | omega | simp) [htv]
    exact hgo better' L' H2 (by omega) (fun j hj h1 h2 => (l3 j h1 h2).trans (hNk j hj)) n1 n2
  · simp (disch := first | omega | simp) [iv, hgR, hpe, hpl, hpd, htv]
    refine hgo better L H (Nat.le_refl _) (fun _ _ _ _ => rfl) htc (seen_dear h ?_)
    have : p = dear := by omega
    rw [← this]; exact hp
end
end Go.Proofs.Ytgkkilbeingleaa

/- The reference's ThroughCost: all arcs at one place. -/
namespace Go.Proofs.Ytgkkilbeingleaa
open Go.RowKit Go.Maps
/-- all but the table and its flag is as it was -/
def Frm (R p14 : Nat) (H H' : AH) : Prop := H.nx ≤ H'.nx ∧ ∀ j, j < H.nx → j ≠ R → j ≠ p14 → H'.get j = H.get j
theorem Frm.refl (R p14 : Nat) (H : AH) : Frm R p14 H H := ⟨Nat.le_refl _, fun _ _ _ _ => rfl⟩
theorem Frm.trans {R p14 : Nat} {H H1 H2 : AH} (h : Frm R p14 H H1) (k : Frm R p14 H1 H2) : Frm R p14 H H2 := ⟨Nat.le_trans h.1 k.1, fun j hj h1 h2 => (k.2 j (Nat.lt_of_lt_of_le hj h.1) h1 h2).trans (h.2 j hj h1 h2)⟩
theorem Frm.of {R p14 : Nat} {H H' : AH} (hn : H.nx ≤ H'.nx) (hk : ∀ j, j < H.nx → H'.get j = H.get j) : Frm R p14 H H' := ⟨hn, fun j hj _ _ => hk j hj⟩
/-- what is looked at, and these arcs at a place -/
def SeenL (D : Arc → Nat → Nat → Prop) (l : List Arc) (i j : Nat) : Arc → Nat → Nat → Prop := fun y i' j' => D y i' j' ∨ (y ∈ l ∧ i' = i ∧ j' = j)
section
variable {a b : Mac} {n k A B p9 p10 p11 p14 R : Nat} {H : AH} {better : Bool} {L Lo I O : List Int} {D : Arc → Nat → Nat → Prop}
set_option maxHeartbeats 1000000 in
theorem tc_ones {f : Arc} {F i j r x : Nat} {kk : List AV → AH → Prop} (ha : a.Ok) (hb : b.Ok) (hS : a.states * b.states ≤ 3000) (hn : n ≤ 61) (hk : k ≤ 61) (hw : WF H) (htc : TC a b n k A B p9 p10 p11 p14 R H better L) (h : RndG (prodM a b) true I O n k Lo better L D) (hf : f ∈ a.arcs) (ho : f.out = 0) (gF : H.get F = some (.box 53 f.cs)) (hi : i < n) (hj : j < k) (hr : r < n) (hadv : adv f.inn I i = some r) (hx : x < 1000000)
    (hgo : ∀ better' L' H', Frm R p14 H H' → TC a b n k A B p9 p10 p11 p14 R H' better' L' → RndG (prodM a b) true I O n k Lo better' L' (SeenL D (fam12 b f) i j) → kk [iv ((x + 1 : Nat) : Int)] H') :
    LoopA Try.prog 1 (S_wordhoardref_ThroughCost_L1 (.ptr B 0) (.ptr p11 0) (.fn (.func 37) [] [.ptr B 0, .ptr p9 0, .ptr p10 0]) (.fn (.func 38) [] [.ptr p11 0, .ptr p14 0]) [iv (i : Int)] [iv (j : Int)] kk [iv (x : Int)] (.ptr F 0) [iv (r : Int)]) [.p (.int .i64 0)] H := by
  have hFR : F ≠ R := fun e => by have := htc.gR; rw [← e, gF] at this; cases this
  have hF14 : F ≠ p14 := fun e => by have := htc.g14; rw [← e, gF] at this; injection this with this; injection this with this; exact absurd this (by decide)
  have hFl := (hw _ _ gF).1
  have hb1 := hb.1
  refine loop_wf (fun t : Nat => [iv t]) (fun t H' => Frm R p14 H H' ∧ (t : Int) ≤ b.states ∧ ∃ better' L', TC a b n k A B p9 p10 p11 p14 R H' better' L' ∧ RndG (prodM a b) true I O n k Lo better' L' (SeenL D ((List.range t).map fun (t : Nat) => arc1 b.states f (t : Int)) i j)) (fun t => b.states.toNat - t) 0 (.refl (Nat.le_refl _)) ⟨.refl _ _ _, by omega, better, L, htc, h.mono fun y i' j' hd _ _ => hd.elim id fun ⟨q, _⟩ => by cases q⟩ ?_
  rintro t H1 hn1 hw1 ⟨hfr, ht, bt, L1, htc1, h1⟩ kt hkt
  have gF1 : H1.get F = some (.box 53 f.cs) := by rw [hfr.2 F hFl hFR hF14]; exact gF
  by_cases htl : (t : Int) < b.states
  · refine tc_one ha hb hS hn hk hw1 htc1 h1 hf ho gF1 hi hj hr hadv htl fun bt' L' H' q1 q2 q3 q4 => ?_
    refine hkt (t + 1) _ _ _ (.refl (by omega)) ⟨hfr.trans ⟨q1, q2⟩, by omega, bt', L', q3, q4.mono fun y i' j' hd _ _ => ?_⟩ (by omega)
    rcases hd with hd | ⟨hm, e1, e2⟩
    · exact .inl (.inl hd)
    · obtain ⟨u, hu, rfl⟩ := List.mem_map.1 hm
      have hu := List.mem_range.1 hu
      by_cases e : u = t
      · subst e; exact .inr ⟨rfl, e1, e2⟩
      · exact .inl (.inr ⟨List.mem_map.2 ⟨u, List.mem_range.2 (by omega), rfl⟩, e1, e2⟩)
  · have hB := htc1.gB
    unfold Mac.cs iv at hB
    have hxv := ivn (i := x) (by omega)
    unfold S_wordhoardref_ThroughCost_L1
    simp (disch := first | omega | simp) [iv, hB, htl, hxv]
    refine hgo bt L1 H1 hfr htc1 (h1.mono fun y i' j' hd _ _ => ?_)
    rcases hd with hd | ⟨hm, e1, e2⟩
    · exact .inl hd
    · unfold fam12 at hm
      rw [if_pos ho] at hm
      rw [show b.states.toNat = t by omega] at hm
      exact .inr ⟨hm, e1, e2⟩
set_option maxHeartbeats 1000000 in
theorem tc_threes {f : Arc} {F i j r x : Nat} {kk : List AV → AH → Prop} (ha : a.Ok) (hb : b.Ok) (hS : a.states * b.states ≤ 3000) (hn : n ≤ 61) (hk : k ≤ 61) (hw : WF H) (htc : TC a b n k A B p9 p10 p11 p14 R H better L) (h : RndG (prodM a b) true I O n k Lo better L D) (hf : f ∈ b.arcs) (ho : f.inn = 0) (gF : H.get F = some (.box 53 f.cs)) (hi : i < n) (hj : j < k) (hr : r < k) (hadv : advo true f.out O j = some r) (hx : x < 1000000)
    (hgo : ∀ better' L' H', Frm R p14 H H' → TC a b n k A B p9 p10 p11 p14 R H' better' L' → RndG (prodM a b) true I O n k Lo better' L' (SeenL D (fam3 a b f) i j) → kk [iv ((x + 1 : Nat) : Int)] H') :
    LoopA Try.prog 1 (S_wordhoardref_ThroughCost_L7 (.ptr A 0) (.ptr p11 0) (.fn (.func 37) [] [.ptr B 0, .ptr p9 0, .ptr p10 0]) (.fn (.func 38) [] [.ptr p11 0, .ptr p14 0]) [iv (i : Int)] [iv (j : Int)] kk [iv (x : Int)] (.ptr F 0) [iv (r : Int)]) [.p (.int .i64 0)] H := by
  have hFR : F ≠ R := fun e => by have := htc.gR; rw [← e, gF] at this; cases this
  have hF14 : F ≠ p14 := fun e => by have := htc.g14; rw [← e, gF] at this; injection this with this; injection this with this; exact absurd this (by decide)
  have hFl := (hw _ _ gF).1
  have hb1 := ha.1
  refine loop_wf (fun t : Nat => [iv t]) (fun t H' => Frm R p14 H H' ∧ (t : Int) ≤ a.states ∧ ∃ better' L', TC a b n k A B p9 p10 p11 p14 R H' better' L' ∧ RndG (prodM a b) true I O n k Lo better' L' (SeenL D ((List.range t).map fun (t : Nat) => arc3 b.states f (t : Int)) i j)) (fun t => a.states.toNat - t) 0 (.refl (Nat.le_refl _)) ⟨.refl _ _ _, by omega, better, L, htc, h.mono fun y i' j' hd _ _ => hd.elim id fun ⟨q, _⟩ => by cases q⟩ ?_
  rintro t H1 hn1 hw1 ⟨hfr, ht, bt, L1, htc1, h1⟩ kt hkt
  have gF1 : H1.get F = some (.box 53 f.cs) := by rw [hfr.2 F hFl hFR hF14]; exact gF
  by_cases htl : (t : Int) < a.states
  · refine tc_three ha hb hS hn hk hw1 htc1 h1 hf ho gF1 hi hj hr hadv htl fun bt' L' H' q1 q2 q3 q4 => ?_
    refine hkt (t + 1) _ _ _ (.refl (by omega)) ⟨hfr.trans ⟨q1, q2⟩, by omega, bt', L', q3, q4.mono fun y i' j' hd _ _ => ?_⟩ (by omega)
    rcases hd with hd | ⟨hm, e1, e2⟩
    · exact .inl (.inl hd)
    · obtain ⟨u, hu, rfl⟩ := List.mem_map.1 hm
      have hu := List.mem_range.1 hu
      by_cases e : u = t
      · subst e; exact .inr ⟨rfl, e1, e2⟩
      · exact .inl (.inr ⟨List.mem_map.2 ⟨u, List.mem_range.2 (by omega), rfl⟩, e1, e2⟩)
  · have hB := htc1.gA
    unfold Mac.cs iv at hB
    have hxv := ivn (i := x) (by omega)
    unfold S_wordhoardref_ThroughCost_L7
    simp (disch := first | omega | simp) [iv, hB, htl, hxv]
    refine hgo bt L1 H1 hfr htc1 (h1.mono fun y i' j' hd _ _ => ?_)
    rcases hd with hd | ⟨hm, e1, e2⟩
    · exact .inl hd
    · unfold fam3 at hm
      rw [if_pos ho] at hm
      rw [show a.states.toNat = t by omega] at hm
      exact .inr ⟨hm, e1, e2⟩
theorem filt_snoc (l : List Arc) (g : Arc) (c : Int) : (l ++ [g]).filter (fun g => decide (g.inn = c)) = if g.inn = c then l.filter (fun g => decide (g.inn = c)) ++ [g] else l.filter (fun g => decide (g.inn = c)) := by
  rw [List.filter_append]
  by_cases h : g.inn = c <;> simp [h]
set_option maxHeartbeats 2000000 in
theorem tc_twos {f : Arc} {F i j r x : Nat} {kk : List AV → AH → Prop} (ha : a.Ok) (hb : b.Ok) (hS : a.states * b.states ≤ 3000) (hn : n ≤ 61) (hk : k ≤ 61) (hk2 : k = O.length + 1) (hw : WF H) (htc : TC a b n k A B p9 p10 p11 p14 R H better L) (h : RndG (prodM a b) true I O n k Lo better L D) (hf : f ∈ a.arcs) (ho : f.out ≠ 0) (gF : H.get F = some (.box 53 f.cs)) (hi : i < n) (hj : j < k) (hr : r < n) (hadv : adv f.inn I i = some r) (hx : x < 1000000)
    (hgo : ∀ better' L' H', Frm R p14 H H' → TC a b n k A B p9 p10 p11 p14 R H' better' L' → RndG (prodM a b) true I O n k Lo better' L' (SeenL D (fam12 b f) i j) → kk [iv ((x + 1 : Nat) : Int)] H') :
    LoopA Try.prog 1 (S_wordhoardref_ThroughCost_L4 (.dsl 1 (nE O)) (.ptr B 0) (.ptr p11 0) (.fn (.func 37) [] [.ptr B 0, .ptr p9 0, .ptr p10 0]) (.fn (.func 38) [] [.ptr p11 0, .ptr p14 0]) [iv (i : Int)] [iv (j : Int)] kk [iv (x : Int)] (.ptr F 0) [iv (r : Int)]) [.p (.int .i64 0)] H := by
  have hFR : F ≠ R := fun e => by have := htc.gR; rw [← e, gF] at this; cases this
  have hF14 : F ≠ p14 := fun e => by have := htc.g14; rw [← e, gF] at this; injection this with this; injection this with this; exact absurd this (by decide)
  have hFl := (hw _ _ gF).1
  have hb3 := hb.2.2.1
  refine loop_wf (fun t : Nat => [iv t]) (fun t H' => Frm R p14 H H' ∧ t ≤ b.arcs.length ∧ ∃ better' L', TC a b n k A B p9 p10 p11 p14 R H' better' L' ∧ RndG (prodM a b) true I O n k Lo better' L' (SeenL D (((b.arcs.take t).filter fun g => decide (g.inn = f.out)).map (arc2 b.states f)) i j)) (fun t => b.arcs.length - t) 0 (.refl (Nat.le_refl _)) ⟨.refl _ _ _, by omega, better, L, htc, h.mono fun y i' j' hd _ _ => hd.elim id fun ⟨q, _⟩ => by cases q⟩ ?_
  rintro t H1 hn1 hw1 ⟨hfr, ht, bt, L1, htc1, h1⟩ kt hkt
  have gF1 : H1.get F = some (.box 53 f.cs) := by rw [hfr.2 F hFl hFR hF14]; exact gF
  have hB := htc1.gB
  unfold Mac.cs iv at hB
  by_cases htl : t < b.arcs.length
  · obtain ⟨g, hg⟩ : ∃ g, b.arcs[t]? = some g := ⟨_, List.getElem?_eq_getElem htl⟩
    have hgg : ∀ h, b.arcs[t]'h = g := fun h => (List.getElem?_eq_some_iff.1 hg).2
    have hgm := List.mem_of_getElem? hg
    have htv := ivn (i := t) (by omega)
    have htk : b.arcs.take (t + 1) = b.arcs.take t ++ [g] := by rw [List.take_add_one, hg]; rfl
    have gF2 := gF1
    unfold Arc.cs iv at gF2
    have hF1 := (hw1 _ _ gF1).1
    have hFG : F ≠ H1.nx + 5 := by omega
    have hmem : ∀ y i' j', SeenL D (((b.arcs.take (t + 1)).filter fun g => decide (g.inn = f.out)).map (arc2 b.states f)) i j y i' j' → SeenL D (((b.arcs.take t).filter fun g => decide (g.inn = f.out)).map (arc2 b.states f)) i j y i' j' ∨ (g.inn = f.out ∧ y = arc2 b.states f g ∧ i' = i ∧ j' = j) := fun y i' j' hd => by
      rcases hd with hd | ⟨hm, e1, e2⟩
      · exact .inl (.inl hd)
      · rw [htk, filt_snoc] at hm
        split at hm
        · rename_i he
          rw [List.map_append, List.mem_append] at hm
          rcases hm with hm | hm
          · exact .inl (.inr ⟨hm, e1, e2⟩)
          · simp at hm; exact .inr ⟨he, hm, e1, e2⟩
        · exact .inl (.inr ⟨hm, e1, e2⟩)
    have hnext : ∀ better' L' H', Frm R p14 H1 H' → TC a b n k A B p9 p10 p11 p14 R H' better' L' → RndG (prodM a b) true I O n k Lo better' L' (SeenL D (((b.arcs.take (t + 1)).filter fun g => decide (g.inn = f.out)).map (arc2 b.states f)) i j) → kt [iv ((t + 1 : Nat) : Int)] H' := fun bt' L' H' q1 q2 q3 => hkt (t + 1) _ _ _ (.refl (by have := q1.1; omega)) ⟨hfr.trans q1, htl, bt', L', q2, q3⟩ (by omega)
    unfold S_wordhoardref_ThroughCost_L4
    have hcells : ∀ z1 z2, ∀ j, j < H1.nx → (((H1.up 7).put (H1.nx + 5) z1).put (H1.nx + 5) z2).get j = H1.get j := fun z1 z2 j hj => by rw [AH.get_put_ne (by omega), AH.get_put_ne (by omega), up_get]
    by_cases hgi : g.inn = f.out
    · simp (disch := first | omega | simp) [iv, hB, htl, hg, hgg, Arc.cs, put_get_ne, gF2, hFG, hgi]
      generalize hNe : AH.put _ _ _ = N
      have hNn : N.nx = H1.nx + 7 := by rw [← hNe]; rfl
      have hNk : ∀ j, j < H1.nx → N.get j = H1.get j := fun j hj => by rw [← hNe]; exact hcells _ _ j hj
      have hNG : N.get (H1.nx + 5) = some (.box 53 g.cs) := by rw [← hNe, put_get]; unfold Arc.cs iv; rw [hgi]
      have hwN : WF N := by
        rw [← hNe]
        exact ((hw1.up 7).box (by simp only [up_nx]; omega) (by repeat (first | exact Cl.p _ | exact Cl.dsl _ _ | exact Cl.any | refine Cl.tup ?_ | refine Cl.agg ?_ | exact Clo.nil | refine Clo.cons ?_ ?_))).box (by simp only [put_nx, up_nx]; omega) (by repeat (first | exact Cl.p _ | exact Cl.dsl _ _ | exact Cl.any | refine Cl.tup ?_ | refine Cl.agg ?_ | exact Clo.nil | refine Clo.cons ?_ ?_))
      clear hNe
      have hNt := htc1.keep hw1 hNk
      have gFN : N.get F = some (.box 53 f.cs) := (hNk F hF1).trans gF1
      have hfrN : Frm R p14 H1 N := .of (by omega) hNk
      have hNG2 := hNG
      unfold Arc.cs iv at hNG2
      unfold S_wordhoardref_ThroughCost_C3
      refine cut_st (fun w : Nat => [iv (w : Int)]) (fun w H' => N = H' ∧ w < k ∧ advo true g.out O j = some w) (fun kc hkc => ?_) ?_
      · have hnone : advo true g.out O j = none → kt [.p (.int .i64 ((t + 1 : Nat) : Int))] N := fun hz => hnext bt L1 N hfrN hNt ((h1.skip (E := fun y i' j' => y = arc2 b.states f g ∧ i' = i ∧ j' = j) fun y i' j' ⟨e1, e2, e3⟩ _ _ => by subst e1 e2 e3; exact stab_out (by unfold arc2; exact hz)).mono fun y i' j' hd _ _ => (hmem y i' j' hd).imp id fun h => h.2)
        by_cases h0 : 0 < g.out
        · by_cases hie : j = O.length
          · subst hie
            simp (disch := first | omega | simp) [iv, hNG2, h0, htv]
            exact hnone (by unfold advo adv; rw [if_pos rfl, if_pos h0, if_neg (by simp)])
          · have hie' : ¬ ((j : Nat) : Int) = (O.length : Int) := by omega
            obtain ⟨y, hy⟩ : ∃ y, O[j]? = some y := ⟨_, List.getElem?_eq_getElem (by omega)⟩
            have hye := nE_get hy
            have hjv := ivn (i := j) (by omega)
            unfold iv at hye
            by_cases hya : y = g.out
            · simp (disch := first | omega | simp) [iv, hNG2, h0, hie', hye, hya, hjv]
              refine ⟨by omega, ?_⟩
              exact hkc (j + 1) _ _ _ (.refl (Nat.le_refl _)) ⟨rfl, by omega, by unfold advo adv; rw [if_pos rfl, if_pos h0, if_pos (by rw [hy, hya])]⟩
            · simp (disch := first | omega | simp) [iv, hNG2, h0, hie', hye, hya, htv]
              refine ⟨by omega, ?_⟩
              exact hnone (by unfold advo adv; rw [if_pos rfl, if_pos h0, if_neg (by rw [hy]; simpa using hya)])
        · simp (disch := first | omega | simp) [iv, hNG2, h0]
          exact hkc j _ _ _ (.refl (Nat.le_refl _)) ⟨rfl, hj, by unfold advo adv; rw [if_pos rfl, if_neg h0]⟩
      rintro w _ _ ⟨rfl, hwk, hadvo⟩
      refine tc_two ha hb hS hn hk hwN hNt h1 hf ho hgm hgi gFN hNG (by omega) hi hj hr hadv hwk hadvo fun bt' L' H' q1 q2 q3 q4 => ?_
      refine hnext bt' L' H' (hfrN.trans ⟨q1, q2⟩) q3 (q4.mono fun y i' j' hd _ _ => (hmem y i' j' hd).imp id fun h => h.2)
    · simp (disch := first | omega | simp) [iv, hB, htl, hg, hgg, Arc.cs, put_get_ne, gF2, hFG, hgi, htv]
      refine hnext bt L1 _ (.of (by simp only [put_nx, up_nx]; omega) (hcells _ _)) (htc1.keep hw1 (hcells _ _)) (h1.mono fun y i' j' hd _ _ => (hmem y i' j' hd).elim id fun h => absurd h.1 hgi)
  · have hxv := ivn (i := x) (by omega)
    unfold S_wordhoardref_ThroughCost_L4
    simp (disch := first | omega | simp) [iv, hB, htl, hxv]
    refine hgo bt L1 H1 hfr htc1 (h1.mono fun y i' j' hd _ _ => ?_)
    rcases hd with hd | ⟨hm, e1, e2⟩
    · exact .inl hd
    · unfold fam12 at hm
      rw [if_neg ho] at hm
      rw [List.take_of_length_le (by omega)]
      exact .inr ⟨hm, e1, e2⟩
end
end Go.Proofs.Ytgkkilbeingleaa

/- The reference's ThroughCost: a place, all of its arcs. -/
namespace Go.Proofs.Ytgkkilbeingleaa
open Go.RowKit Go.Maps
theorem fam12_inn {b : Mac} {f y : Arc} (h : y ∈ fam12 b f) : y.inn = f.inn := by
  unfold fam12 at h
  split at h
  · obtain ⟨t, _, rfl⟩ := List.mem_map.1 h; rfl
  · obtain ⟨g, _, rfl⟩ := List.mem_map.1 h; rfl
theorem fam3_out {a b : Mac} {g y : Arc} (h : y ∈ fam3 a b g) : y.out = g.out := by
  unfold fam3 at h
  split at h
  · obtain ⟨t, _, rfl⟩ := List.mem_map.1 h; rfl
  · cases h
theorem take_flat {β : Type} (F : Arc → List β) (l : List Arc) {t : Nat} {g : Arc} (h : l[t]? = some g) : (l.take (t + 1)).flatMap F = (l.take t).flatMap F ++ F g := by
  rw [List.take_add_one, h, Option.toList_some, List.flatMap_append]; simp
section
variable {a b : Mac} {n k A B p9 p10 p11 p14 R : Nat} {H : AH} {better : Bool} {L Lo I O : List Int} {D : Arc → Nat → Nat → Prop}
set_option maxHeartbeats 2000000 in
/-- the arcs of b that read nothing -/
theorem tc_bs {i j : Nat} {kk : List AV → AH → Prop} (ha : a.Ok) (hb : b.Ok) (hS : a.states * b.states ≤ 3000) (hn : n ≤ 61) (hk : k ≤ 61) (hk2 : k = O.length + 1) (hw : WF H) (htc : TC a b n k A B p9 p10 p11 p14 R H better L) (h : RndG (prodM a b) true I O n k Lo better L D) (hi : i < n) (hj : j < k)
    (hgo : ∀ better' L' H', Frm R p14 H H' → TC a b n k A B p9 p10 p11 p14 R H' better' L' → RndG (prodM a b) true I O n k Lo better' L' (SeenL D (b.arcs.flatMap (fam3 a b)) i j) → kk [iv ((j + 1 : Nat) : Int)] H') :
    LoopA Try.prog 1 (S_wordhoardref_ThroughCost_L10 (.dsl 1 (nE O)) (.ptr A 0) (.ptr B 0) (.ptr p11 0) (.fn (.func 37) [] [.ptr B 0, .ptr p9 0, .ptr p10 0]) (.fn (.func 38) [] [.ptr p11 0, .ptr p14 0]) [iv (i : Int)] kk [iv (j : Int)]) [.p (.int .i64 0)] H := by
  have hb3 := hb.2.2.1
  refine loop_wf (fun t : Nat => [iv t]) (fun t H' => Frm R p14 H H' ∧ t ≤ b.arcs.length ∧ ∃ better' L', TC a b n k A B p9 p10 p11 p14 R H' better' L' ∧ RndG (prodM a b) true I O n k Lo better' L' (SeenL D ((b.arcs.take t).flatMap (fam3 a b)) i j)) (fun t => b.arcs.length - t) 0 (.refl (Nat.le_refl _)) ⟨.refl _ _ _, by omega, better, L, htc, h.mono fun y i' j' hd _ _ => hd.elim id fun ⟨q, _⟩ => by cases q⟩ ?_
  rintro t H1 hn1 hw1 ⟨hfr, ht, bt, L1, htc1, h1⟩ kt hkt
  have hB := htc1.gB
  unfold Mac.cs iv at hB
  unfold S_wordhoardref_ThroughCost_L10
  by_cases htl : t < b.arcs.length
  · obtain ⟨g, hg⟩ : ∃ g, b.arcs[t]? = some g := ⟨_, List.getElem?_eq_getElem htl⟩
    have hgg : ∀ h, b.arcs[t]'h = g := fun h => (List.getElem?_eq_some_iff.1 hg).2
    have hgm := List.mem_of_getElem? hg
    have og := hb.2.2.2.2.1 g hgm
    have htv := ivn (i := t) (by omega)
    have hfl := take_flat (fam3 a b) b.arcs hg
    have hmem : ∀ y i' j', SeenL D ((b.arcs.take (t + 1)).flatMap (fam3 a b)) i j y i' j' → SeenL D ((b.arcs.take t).flatMap (fam3 a b)) i j y i' j' ∨ (y ∈ fam3 a b g ∧ i' = i ∧ j' = j) := fun y i' j' hd => by
      rcases hd with hd | ⟨hm, e1, e2⟩
      · exact .inl (.inl hd)
      · rw [hfl, List.mem_append] at hm
        rcases hm with hm | hm
        · exact .inl (.inr ⟨hm, e1, e2⟩)
        · exact .inr ⟨hm, e1, e2⟩
    have hnext : ∀ better' L' H', Frm R p14 H1 H' → TC a b n k A B p9 p10 p11 p14 R H' better' L' → RndG (prodM a b) true I O n k Lo better' L' (SeenL D ((b.arcs.take (t + 1)).flatMap (fam3 a b)) i j) → kt [iv ((t + 1 : Nat) : Int)] H' := fun bt' L' H' q1 q2 q3 => hkt (t + 1) _ _ _ (.refl (by have := q1.1; omega)) ⟨hfr.trans q1, htl, bt', L', q2, q3⟩ (by omega)
    have hcells : ∀ z1 z2, ∀ j, j < H1.nx → (((H1.up 7).put (H1.nx + 5) z1).put (H1.nx + 5) z2).get j = H1.get j := fun z1 z2 j hj => by rw [AH.get_put_ne (by omega), AH.get_put_ne (by omega), up_get]
    by_cases hgi : 0 < g.inn
    · simp (disch := first | omega | simp) [iv, hB, htl, hg, hgg, Arc.cs, put_get_ne, hgi, htv]
      refine hnext bt L1 _ (.of (by simp only [put_nx, up_nx]; omega) (hcells _ _)) (htc1.keep hw1 (hcells _ _)) (h1.mono fun y i' j' hd _ _ => (hmem y i' j' hd).elim id fun h => ?_)
      have := h.1
      unfold fam3 at this
      rw [if_neg (by omega)] at this
      cases this
    · have hg0 : g.inn = 0 := by omega
      simp (disch := first | omega | simp) [iv, hB, htl, hg, hgg, Arc.cs, put_get_ne, hgi]
      generalize hNe : AH.put _ _ _ = N
      have hNn : N.nx = H1.nx + 7 := by rw [← hNe]; rfl
      have hNk : ∀ j, j < H1.nx → N.get j = H1.get j := fun j hj => by rw [← hNe]; exact hcells _ _ j hj
      have hNG : N.get (H1.nx + 5) = some (.box 53 g.cs) := by rw [← hNe, put_get]; rfl
      have hwN : WF N := by
        rw [← hNe]
        exact ((hw1.up 7).box (by simp only [up_nx]; omega) (by repeat (first | exact Cl.p _ | exact Cl.dsl _ _ | exact Cl.any | refine Cl.tup ?_ | refine Cl.agg ?_ | exact Clo.nil | refine Clo.cons ?_ ?_))).box (by simp only [put_nx, up_nx]; omega) (by repeat (first | exact Cl.p _ | exact Cl.dsl _ _ | exact Cl.any | refine Cl.tup ?_ | refine Cl.agg ?_ | exact Clo.nil | refine Clo.cons ?_ ?_))
      clear hNe
      have hNt := htc1.keep hw1 hNk
      have hfrN : Frm R p14 H1 N := .of (by omega) hNk
      have hNG2 := hNG
      unfold Arc.cs iv at hNG2
      unfold S_wordhoardref_ThroughCost_C9
      refine cut_st (fun w : Nat => [iv (w : Int)]) (fun w H' => N = H' ∧ w < k ∧ advo true g.out O j = some w) (fun kc hkc => ?_) ?_
      · have hnone : advo true g.out O j = none → kt [.p (.int .i64 ((t + 1 : Nat) : Int))] N := fun hz => hnext bt L1 N hfrN hNt ((h1.skip (E := fun y i' j' => y ∈ fam3 a b g ∧ i' = i ∧ j' = j) fun y i' j' ⟨e1, e2, e3⟩ _ _ => by subst e2 e3; exact stab_out (by rw [fam3_out e1]; exact hz)).mono fun y i' j' hd _ _ => hmem y i' j' hd)
        by_cases h0 : 0 < g.out
        · by_cases hie : j = O.length
          · subst hie
            simp (disch := first | omega | simp) [iv, hNG2, h0, htv]
            exact hnone (by unfold advo adv; rw [if_pos rfl, if_pos h0, if_neg (by simp)])
          · have hie' : ¬ ((j : Nat) : Int) = (O.length : Int) := by omega
            obtain ⟨y, hy⟩ : ∃ y, O[j]? = some y := ⟨_, List.getElem?_eq_getElem (by omega)⟩
            have hye := nE_get hy
            have hjv := ivn (i := j) (by omega)
            unfold iv at hye
            by_cases hya : y = g.out
            · simp (disch := first | omega | simp) [iv, hNG2, h0, hie', hye, hya, hjv]
              refine ⟨by omega, ?_⟩
              exact hkc (j + 1) _ _ _ (.refl (Nat.le_refl _)) ⟨rfl, by omega, by unfold advo adv; rw [if_pos rfl, if_pos h0, if_pos (by rw [hy, hya])]⟩
            · simp (disch := first | omega | simp) [iv, hNG2, h0, hie', hye, hya, htv]
              refine ⟨by omega, ?_⟩
              exact hnone (by unfold advo adv; rw [if_pos rfl, if_pos h0, if_neg (by rw [hy]; simpa using hya)])
        · simp (disch := first | omega | simp) [iv, hNG2, h0]
          exact hkc j _ _ _ (.refl (Nat.le_refl _)) ⟨rfl, hj, by unfold advo adv; rw [if_pos rfl, if_neg h0]⟩
      rintro w _ _ ⟨rfl, hwk, hadvo⟩
      unfold S_wordhoardref_ThroughCost_K8
      refine tc_threes ha hb hS hn hk hwN hNt h1 hgm hg0 hNG hi hj hwk hadvo (by omega) fun bt' L' H' q1 q2 q3 => ?_
      exact hnext bt' L' H' (hfrN.trans q1) q2 (q3.mono fun y i' j' hd _ _ => hmem y i' j' hd)
  · have hjv := ivn (i := j) (by omega)
    simp (disch := first | omega | simp) [iv, hB, htl, hjv]
    refine hgo bt L1 H1 hfr htc1 (h1.mono fun y i' j' hd _ _ => ?_)
    rw [List.take_of_length_le (by omega)]
    exact hd
set_option maxHeartbeats 2000000 in
/-- all arcs of the product at one place -/
theorem tc_place {i j : Nat} {kk : List AV → AH → Prop} (ha : a.Ok) (hb : b.Ok) (hS : a.states * b.states ≤ 3000) (hn : n ≤ 61) (hk : k ≤ 61) (hn2 : n = I.length + 1) (hk2 : k = O.length + 1) (hw : WF H) (htc : TC a b n k A B p9 p10 p11 p14 R H better L) (h : RndG (prodM a b) true I O n k Lo better L D) (hi : i < n) (hj : j < k)
    (hgo : ∀ better' L' H', Frm R p14 H H' → TC a b n k A B p9 p10 p11 p14 R H' better' L' → RndG (prodM a b) true I O n k Lo better' L' (SeenL D (prodM a b).arcs i j) → kk [iv ((j + 1 : Nat) : Int)] H') :
    LoopA Try.prog 1 (S_wordhoardref_ThroughCost_L11 (.dsl 1 (nE I)) (.dsl 1 (nE O)) (.ptr A 0) (.ptr B 0) (.ptr p11 0) (.fn (.func 37) [] [.ptr B 0, .ptr p9 0, .ptr p10 0]) (.fn (.func 38) [] [.ptr p11 0, .ptr p14 0]) [iv (i : Int)] kk [iv (j : Int)]) [.p (.int .i64 0)] H := by
  have ha3 := ha.2.2.1
  refine loop_wf (fun t : Nat => [iv t]) (fun t H' => Frm R p14 H H' ∧ t ≤ a.arcs.length ∧ ∃ better' L', TC a b n k A B p9 p10 p11 p14 R H' better' L' ∧ RndG (prodM a b) true I O n k Lo better' L' (SeenL D ((a.arcs.take t).flatMap (fam12 b)) i j)) (fun t => a.arcs.length - t) 0 (.refl (Nat.le_refl _)) ⟨.refl _ _ _, by omega, better, L, htc, h.mono fun y i' j' hd _ _ => hd.elim id fun ⟨q, _⟩ => by cases q⟩ ?_
  rintro t H1 hn1 hw1 ⟨hfr, ht, bt, L1, htc1, h1⟩ kt hkt
  have hA := htc1.gA
  unfold Mac.cs iv at hA
  unfold S_wordhoardref_ThroughCost_L11
  by_cases htl : t < a.arcs.length
  · obtain ⟨f, hf⟩ : ∃ f, a.arcs[t]? = some f := ⟨_, List.getElem?_eq_getElem htl⟩
    have hfg : ∀ h, a.arcs[t]'h = f := fun h => (List.getElem?_eq_some_iff.1 hf).2
    have hfm := List.mem_of_getElem? hf
    have o := ha.2.2.2.2.1 f hfm
    have htv := ivn (i := t) (by omega)
    have hfl := take_flat (fam12 b) a.arcs hf
    have hmem : ∀ y i' j', SeenL D ((a.arcs.take (t + 1)).flatMap (fam12 b)) i j y i' j' → SeenL D ((a.arcs.take t).flatMap (fam12 b)) i j y i' j' ∨ (y ∈ fam12 b f ∧ i' = i ∧ j' = j) := fun y i' j' hd => by
      rcases hd with hd | ⟨hm, e1, e2⟩
      · exact .inl (.inl hd)
      · rw [hfl, List.mem_append] at hm
        rcases hm with hm | hm
        · exact .inl (.inr ⟨hm, e1, e2⟩)
        · exact .inr ⟨hm, e1, e2⟩
    have hnext : ∀ better' L' H', Frm R p14 H1 H' → TC a b n k A B p9 p10 p11 p14 R H' better' L' → RndG (prodM a b) true I O n k Lo better' L' (SeenL D ((a.arcs.take (t + 1)).flatMap (fam12 b)) i j) → kt [iv ((t + 1 : Nat) : Int)] H' := fun bt' L' H' q1 q2 q3 => hkt (t + 1) _ _ _ (.refl (by have := q1.1; omega)) ⟨hfr.trans q1, htl, bt', L', q2, q3⟩ (by omega)
    have hcells : ∀ z1 z2, ∀ j, j < H1.nx → (((H1.up 7).put (H1.nx + 5) z1).put (H1.nx + 5) z2).get j = H1.get j := fun z1 z2 j hj => by rw [AH.get_put_ne (by omega), AH.get_put_ne (by omega), up_get]
    simp (disch := first | omega | simp) [iv, hA, htl]
    unfold S_wordhoardref_ThroughCost_C6
    simp (disch := first | omega | simp) [iv, hA, htl, hf, hfg, Arc.cs, put_get_ne]
    generalize hNe : AH.put _ _ _ = N
    have hNn : N.nx = H1.nx + 7 := by rw [← hNe]; rfl
    have hNk : ∀ j, j < H1.nx → N.get j = H1.get j := fun j hj => by rw [← hNe]; exact hcells _ _ j hj
    have hNG : N.get (H1.nx + 5) = some (.box 53 f.cs) := by rw [← hNe, put_get]; rfl
    have hwN : WF N := by
      rw [← hNe]
      exact ((hw1.up 7).box (by simp only [up_nx]; omega) (by repeat (first | exact Cl.p _ | exact Cl.dsl _ _ | exact Cl.any | refine Cl.tup ?_ | refine Cl.agg ?_ | exact Clo.nil | refine Clo.cons ?_ ?_))).box (by simp only [put_nx, up_nx]; omega) (by repeat (first | exact Cl.p _ | exact Cl.dsl _ _ | exact Cl.any | refine Cl.tup ?_ | refine Cl.agg ?_ | exact Clo.nil | refine Clo.cons ?_ ?_))
    clear hNe
    have hNt := htc1.keep hw1 hNk
    have hfrN : Frm R p14 H1 N := .of (by omega) hNk
    have hNG2 := hNG
    unfold Arc.cs iv at hNG2
    refine cut_st (fun w : Nat => [iv (w : Int)]) (fun w H' => N = H' ∧ w < n ∧ adv f.inn I i = some w) (fun kc hkc => ?_) ?_
    · have hnone : adv f.inn I i = none → kt [.p (.int .i64 ((t + 1 : Nat) : Int))] N := fun hz => hnext bt L1 N hfrN hNt ((h1.skip (E := fun y i' j' => y ∈ fam12 b f ∧ i' = i ∧ j' = j) fun y i' j' ⟨e1, e2, e3⟩ _ _ => by subst e2 e3; exact stab_in (by rw [fam12_inn e1]; exact hz)).mono fun y i' j' hd _ _ => hmem y i' j' hd)
      by_cases h0 : 0 < f.inn
      · by_cases hie : i = I.length
        · subst hie
          simp (disch := first | omega | simp) [iv, hNG2, h0, htv]
          exact hnone (by unfold adv; rw [if_pos h0, if_neg (by simp)])
        · have hie' : ¬ ((i : Nat) : Int) = (I.length : Int) := by omega
          obtain ⟨y, hy⟩ : ∃ y, I[i]? = some y := ⟨_, List.getElem?_eq_getElem (by omega)⟩
          have hye := nE_get hy
          have hiv := ivn (i := i) (by omega)
          unfold iv at hye
          by_cases hya : y = f.inn
          · simp (disch := first | omega | simp) [iv, hNG2, h0, hie', hye, hya, hiv]
            refine ⟨by omega, ?_⟩
            exact hkc (i + 1) _ _ _ (.refl (Nat.le_refl _)) ⟨rfl, by omega, by unfold adv; rw [if_pos h0, if_pos (by rw [hy, hya])]⟩
          · simp (disch := first | omega | simp) [iv, hNG2, h0, hie', hye, hya, htv]
            refine ⟨by omega, ?_⟩
            exact hnone (by unfold adv; rw [if_pos h0, if_neg (by rw [hy]; simpa using hya)])
      · simp (disch := first | omega | simp) [iv, hNG2, h0]
        exact hkc i _ _ _ (.refl (Nat.le_refl _)) ⟨rfl, hi, by unfold adv; rw [if_neg h0]⟩
    rintro w _ _ ⟨rfl, hwn, hadv⟩
    unfold S_wordhoardref_ThroughCost_K5
    have hend : ∀ bt' L' H', Frm R p14 N H' → TC a b n k A B p9 p10 p11 p14 R H' bt' L' → RndG (prodM a b) true I O n k Lo bt' L' (SeenL (SeenL D ((a.arcs.take t).flatMap (fam12 b)) i j) (fam12 b f) i j) → kt [iv ((t + 1 : Nat) : Int)] H' := fun bt' L' H' q1 q2 q3 => hnext bt' L' H' (hfrN.trans q1) q2 (q3.mono fun y i' j' hd _ _ => hmem y i' j' hd)
    by_cases ho : f.out = 0
    · simp (disch := first | omega | simp) [iv, hNG2, ho]
      exact tc_ones ha hb hS hn hk hwN hNt h1 hfm ho hNG hi hj hwn hadv (by omega) hend
    · simp (disch := first | omega | simp) [iv, hNG2, ho]
      exact tc_twos ha hb hS hn hk hk2 hwN hNt h1 hfm ho hNG hi hj hwn hadv (by omega) hend
  · simp (disch := first | omega | simp) [iv, hA, htl]
    rw [List.take_of_length_le (by omega)] at h1
    refine tc_bs ha hb hS hn hk hk2 hw1 htc1 h1 hi hj fun bt' L' H' q1 q2 q3 => hgo bt' L' H' (hfr.trans q1) q2 (q3.mono fun y i' j' hd _ _ => ?_)
    rcases hd with hd | ⟨hm, e1, e2⟩
    · exact .inl (.inl hd)
    · rcases List.mem_append.1 (show y ∈ a.arcs.flatMap (fam12 b) ++ b.arcs.flatMap (fam3 a b) from hm) with hm | hm
      · exact .inl (.inr ⟨hm, e1, e2⟩)
      · exact .inr ⟨hm, e1, e2⟩
end
end Go.Proofs.Ytgkkilbeingleaa

/- The reference's ThroughCost: the least cost of the product. -/
namespace Go.Proofs.Ytgkkilbeingleaa
open Go.RowKit Go.Maps
structure LeastG (m : Mac) (I O : List Int) (P : Fin_ → Prop) (v : Int) : Prop where
  le : ∀ f, P f → ∀ d, Wk m true 0 I O f.st d → v ≤ d + f.w
  top : v ≤ dear
  at_ : v < dear → Acc m true I O v
theorem LeastG.all {m : Mac} {I O : List Int} {P : Fin_ → Prop} {v : Int} (h : LeastG m I O P v) (hP : ∀ f ∈ m.fins, P f) : Least (Acc m true I O) v :=
  ⟨fun c ⟨f, hf, d, hw, e⟩ => by rw [e]; exact h.le f (hP f hf) d hw, h.top, h.at_⟩
theorem LeastG.next {m : Mac} {I O L : List Int} {P Q : Fin_ → Prop} {v u : Int} {n k : Nat} (hl : LeastG m I O P v) (h : Tab m true I O n k L) (hm : m.Fit) (hn : n = I.length + 1) (hk : k = O.length + 1) (hs : ∀ a ∈ m.arcs, ∀ i j, i < n → j < k → Stab true I O n k L a i j) {f : Fin_} (hf : f ∈ m.fins) (hu : L[ix n k f.st.toNat I.length O.length]? = some u) (hQ : ∀ g, Q g → P g ∨ g = f) :
    LeastG m I O Q (if u < dear ∧ u + f.w < v then u + f.w else v) := by
  obtain ⟨e1, e2⟩ := h.end_ hm hn (by rw [if_pos rfl]; exact hk) hs hf (v := u) (by rw [show k - 1 = O.length by omega]; exact hu)
  have hb := hm.2.2 f hf
  have hkO : O.take (k - 1) = O := by rw [hk]; simp
  rw [hkO] at e2
  have ht := hl.top
  split
  · rename_i hc
    refine ⟨fun g hg d hw => ?_, by omega, fun _ => ⟨f, hf, u, (e2 hc.1).2, rfl⟩⟩
    rcases hQ g hg with h1 | rfl
    · have := hl.le g h1 d hw; omega
    · have := e1 d ⟨O, fun _ => rfl, hw⟩; omega
  · rename_i hc
    refine ⟨fun g hg d hw => ?_, ht, hl.at_⟩
    rcases hQ g hg with h1 | rfl
    · exact hl.le g h1 d hw
    · have := e1 d ⟨O, fun _ => rfl, hw⟩
      by_cases hud : u < dear
      · have : ¬ u + g.w < v := fun h => hc ⟨hud, h⟩
        omega
      · omega
end Go.Proofs.Ytgkkilbeingleaa

/- A machine whose states are numbers of those that are reached. Plain. -/
namespace Go.Proofs.Ytgkkilbeingleaa
/-- x is P, where just the states of l are there, by their numbers in it -/
structure Num (P x : Mac) (l : List Int) : Prop where
  zero : l[0]? = some 0
  arcs : ∀ a ∈ x.arcs, ∃ y ∈ P.arcs, 0 ≤ a.fr ∧ 0 ≤ a.to ∧ l[a.fr.toNat]? = some y.fr ∧ l[a.to.toNat]? = some y.to ∧ a.inn = y.inn ∧ a.out = y.out ∧ a.w = y.w
  all : ∀ y ∈ P.arcs, ∀ k : Nat, l[k]? = some y.fr → ∃ k' : Nat, l[k']? = some y.to ∧ (⟨(k : Int), (k' : Int), y.inn, y.out, y.w⟩ : Arc) ∈ x.arcs
  fins : ∀ f ∈ x.fins, ∃ g ∈ P.fins, 0 ≤ f.st ∧ l[f.st.toNat]? = some g.st ∧ f.w = g.w
  allf : ∀ g ∈ P.fins, ∀ k : Nat, l[k]? = some g.st → (⟨(k : Int), g.w⟩ : Fin_) ∈ x.fins
theorem Num.to {P x : Mac} {l : List Int} (h : Num P x l) {told : Bool} {I O : List Int} {p q c : Int} (hw : Wk x told p I O q c) : p = 0 → 0 ≤ q ∧ ∃ s, l[q.toNat]? = some s ∧ Wk P told 0 I O s c := by
  intro hp
  induction hw with
  | nil => subst hp; exact ⟨by omega, 0, h.zero, .nil⟩
  | snoc _ ha ih =>
    obtain ⟨_, s, hs, hw⟩ := ih
    obtain ⟨y, hy, e1, e2, e3, e4, e5, e6, e7⟩ := h.arcs _ ha
    rw [e3] at hs; injection hs with hs; subst hs
    have := hw.snoc hy
    rw [← e5, ← e6, ← e7] at this
    exact ⟨e2, _, e4, this⟩
theorem Num.from_ {P x : Mac} {l : List Int} (h : Num P x l) {told : Bool} {I O : List Int} {p s c : Int} (hw : Wk P told p I O s c) : p = 0 → ∃ k : Nat, l[k]? = some s ∧ Wk x told 0 I O (k : Int) c := by
  intro hp
  induction hw with
  | nil => subst hp; exact ⟨0, h.zero, .nil⟩
  | snoc _ hy ih =>
    obtain ⟨k, hk, hw⟩ := ih
    obtain ⟨k', hk', hm⟩ := h.all _ hy k hk
    exact ⟨k', hk', hw.snoc (a := ⟨(k : Int), (k' : Int), _, _, _⟩) hm⟩
theorem Num.acc {P x : Mac} {l : List Int} (h : Num P x l) {told : Bool} {I O : List Int} {c : Int} : Acc x told I O c ↔ Acc P told I O c := by
  constructor
  · rintro ⟨f, hf, d, hw, e⟩
    obtain ⟨_, s, hs, hw'⟩ := h.to hw rfl
    obtain ⟨g, hg, _, h2, h3⟩ := h.fins f hf
    rw [h2] at hs; injection hs with hs; subst hs
    exact ⟨g, hg, d, hw', by rw [← h3]; exact e⟩
  · rintro ⟨g, hg, d, hw, e⟩
    obtain ⟨k, hk, hw'⟩ := h.from_ hw rfl
    exact ⟨_, h.allf g hg k hk, d, hw', e⟩
end Go.Proofs.Ytgkkilbeingleaa

/- The law of Through, given what Through answers (its walk is left). -/
namespace Go.Proofs.Ytgkkilbeingleaa
open Go.RowKit Go.Maps
end Go.Proofs.Ytgkkilbeingleaa

/- The states of a machine numbered as they are reached, round by round. Plain. -/
namespace Go.Proofs.Ytgkkilbeingleaa
def jobsAt (P : Mac) (q : Int) : List Arc := P.arcs.filter fun y => decide (y.fr = q)
structure NS where
  l : List Int
  arcs : List Arc
  c : Bool
def lA (l : List Int) (q : Int) : List Int := if q ∈ l then l else l ++ [q]
def NS.add (k : Nat) (s : NS) (y : Arc) : NS := ⟨lA s.l y.to, s.arcs ++ [⟨(k : Int), ((lA s.l y.to).idxOf y.to : Nat), y.inn, y.out, y.w⟩], s.c || decide (1000000 < y.w)⟩
def NS.round (P : Mac) (s : NS) (k : Nat) : NS := match s.l[k]? with
  | some q => (jobsAt P q).foldl (NS.add k) s
  | none => s
theorem lA_mem (l : List Int) (q : Int) : q ∈ lA l q := by unfold lA; split <;> simp [*]
theorem lA_pre (l : List Int) (q : Int) : ∃ e, lA l q = l ++ e := by
  unfold lA; split
  · exact ⟨[], by simp⟩
  · exact ⟨_, rfl⟩
theorem lA_at (l : List Int) (q : Int) : (lA l q)[(lA l q).idxOf q]? = some q := by
  have h := List.idxOf_lt_length_iff.2 (lA_mem l q)
  rw [List.getElem?_eq_getElem h, List.getElem_idxOf h]
/-- later than s -/
def NS.Le (s t : NS) : Prop := (∃ e, t.l = s.l ++ e) ∧ (∃ e, t.arcs = s.arcs ++ e) ∧ (s.c = true → t.c = true)
theorem NS.Le.refl (s : NS) : s.Le s := ⟨⟨[], by simp⟩, ⟨[], by simp⟩, id⟩
theorem NS.Le.trans {s t u : NS} (h : s.Le t) (k : t.Le u) : s.Le u := by
  obtain ⟨⟨e1, h1⟩, ⟨f1, h2⟩, h3⟩ := h
  obtain ⟨⟨e2, k1⟩, ⟨f2, k2⟩, k3⟩ := k
  exact ⟨⟨e1 ++ e2, by rw [k1, h1, List.append_assoc]⟩, ⟨f1 ++ f2, by rw [k2, h2, List.append_assoc]⟩, fun h => k3 (h3 h)⟩
theorem NS.Le.at_ {s t : NS} (h : s.Le t) {k : Nat} {q : Int} (hk : s.l[k]? = some q) : t.l[k]? = some q := by
  obtain ⟨⟨e, h1⟩, _⟩ := h
  rw [h1, List.getElem?_append_left (List.getElem?_eq_some_iff.1 hk).1]; exact hk
theorem NS.Le.arc {s t : NS} (h : s.Le t) {a : Arc} (ha : a ∈ s.arcs) : a ∈ t.arcs := by
  obtain ⟨_, ⟨e, h1⟩, _⟩ := h
  rw [h1]; exact List.mem_append_left _ ha
theorem NS.add_le (k : Nat) (s : NS) (y : Arc) : s.Le (s.add k y) := ⟨lA_pre _ _, ⟨_, rfl⟩, fun h => by unfold NS.add; simp [h]⟩
/-- what holds of what is under way -/
structure NInv (P : Mac) (s : NS) : Prop where
  zero : s.l[0]? = some 0
  nd : s.l.Nodup
  rg : ∀ q ∈ s.l, 0 ≤ q ∧ q < P.states
  arcs : ∀ a ∈ s.arcs, ∃ y ∈ P.arcs, 0 ≤ a.fr ∧ 0 ≤ a.to ∧ s.l[a.fr.toNat]? = some y.fr ∧ s.l[a.to.toNat]? = some y.to ∧ a.inn = y.inn ∧ a.out = y.out ∧ a.w = y.w
  cost : s.c = false → ∀ a ∈ s.arcs, a.w ≤ 1000000
theorem lA_nodup {l : List Int} {q : Int} (h : l.Nodup) : (lA l q).Nodup := by
  unfold lA
  split
  · exact h
  · rename_i hq
    exact List.nodup_append.2 ⟨h, by simp, fun x hx y hy e => by simp at hy; subst hy; subst e; exact hq hx⟩
theorem NInv.add {P : Mac} {s : NS} {k : Nat} {y : Arc} (h : NInv P s) (hP : P.Fit) (hy : y ∈ P.arcs) (hk : s.l[k]? = some y.fr) : NInv P (s.add k y) := by
  have hle := NS.add_le k s y
  have hb := hP.2.1 y hy
  refine ⟨hle.at_ h.zero, lA_nodup h.nd, fun q hq => ?_, fun a ha => ?_, fun hc a ha => ?_⟩
  · unfold NS.add lA at hq
    dsimp only at hq
    split at hq
    · exact h.rg q hq
    · rcases List.mem_append.1 hq with hq | hq
      · exact h.rg q hq
      · simp at hq; subst hq; omega
  · rcases List.mem_append.1 (show a ∈ s.arcs ++ [_] from ha) with ha | ha
    · obtain ⟨y', q1, q2, q3, q4, q5, q6⟩ := h.arcs a ha
      exact ⟨y', q1, q2, q3, hle.at_ q4, hle.at_ q5, q6⟩
    · rw [List.mem_singleton] at ha
      subst ha
      refine ⟨y, hy, Int.natCast_nonneg _, Int.natCast_nonneg _, ?_, ?_, rfl, rfl, rfl⟩
      · exact hle.at_ hk
      · exact lA_at s.l y.to
  · have hc' : s.c = false ∧ ¬ 1000000 < y.w := by unfold NS.add at hc; simpa using hc
    rcases List.mem_append.1 (show a ∈ s.arcs ++ [_] from ha) with ha | ha
    · exact h.cost hc'.1 a ha
    · rw [List.mem_singleton] at ha
      subst ha
      exact Int.not_lt.1 hc'.2
end Go.Proofs.Ytgkkilbeingleaa
