/- Texts that the proof rests on, part 19: what each holds stands at its head. -/
import Derived.Test.YtgkkilbeingleaaMt18

/- The reference's ThroughCost: all arcs at one place. -/
namespace Go.Proofs.Ytgkkilbeingleaa
open Go.RowKit Go.Maps
/-- all but the table and its flag is as it was -/
def Frm (R p14 : Nat) (H H' : AH) : Prop := H.nx ≤ H'.nx ∧ ∀ j, j < H.nx → j ≠ R → j ≠ p14 → H'.get j = H.get j
theorem Frm.refl (R p14 : Nat) (H : AH) : Frm R p14 H H := ⟨Nat.le_refl _, fun _ _ _ _ => rfl⟩
theorem Frm.trans {R p14 : Nat} {H H1 H2 : AH} (h : Frm R p14 H H1) (k : Frm R p14 H1 H2) : Frm R p14 H H2 := ⟨Nat.le_trans h.1 k.1, fun j hj h1 h2 => (k.2 j (Nat.lt_of_lt_of_le hj h.1) h1 h2).trans (h.2 j hj h1 h2)⟩
theorem Frm.of {R p14 : Nat} {H H' : AH} (hn : H.nx ≤ H'.nx) (hk : ∀ j, j < H.nx → H'.get j = H.get j) : Frm R p14 H H' := ⟨hn, fun j hj _ _ => hk j hj⟩
/-- what is looked at, and these arcs at a place -/
def SeenL (D : Arc → Nat → Nat → Prop) (l : List Arc) (i j : Nat) : Arc → Nat → Nat → Prop := fun y i' j' => D y i' j' ∨ (y ∈ l ∧ i' = i ∧ j' = j)
section
variable {a b : Mac} {n k A B p9 p10 p11 p14 R : Nat} {H : AH} {better : Bool} {L Lo I O : List Int} {D : Arc → Nat → Nat → Prop}
set_option maxHeartbeats 1000000 in
theorem tc_ones {f : Arc} {F i j r x : Nat} {kk : List AV → AH → Prop} (ha : a.Ok) (hb : b.Ok) (hS : a.states * b.states ≤ 3000) (hn : n ≤ 61) (hk : k ≤ 61) (hw : WF H) (htc : TC a b n k A B p9 p10 p11 p14 R H better L) (h : RndG (prodM a b) true I O n k Lo better L D) (hf : f ∈ a.arcs) (ho : f.out = 0) (gF : H.get F = some (.box 53 f.cs)) (hi : i < n) (hj : j < k) (hr : r < n) (hadv : adv f.inn I i = some r) (hx : x < 1000000)
    (hgo : ∀ better' L' H', Frm R p14 H H' → TC a b n k A B p9 p10 p11 p14 R H' better' L' → RndG (prodM a b) true I O n k Lo better' L' (SeenL D (fam12 b f) i j) → kk [iv ((x + 1 : Nat) : Int)] H') :
    LoopA Try.prog 1 (S_wordhoardref_ThroughCost_L1 (.ptr B 0) (.ptr p11 0) (.fn (.func 37) [] [.ptr B 0, .ptr p9 0, .ptr p10 0]) (.fn (.func 38) [] [.ptr p11 0, .ptr p14 0]) [iv (i : Int)] [iv (j : Int)] kk [iv (x : Int)] (.ptr F 0) [iv (r : Int)]) [.p (.int .i64 0)] H := by
  have hFR : F ≠ R := fun e => by have := htc.gR; rw [← e, gF] at this; cases this
  have hF14 : F ≠ p14 := fun e => by have := htc.g14; rw [← e, gF] at this; injection this with this; injection this with this; exact absurd this (by decide)
  have hFl := (hw _ _ gF).1
  have hb1 := hb.1
  refine loop_wf (fun t : Nat => [iv t]) (fun t H' => Frm R p14 H H' ∧ (t : Int) ≤ b.states ∧ ∃ better' L', TC a b n k A B p9 p10 p11 p14 R H' better' L' ∧ RndG (prodM a b) true I O n k Lo better' L' (SeenL D ((List.range t).map fun (t : Nat) => arc1 b.states f (t : Int)) i j)) (fun t => b.states.toNat - t) 0 (.refl (Nat.le_refl _)) ⟨.refl _ _ _, by omega, better, L, htc, h.mono fun y i' j' hd _ _ => hd.elim id fun ⟨q, _⟩ => by cases q⟩ ?_
  rintro t H1 hn1 hw1 ⟨hfr, ht, bt, L1, htc1, h1⟩ kt hkt
  have gF1 : H1.get F = some (.box 53 f.cs) := by rw [hfr.2 F hFl hFR hF14]; exact gF
  by_cases htl : (t : Int) < b.states
  · refine tc_one ha hb hS hn hk hw1 htc1 h1 hf ho gF1 hi hj hr hadv htl fun bt' L' H' q1 q2 q3 q4 => ?_
    refine hkt (t + 1) _ _ _ (.refl (by omega)) ⟨hfr.trans ⟨q1, q2⟩, by omega, bt', L', q3, q4.mono fun y i' j' hd _ _ => ?_⟩ (by omega)
    rcases hd with hd | ⟨hm, e1, e2⟩
    · exact .inl (.inl hd)
    · obtain ⟨u, hu, rfl⟩ := List.mem_map.1 hm
      have hu := List.mem_range.1 hu
      by_cases e : u = t
      · subst e; exact .inr ⟨rfl, e1, e2⟩
      · exact .inl (.inr ⟨List.mem_map.2 ⟨u, List.mem_range.2 (by omega), rfl⟩, e1, e2⟩)
  · have hB := htc1.gB
    unfold Mac.cs iv at hB
    have hxv := ivn (i := x) (by omega)
    unfold S_wordhoardref_ThroughCost_L1
    simp (disch := first | omega | simp) [iv, hB, htl, hxv]
    refine hgo bt L1 H1 hfr htc1 (h1.mono fun y i' j' hd _ _ => ?_)
    rcases hd with hd | ⟨hm, e1, e2⟩
    · exact .inl hd
    · unfold fam12 at hm
      rw [if_pos ho] at hm
      rw [show b.states.toNat = t by omega] at hm
      exact .inr ⟨hm, e1, e2⟩
set_option maxHeartbeats 1000000 in
theorem tc_threes {f : Arc} {F i j r x : Nat} {kk : List AV → AH → Prop} (ha : a.Ok) (hb : b.Ok) (hS : a.states * b.states ≤ 3000) (hn : n ≤ 61) (hk : k ≤ 61) (hw : WF H) (htc : TC a b n k A B p9 p10 p11 p14 R H better L) (h : RndG (prodM a b) true I O n k Lo better L D) (hf : f ∈ b.arcs) (ho : f.inn = 0) (gF : H.get F = some (.box 53 f.cs)) (hi : i < n) (hj : j < k) (hr : r < k) (hadv : advo true f.out O j = some r) (hx : x < 1000000)
    (hgo : ∀ better' L' H', Frm R p14 H H' → TC a b n k A B p9 p10 p11 p14 R H' better' L' → RndG (prodM a b) true I O n k Lo better' L' (SeenL D (fam3 a b f) i j) → kk [iv ((x + 1 : Nat) : Int)] H') :
    LoopA Try.prog 1 (S_wordhoardref_ThroughCost_L7 (.ptr A 0) (.ptr p11 0) (.fn (.func 37) [] [.ptr B 0, .ptr p9 0, .ptr p10 0]) (.fn (.func 38) [] [.ptr p11 0, .ptr p14 0]) [iv (i : Int)] [iv (j : Int)] kk [iv (x : Int)] (.ptr F 0) [iv (r : Int)]) [.p (.int .i64 0)] H := by
  have hFR : F ≠ R := fun e => by have := htc.gR; rw [← e, gF] at this; cases this
  have hF14 : F ≠ p14 := fun e => by have := htc.g14; rw [← e, gF] at this; injection this with this; injection this with this; exact absurd this (by decide)
  have hFl := (hw _ _ gF).1
  have hb1 := ha.1
  refine loop_wf (fun t : Nat => [iv t]) (fun t H' => Frm R p14 H H' ∧ (t : Int) ≤ a.states ∧ ∃ better' L', TC a b n k A B p9 p10 p11 p14 R H' better' L' ∧ RndG (prodM a b) true I O n k Lo better' L' (SeenL D ((List.range t).map fun (t : Nat) => arc3 b.states f (t : Int)) i j)) (fun t => a.states.toNat - t) 0 (.refl (Nat.le_refl _)) ⟨.refl _ _ _, by omega, better, L, htc, h.mono fun y i' j' hd _ _ => hd.elim id fun ⟨q, _⟩ => by cases q⟩ ?_
  rintro t H1 hn1 hw1 ⟨hfr, ht, bt, L1, htc1, h1⟩ kt hkt
  have gF1 : H1.get F = some (.box 53 f.cs) := by rw [hfr.2 F hFl hFR hF14]; exact gF
  by_cases htl : (t : Int) < a.states
  · refine tc_three ha hb hS hn hk hw1 htc1 h1 hf ho gF1 hi hj hr hadv htl fun bt' L' H' q1 q2 q3 q4 => ?_
    refine hkt (t + 1) _ _ _ (.refl (by omega)) ⟨hfr.trans ⟨q1, q2⟩, by omega, bt', L', q3, q4.mono fun y i' j' hd _ _ => ?_⟩ (by omega)
    rcases hd with hd | ⟨hm, e1, e2⟩
    · exact .inl (.inl hd)
    · obtain ⟨u, hu, rfl⟩ := List.mem_map.1 hm
      have hu := List.mem_range.1 hu
      by_cases e : u = t
      · subst e; exact .inr ⟨rfl, e1, e2⟩
      · exact .inl (.inr ⟨List.mem_map.2 ⟨u, List.mem_range.2 (by omega), rfl⟩, e1, e2⟩)
  · have hB := htc1.gA
    unfold Mac.cs iv at hB
    have hxv := ivn (i := x) (by omega)
    unfold S_wordhoardref_ThroughCost_L7
    simp (disch := first | omega | simp) [iv, hB, htl, hxv]
    refine hgo bt L1 H1 hfr htc1 (h1.mono fun y i' j' hd _ _ => ?_)
    rcases hd with hd | ⟨hm, e1, e2⟩
    · exact .inl hd
    · unfold fam3 at hm
      rw [if_pos ho] at hm
      rw [show a.states.toNat = t by omega] at hm
      exact .inr ⟨hm, e1, e2⟩
theorem filt_snoc (l : List Arc) (g : Arc) (c : Int) : (l ++ [g]).filter (fun g => decide (g.inn = c)) = if g.inn = c then l.filter (fun g => decide (g.inn = c)) ++ [g] else l.filter (fun g => decide (g.inn = c)) := by
  rw [List.filter_append]
  by_cases h : g.inn = c <;> simp [h]
set_option maxHeartbeats 2000000 in
theorem tc_twos {f : Arc} {F i j r x : Nat} {kk : List AV → AH → Prop} (ha : a.Ok) (hb : b.Ok) (hS : a.states * b.states ≤ 3000) (hn : n ≤ 61) (hk : k ≤ 61) (hk2 : k = O.length + 1) (hw : WF H) (htc : TC a b n k A B p9 p10 p11 p14 R H better L) (h : RndG (prodM a b) true I O n k Lo better L D) (hf : f ∈ a.arcs) (ho : f.out ≠ 0) (gF : H.get F = some (.box 53 f.cs)) (hi : i < n) (hj : j < k) (hr : r < n) (hadv : adv f.inn I i = some r) (hx : x < 1000000)
    (hgo : ∀ better' L' H', Frm R p14 H H' → TC a b n k A B p9 p10 p11 p14 R H' better' L' → RndG (prodM a b) true I O n k Lo better' L' (SeenL D (fam12 b f) i j) → kk [iv ((x + 1 : Nat) : Int)] H') :
    LoopA Try.prog 1 (S_wordhoardref_ThroughCost_L4 (.dsl 1 (nE O)) (.ptr B 0) (.ptr p11 0) (.fn (.func 37) [] [.ptr B 0, .ptr p9 0, .ptr p10 0]) (.fn (.func 38) [] [.ptr p11 0, .ptr p14 0]) [iv (i : Int)] [iv (j : Int)] kk [iv (x : Int)] (.ptr F 0) [iv (r : Int)]) [.p (.int .i64 0)] H := by
  have hFR : F ≠ R := fun e => by have := htc.gR; rw [← e, gF] at this; cases this
  have hF14 : F ≠ p14 := fun e => by have := htc.g14; rw [← e, gF] at this; injection this with this; injection this with this; exact absurd this (by decide)
  have hFl := (hw _ _ gF).1
  have hb3 := hb.2.2.1
  refine loop_wf (fun t : Nat => [iv t]) (fun t H' => Frm R p14 H H' ∧ t ≤ b.arcs.length ∧ ∃ better' L', TC a b n k A B p9 p10 p11 p14 R H' better' L' ∧ RndG (prodM a b) true I O n k Lo better' L' (SeenL D (((b.arcs.take t).filter fun g => decide (g.inn = f.out)).map (arc2 b.states f)) i j)) (fun t => b.arcs.length - t) 0 (.refl (Nat.le_refl _)) ⟨.refl _ _ _, by omega, better, L, htc, h.mono fun y i' j' hd _ _ => hd.elim id fun ⟨q, _⟩ => by cases q⟩ ?_
  rintro t H1 hn1 hw1 ⟨hfr, ht, bt, L1, htc1, h1⟩ kt hkt
  have gF1 : H1.get F = some (.box 53 f.cs) := by rw [hfr.2 F hFl hFR hF14]; exact gF
  have hB := htc1.gB
  unfold Mac.cs iv at hB
  by_cases htl : t < b.arcs.length
  · obtain ⟨g, hg⟩ : ∃ g, b.arcs[t]? = some g := ⟨_, List.getElem?_eq_getElem htl⟩
    have hgg : ∀ h, b.arcs[t]'h = g := fun h => (List.getElem?_eq_some_iff.1 hg).2
    have hgm := List.mem_of_getElem? hg
    have htv := ivn (i := t) (by omega)
    have htk : b.arcs.take (t + 1) = b.arcs.take t ++ [g] := by rw [List.take_add_one, hg]; rfl
    have gF2 := gF1
    unfold Arc.cs iv at gF2
    have hF1 := (hw1 _ _ gF1).1
    have hFG : F ≠ H1.nx + 5 := by omega
    have hmem : ∀ y i' j', SeenL D (((b.arcs.take (t + 1)).filter fun g => decide (g.inn = f.out)).map (arc2 b.states f)) i j y i' j' → SeenL D (((b.arcs.take t).filter fun g => decide (g.inn = f.out)).map (arc2 b.states f)) i j y i' j' ∨ (g.inn = f.out ∧ y = arc2 b.states f g ∧ i' = i ∧ j' = j) := fun y i' j' hd => by
      rcases hd with hd | ⟨hm, e1, e2⟩
      · exact .inl (.inl hd)
      · rw [htk, filt_snoc] at hm
        split at hm
        · rename_i he
          rw [List.map_append, List.mem_append] at hm
          rcases hm with hm | hm
          · exact .inl (.inr ⟨hm, e1, e2⟩)
          · simp at hm; exact .inr ⟨he, hm, e1, e2⟩
        · exact .inl (.inr ⟨hm, e1, e2⟩)
    have hnext : ∀ better' L' H', Frm R p14 H1 H' → TC a b n k A B p9 p10 p11 p14 R H' better' L' → RndG (prodM a b) true I O n k Lo better' L' (SeenL D (((b.arcs.take (t + 1)).filter fun g => decide (g.inn = f.out)).map (arc2 b.states f)) i j) → kt [iv ((t + 1 : Nat) : Int)] H' := fun bt' L' H' q1 q2 q3 => hkt (t + 1) _ _ _ (.refl (by have := q1.1; omega)) ⟨hfr.trans q1, htl, bt', L', q2, q3⟩ (by omega)
    unfold S_wordhoardref_ThroughCost_L4
    have hcells : ∀ z1 z2, ∀ j, j < H1.nx → (((H1.up 7).put (H1.nx + 5) z1).put (H1.nx + 5) z2).get j = H1.get j := fun z1 z2 j hj => by rw [AH.get_put_ne (by omega), AH.get_put_ne (by omega), up_get]
    by_cases hgi : g.inn = f.out
    · simp (disch := first | omega | simp) [iv, hB, htl, hg, hgg, Arc.cs, put_get_ne, gF2, hFG, hgi]
      generalize hNe : AH.put _ _ _ = N
      have hNn : N.nx = H1.nx + 7 := by rw [← hNe]; rfl
      have hNk : ∀ j, j < H1.nx → N.get j = H1.get j := fun j hj => by rw [← hNe]; exact hcells _ _ j hj
      have hNG : N.get (H1.nx + 5) = some (.box 53 g.cs) := by rw [← hNe, put_get]; unfold Arc.cs iv; rw [hgi]
      have hwN : WF N := by
        rw [← hNe]
        exact ((hw1.up 7).box (by simp only [up_nx]; omega) (by repeat (first | exact Cl.p _ | exact Cl.dsl _ _ | exact Cl.any | refine Cl.tup ?_ | refine Cl.agg ?_ | exact Clo.nil | refine Clo.cons ?_ ?_))).box (by simp only [put_nx, up_nx]; omega) (by repeat (first | exact Cl.p _ | exact Cl.dsl _ _ | exact Cl.any | refine Cl.tup ?_ | refine Cl.agg ?_ | exact Clo.nil | refine Clo.cons ?_ ?_))
      clear hNe
      have hNt := htc1.keep hw1 hNk
      have gFN : N.get F = some (.box 53 f.cs) := (hNk F hF1).trans gF1
      have hfrN : Frm R p14 H1 N := .of (by omega) hNk
      have hNG2 := hNG
      unfold Arc.cs iv at hNG2
      unfold S_wordhoardref_ThroughCost_C3
      refine cut_st (fun w : Nat => [iv (w : Int)]) (fun w H' => N = H' ∧ w < k ∧ advo true g.out O j = some w) (fun kc hkc => ?_) ?_
      · have hnone : advo true g.out O j = none → kt [.p (.int .i64 ((t + 1 : Nat) : Int))] N := fun hz => hnext bt L1 N hfrN hNt ((h1.skip (E := fun y i' j' => y = arc2 b.states f g ∧ i' = i ∧ j' = j) fun y i' j' ⟨e1, e2, e3⟩ _ _ => by subst e1 e2 e3; exact stab_out (by unfold arc2; exact hz)).mono fun y i' j' hd _ _ => (hmem y i' j' hd).imp id fun h => h.2)
        by_cases h0 : 0 < g.out
        · by_cases hie : j = O.length
          · subst hie
            simp (disch := first | omega | simp) [iv, hNG2, h0, htv]
            exact hnone (by unfold advo adv; rw [if_pos rfl, if_pos h0, if_neg (by simp)])
          · have hie' : ¬ ((j : Nat) : Int) = (O.length : Int) := by omega
            obtain ⟨y, hy⟩ : ∃ y, O[j]? = some y := ⟨_, List.getElem?_eq_getElem (by omega)⟩
            have hye := nE_get hy
            have hjv := ivn (i := j) (by omega)
            unfold iv at hye
            by_cases hya : y = g.out
            · simp (disch := first | omega | simp) [iv, hNG2, h0, hie', hye, hya, hjv]
              refine ⟨by omega, ?_⟩
              exact hkc (j + 1) _ _ _ (.refl (Nat.le_refl _)) ⟨rfl, by omega, by unfold advo adv; rw [if_pos rfl, if_pos h0, if_pos (by rw [hy, hya])]⟩
            · simp (disch := first | omega | simp) [iv, hNG2, h0, hie', hye, hya, htv]
              refine ⟨by omega, ?_⟩
              exact hnone (by unfold advo adv; rw [if_pos rfl, if_pos h0, if_neg (by rw [hy]; simpa using hya)])
        · simp (disch := first | omega | simp) [iv, hNG2, h0]
          exact hkc j _ _ _ (.refl (Nat.le_refl _)) ⟨rfl, hj, by unfold advo adv; rw [if_pos rfl, if_neg h0]⟩
      rintro w _ _ ⟨rfl, hwk, hadvo⟩
      refine tc_two ha hb hS hn hk hwN hNt h1 hf ho hgm hgi gFN hNG (by omega) hi hj hr hadv hwk hadvo fun bt' L' H' q1 q2 q3 q4 => ?_
      refine hnext bt' L' H' (hfrN.trans ⟨q1, q2⟩) q3 (q4.mono fun y i' j' hd _ _ => (hmem y i' j' hd).imp id fun h => h.2)
    · simp (disch := first | omega | simp) [iv, hB, htl, hg, hgg, Arc.cs, put_get_ne, gF2, hFG, hgi, htv]
      refine hnext bt L1 _ (.of (by simp only [put_nx, up_nx]; omega) (hcells _ _)) (htc1.keep hw1 (hcells _ _)) (h1.mono fun y i' j' hd _ _ => (hmem y i' j' hd).elim id fun h => absurd h.1 hgi)
  · have hxv := ivn (i := x) (by omega)
    unfold S_wordhoardref_ThroughCost_L4
    simp (disch := first | omega | simp) [iv, hB, htl, hxv]
    refine hgo bt L1 H1 hfr htc1 (h1.mono fun y i' j' hd _ _ => ?_)
    rcases hd with hd | ⟨hm, e1, e2⟩
    · exact .inl hd
    · unfold fam12 at hm
      rw [if_neg ho] at hm
      rw [List.take_of_length_le (by omega)]
      exact .inr ⟨hm, e1, e2⟩
end
end Go.Proofs.Ytgkkilbeingleaa

/- The reference's ThroughCost: a place, all of its arcs. -/
namespace Go.Proofs.Ytgkkilbeingleaa
open Go.RowKit Go.Maps
theorem fam12_inn {b : Mac} {f y : Arc} (h : y ∈ fam12 b f) : y.inn = f.inn := by
  unfold fam12 at h
  split at h
  · obtain ⟨t, _, rfl⟩ := List.mem_map.1 h; rfl
  · obtain ⟨g, _, rfl⟩ := List.mem_map.1 h; rfl
theorem fam3_out {a b : Mac} {g y : Arc} (h : y ∈ fam3 a b g) : y.out = g.out := by
  unfold fam3 at h
  split at h
  · obtain ⟨t, _, rfl⟩ := List.mem_map.1 h; rfl
  · cases h
theorem take_flat {β : Type} (F : Arc → List β) (l : List Arc) {t : Nat} {g : Arc} (h : l[t]? = some g) : (l.take (t + 1)).flatMap F = (l.take t).flatMap F ++ F g := by
  rw [List.take_add_one, h, Option.toList_some, List.flatMap_append]; simp
section
variable {a b : Mac} {n k A B p9 p10 p11 p14 R : Nat} {H : AH} {better : Bool} {L Lo I O : List Int} {D : Arc → Nat → Nat → Prop}
set_option maxHeartbeats 2000000 in
/-- the arcs of b that read nothing -/
theorem tc_bs {i j : Nat} {kk : List AV → AH → Prop} (ha : a.Ok) (hb : b.Ok) (hS : a.states * b.states ≤ 3000) (hn : n ≤ 61) (hk : k ≤ 61) (hk2 : k = O.length + 1) (hw : WF H) (htc : TC a b n k A B p9 p10 p11 p14 R H better L) (h : RndG (prodM a b) true I O n k Lo better L D) (hi : i < n) (hj : j < k)
    (hgo : ∀ better' L' H', Frm R p14 H H' → TC a b n k A B p9 p10 p11 p14 R H' better' L' → RndG (prodM a b) true I O n k Lo better' L' (SeenL D (b.arcs.flatMap (fam3 a b)) i j) → kk [iv ((j + 1 : Nat) : Int)] H') :
    LoopA Try.prog 1 (S_wordhoardref_ThroughCost_L10 (.dsl 1 (nE O)) (.ptr A 0) (.ptr B 0) (.ptr p11 0) (.fn (.func 37) [] [.ptr B 0, .ptr p9 0, .ptr p10 0]) (.fn (.func 38) [] [.ptr p11 0, .ptr p14 0]) [iv (i : Int)] kk [iv (j : Int)]) [.p (.int .i64 0)] H := by
  have hb3 := hb.2.2.1
  refine loop_wf (fun t : Nat => [iv t]) (fun t H' => Frm R p14 H H' ∧ t ≤ b.arcs.length ∧ ∃ better' L', TC a b n k A B p9 p10 p11 p14 R H' better' L' ∧ RndG (prodM a b) true I O n k Lo better' L' (SeenL D ((b.arcs.take t).flatMap (fam3 a b)) i j)) (fun t => b.arcs.length - t) 0 (.refl (Nat.le_refl _)) ⟨.refl _ _ _, by omega, better, L, htc, h.mono fun y i' j' hd _ _ => hd.elim id fun ⟨q, _⟩ => by cases q⟩ ?_
  rintro t H1 hn1 hw1 ⟨hfr, ht, bt, L1, htc1, h1⟩ kt hkt
  have hB := htc1.gB
  unfold Mac.cs iv at hB
  unfold S_wordhoardref_ThroughCost_L10
  by_cases htl : t < b.arcs.length
  · obtain ⟨g, hg⟩ : ∃ g, b.arcs[t]? = some g := ⟨_, List.getElem?_eq_getElem htl⟩
    have hgg : ∀ h, b.arcs[t]'h = g := fun h => (List.getElem?_eq_some_iff.1 hg).2
    have hgm := List.mem_of_getElem? hg
    have og := hb.2.2.2.2.1 g hgm
    have htv := ivn (i := t) (by omega)
    have hfl := take_flat (fam3 a b) b.arcs hg
    have hmem : ∀ y i' j', SeenL D ((b.arcs.take (t + 1)).flatMap (fam3 a b)) i j y i' j' → SeenL D ((b.arcs.take t).flatMap (fam3 a b)) i j y i' j' ∨ (y ∈ fam3 a b g ∧ i' = i ∧ j' = j) := fun y i' j' hd => by
      rcases hd with hd | ⟨hm, e1, e2⟩
      · exact .inl (.inl hd)
      · rw [hfl, List.mem_append] at hm
        rcases hm with hm | hm
        · exact .inl (.inr ⟨hm, e1, e2⟩)
        · exact .inr ⟨hm, e1, e2⟩
    have hnext : ∀ better' L' H', Frm R p14 H1 H' → TC a b n k A B p9 p10 p11 p14 R H' better' L' → RndG (prodM a b) true I O n k Lo better' L' (SeenL D ((b.arcs.take (t + 1)).flatMap (fam3 a b)) i j) → kt [iv ((t + 1 : Nat) : Int)] H' := fun bt' L' H' q1 q2 q3 => hkt (t + 1) _ _ _ (.refl (by have := q1.1; omega)) ⟨hfr.trans q1, htl, bt', L', q2, q3⟩ (by omega)
    have hcells : ∀ z1 z2, ∀ j, j < H1.nx → (((H1.up 7).put (H1.nx + 5) z1).put (H1.nx + 5) z2).get j = H1.get j := fun z1 z2 j hj => by rw [AH.get_put_ne (by omega), AH.get_put_ne (by omega), up_get]
    by_cases hgi : 0 < g.inn
    · simp (disch := first | omega | simp) [iv, hB, htl, hg, hgg, Arc.cs, put_get_ne, hgi, htv]
      refine hnext bt L1 _ (.of (by simp only [put_nx, up_nx]; omega) (hcells _ _)) (htc1.keep hw1 (hcells _ _)) (h1.mono fun y i' j' hd _ _ => (hmem y i' j' hd).elim id fun h => ?_)
      have := h.1
      unfold fam3 at this
      rw [if_neg (by omega)] at this
      cases this
    · have hg0 : g.inn = 0 := by omega
      simp (disch := first | omega | simp) [iv, hB, htl, hg, hgg, Arc.cs, put_get_ne, hgi]
      generalize hNe : AH.put _ _ _ = N
      have hNn : N.nx = H1.nx + 7 := by rw [← hNe]; rfl
      have hNk : ∀ j, j < H1.nx → N.get j = H1.get j := fun j hj => by rw [← hNe]; exact hcells _ _ j hj
      have hNG : N.get (H1.nx + 5) = some (.box 53 g.cs) := by rw [← hNe, put_get]; rfl
      have hwN : WF N := by
        rw [← hNe]
        exact ((hw1.up 7).box (by simp only [up_nx]; omega) (by repeat (first | exact Cl.p _ | exact Cl.dsl _ _ | exact Cl.any | refine Cl.tup ?_ | refine Cl.agg ?_ | exact Clo.nil | refine Clo.cons ?_ ?_))).box (by simp only [put_nx, up_nx]; omega) (by repeat (first | exact Cl.p _ | exact Cl.dsl _ _ | exact Cl.any | refine Cl.tup ?_ | refine Cl.agg ?_ | exact Clo.nil | refine Clo.cons ?_ ?_))
      clear hNe
      have hNt := htc1.keep hw1 hNk
      have hfrN : Frm R p14 H1 N := .of (by omega) hNk
      have hNG2 := hNG
      unfold Arc.cs iv at hNG2
      unfold S_wordhoardref_ThroughCost_C9
      refine cut_st (fun w : Nat => [iv (w : Int)]) (fun w H' => N = H' ∧ w < k ∧ advo true g.out O j = some w) (fun kc hkc => ?_) ?_
      · have hnone : advo true g.out O j = none → kt [.p (.int .i64 ((t + 1 : Nat) : Int))] N := fun hz => hnext bt L1 N hfrN hNt ((h1.skip (E := fun y i' j' => y ∈ fam3 a b g ∧ i' = i ∧ j' = j) fun y i' j' ⟨e1, e2, e3⟩ _ _ => by subst e2 e3; exact stab_out (by rw [fam3_out e1]; exact hz)).mono fun y i' j' hd _ _ => hmem y i' j' hd)
        by_cases h0 : 0 < g.out
        · by_cases hie : j = O.length
          · subst hie
            simp (disch := first | omega | simp) [iv, hNG2, h0, htv]
            exact hnone (by unfold advo adv; rw [if_pos rfl, if_pos h0, if_neg (by simp)])
          · have hie' : ¬ ((j : Nat) : Int) = (O.length : Int) := by omega
            obtain ⟨y, hy⟩ : ∃ y, O[j]? = some y := ⟨_, List.getElem?_eq_getElem (by omega)⟩
            have hye := nE_get hy
            have hjv := ivn (i := j) (by omega)
            unfold iv at hye
            by_cases hya : y = g.out
            · simp (disch := first | omega | simp) [iv, hNG2, h0, hie', hye, hya, hjv]
              refine ⟨by omega, ?_⟩
              exact hkc (j + 1) _ _ _ (.refl (Nat.le_refl _)) ⟨rfl, by omega, by unfold advo adv; rw [if_pos rfl, if_pos h0, if_pos (by rw [hy, hya])]⟩
            · simp (disch := first | omega | simp) [iv, hNG2, h0, hie', hye, hya, htv]
              refine ⟨by omega, ?_⟩
              exact hnone (by unfold advo adv; rw [if_pos rfl, if_pos h0, if_neg (by rw [hy]; simpa using hya)])
        · simp (disch := first | omega | simp) [iv, hNG2, h0]
          exact hkc j _ _ _ (.refl (Nat.le_refl _)) ⟨rfl, hj, by unfold advo adv; rw [if_pos rfl, if_neg h0]⟩
      rintro w _ _ ⟨rfl, hwk, hadvo⟩
      unfold S_wordhoardref_ThroughCost_K8
      refine tc_threes ha hb hS hn hk hwN hNt h1 hgm hg0 hNG hi hj hwk hadvo (by omega) fun bt' L' H' q1 q2 q3 => ?_
      exact hnext bt' L' H' (hfrN.trans q1) q2 (q3.mono fun y i' j' hd _ _ => hmem y i' j' hd)
  · have hjv := ivn (i := j) (by omega)
    simp (disch := first | omega | simp) [iv, hB, htl, hjv]
    refine hgo bt L1 H1 hfr htc1 (h1.mono fun y i' j' hd _ _ => ?_)
    rw [List.take_of_length_le (by omega)]
    exact hd
set_option maxHeartbeats 2000000 in
/-- all arcs of the product at one place -/
theorem tc_place {i j : Nat} {kk : List AV → AH → Prop} (ha : a.Ok) (hb : b.Ok) (hS : a.states * b.states ≤ 3000) (hn : n ≤ 61) (hk : k ≤ 61) (hn2 : n = I.length + 1) (hk2 : k = O.length + 1) (hw : WF H) (htc : TC a b n k A B p9 p10 p11 p14 R H better L) (h : RndG (prodM a b) true I O n k Lo better L D) (hi : i < n) (hj : j < k)
    (hgo : ∀ better' L' H', Frm R p14 H H' → TC a b n k A B p9 p10 p11 p14 R H' better' L' → RndG (prodM a b) true I O n k Lo better' L' (SeenL D (prodM a b).arcs i j) → kk [iv ((j + 1 : Nat) : Int)] H') :
    LoopA Try.prog 1 (S_wordhoardref_ThroughCost_L11 (.dsl 1 (nE I)) (.dsl 1 (nE O)) (.ptr A 0) (.ptr B 0) (.ptr p11 0) (.fn (.func 37) [] [.ptr B 0, .ptr p9 0, .ptr p10 0]) (.fn (.func 38) [] [.ptr p11 0, .ptr p14 0]) [iv (i : Int)] kk [iv (j : Int)]) [.p (.int .i64 0)] H := by
  have ha3 := ha.2.2.1
  refine loop_wf (fun t : Nat => [iv t]) (fun t H' => Frm R p14 H H' ∧ t ≤ a.arcs.length ∧ ∃ better' L', TC a b n k A B p9 p10 p11 p14 R H' better' L' ∧ RndG (prodM a b) true I O n k Lo better' L' (SeenL D ((a.arcs.take t).flatMap (fam12 b)) i j)) (fun t => a.arcs.length - t) 0 (.refl (Nat.le_refl _)) ⟨.refl _ _ _, by omega, better, L, htc, h.mono fun y i' j' hd _ _ => hd.elim id fun ⟨q, _⟩ => by cases q⟩ ?_
  rintro t H1 hn1 hw1 ⟨hfr, ht, bt, L1, htc1, h1⟩ kt hkt
  have hA := htc1.gA
  unfold Mac.cs iv at hA
  unfold S_wordhoardref_ThroughCost_L11
  by_cases htl : t < a.arcs.length
  · obtain ⟨f, hf⟩ : ∃ f, a.arcs[t]? = some f := ⟨_, List.getElem?_eq_getElem htl⟩
    have hfg : ∀ h, a.arcs[t]'h = f := fun h => (List.getElem?_eq_some_iff.1 hf).2
    have hfm := List.mem_of_getElem? hf
    have o := ha.2.2.2.2.1 f hfm
    have htv := ivn (i := t) (by omega)
    have hfl := take_flat (fam12 b) a.arcs hf
    have hmem : ∀ y i' j', SeenL D ((a.arcs.take (t + 1)).flatMap (fam12 b)) i j y i' j' → SeenL D ((a.arcs.take t).flatMap (fam12 b)) i j y i' j' ∨ (y ∈ fam12 b f ∧ i' = i ∧ j' = j) := fun y i' j' hd => by
      rcases hd with hd | ⟨hm, e1, e2⟩
      · exact .inl (.inl hd)
      · rw [hfl, List.mem_append] at hm
        rcases hm with hm | hm
        · exact .inl (.inr ⟨hm, e1, e2⟩)
        · exact .inr ⟨hm, e1, e2⟩
    have hnext : ∀ better' L' H', Frm R p14 H1 H' → TC a b n k A B p9 p10 p11 p14 R H' better' L' → RndG (prodM a b) true I O n k Lo better' L' (SeenL D ((a.arcs.take (t + 1)).flatMap (fam12 b)) i j) → kt [iv ((t + 1 : Nat) : Int)] H' := fun bt' L' H' q1 q2 q3 => hkt (t + 1) _ _ _ (.refl (by have := q1.1; omega)) ⟨hfr.trans q1, htl, bt', L', q2, q3⟩ (by omega)
    have hcells : ∀ z1 z2, ∀ j, j < H1.nx → (((H1.up 7).put (H1.nx + 5) z1).put (H1.nx + 5) z2).get j = H1.get j := fun z1 z2 j hj => by rw [AH.get_put_ne (by omega), AH.get_put_ne (by omega), up_get]
    simp (disch := first | omega | simp) [iv, hA, htl]
    unfold S_wordhoardref_ThroughCost_C6
    simp (disch := first | omega | simp) [iv, hA, htl, hf, hfg, Arc.cs, put_get_ne]
    generalize hNe : AH.put _ _ _ = N
    have hNn : N.nx = H1.nx + 7 := by rw [← hNe]; rfl
    have hNk : ∀ j, j < H1.nx → N.get j = H1.get j := fun j hj => by rw [← hNe]; exact hcells _ _ j hj
    have hNG : N.get (H1.nx + 5) = some (.box 53 f.cs) := by rw [← hNe, put_get]; rfl
    have hwN : WF N := by
      rw [← hNe]
      exact ((hw1.up 7).box (by simp only [up_nx]; omega) (by repeat (first | exact Cl.p _ | exact Cl.dsl _ _ | exact Cl.any | refine Cl.tup ?_ | refine Cl.agg ?_ | exact Clo.nil | refine Clo.cons ?_ ?_))).box (by simp only [put_nx, up_nx]; omega) (by repeat (first | exact Cl.p _ | exact Cl.dsl _ _ | exact Cl.any | refine Cl.tup ?_ | refine Cl.agg ?_ | exact Clo.nil | refine Clo.cons ?_ ?_))
    clear hNe
    have hNt := htc1.keep hw1 hNk
    have hfrN : Frm R p14 H1 N := .of (by omega) hNk
    have hNG2 := hNG
    unfold Arc.cs iv at hNG2
    refine cut_st (fun w : Nat => [iv (w : Int)]) (fun w H' => N = H' ∧ w < n ∧ adv f.inn I i = some w) (fun kc hkc => ?_) ?_
    · have hnone : adv f.inn I i = none → kt [.p (.int .i64 ((t + 1 : Nat) : Int))] N := fun hz => hnext bt L1 N hfrN hNt ((h1.skip (E := fun y i' j' => y ∈ fam12 b f ∧ i' = i ∧ j' = j) fun y i' j' ⟨e1, e2, e3⟩ _ _ => by subst e2 e3; exact stab_in (by rw [fam12_inn e1]; exact hz)).mono fun y i' j' hd _ _ => hmem y i' j' hd)
      by_cases h0 : 0 < f.inn
      · by_cases hie : i = I.length
        · subst hie
          simp (disch := first | omega | simp) [iv, hNG2, h0, htv]
          exact hnone (by unfold adv; rw [if_pos h0, if_neg (by simp)])
        · have hie' : ¬ ((i : Nat) : Int) = (I.length : Int) := by omega
          obtain ⟨y, hy⟩ : ∃ y, I[i]? = some y := ⟨_, List.getElem?_eq_getElem (by omega)⟩
          have hye := nE_get hy
          have hiv := ivn (i := i) (by omega)
          unfold iv at hye
          by_cases hya : y = f.inn
          · simp (disch := first | omega | simp) [iv, hNG2, h0, hie', hye, hya, hiv]
            refine ⟨by omega, ?_⟩
            exact hkc (i + 1) _ _ _ (.refl (Nat.le_refl _)) ⟨rfl, by omega, by unfold adv; rw [if_pos h0, if_pos (by rw [hy, hya])]⟩
          · simp (disch := first | omega | simp) [iv, hNG2, h0, hie', hye, hya, htv]
            refine ⟨by omega, ?_⟩
            exact hnone (by unfold adv; rw [if_pos h0, if_neg (by rw [hy]; simpa using hya)])
      · simp (disch := first | omega | simp) [iv, hNG2, h0]
        exact hkc i _ _ _ (.refl (Nat.le_refl _)) ⟨rfl, hi, by unfold adv; rw [if_neg h0]⟩
    rintro w _ _ ⟨rfl, hwn, hadv⟩
    unfold S_wordhoardref_ThroughCost_K5
    have hend : ∀ bt' L' H', Frm R p14 N H' → TC a b n k A B p9 p10 p11 p14 R H' bt' L' → RndG (prodM a b) true I O n k Lo bt' L' (SeenL (SeenL D ((a.arcs.take t).flatMap (fam12 b)) i j) (fam12 b f) i j) → kt [iv ((t + 1 : Nat) : Int)] H' := fun bt' L' H' q1 q2 q3 => hnext bt' L' H' (hfrN.trans q1) q2 (q3.mono fun y i' j' hd _ _ => hmem y i' j' hd)
    by_cases ho : f.out = 0
    · simp (disch := first | omega | simp) [iv, hNG2, ho]
      exact tc_ones ha hb hS hn hk hwN hNt h1 hfm ho hNG hi hj hwn hadv (by omega) hend
    · simp (disch := first | omega | simp) [iv, hNG2, ho]
      exact tc_twos ha hb hS hn hk hk2 hwN hNt h1 hfm ho hNG hi hj hwn hadv (by omega) hend
  · simp (disch := first | omega | simp) [iv, hA, htl]
    rw [List.take_of_length_le (by omega)] at h1
    refine tc_bs ha hb hS hn hk hk2 hw1 htc1 h1 hi hj fun bt' L' H' q1 q2 q3 => hgo bt' L' H' (hfr.trans q1) q2 (q3.mono fun y i' j' hd _ _ => ?_)
    rcases hd with hd | ⟨hm, e1, e2⟩
    · exact .inl (.inl hd)
    · rcases List.mem_append.1 (show y ∈ a.arcs.flatMap (fam12 b) ++ b.arcs.flatMap (fam3 a b) from hm) with hm | hm
      · exact .inl (.inr ⟨hm, e1, e2⟩)
      · exact .inr ⟨hm, e1, e2⟩
end
end Go.Proofs.Ytgkkilbeingleaa

/- The reference's ThroughCost: the least cost of the product. -/
namespace Go.Proofs.Ytgkkilbeingleaa
open Go.RowKit Go.Maps
structure LeastG (m : Mac) (I O : List Int) (P : Fin_ → Prop) (v : Int) : Prop where
  le : ∀ f, P f → ∀ d, Wk m true 0 I O f.st d → v ≤ d + f.w
  top : v ≤ dear
  at_ : v < dear → Acc m true I O v
theorem LeastG.all {m : Mac} {I O : List Int} {P : Fin_ → Prop} {v : Int} (h : LeastG m I O P v) (hP : ∀ f ∈ m.fins, P f) : Least (Acc m true I O) v :=
  ⟨fun c ⟨f, hf, d, hw, e⟩ => by rw [e]; exact h.le f (hP f hf) d hw, h.top, h.at_⟩
theorem LeastG.next {m : Mac} {I O L : List Int} {P Q : Fin_ → Prop} {v u : Int} {n k : Nat} (hl : LeastG m I O P v) (h : Tab m true I O n k L) (hm : m.Fit) (hn : n = I.length + 1) (hk : k = O.length + 1) (hs : ∀ a ∈ m.arcs, ∀ i j, i < n → j < k → Stab true I O n k L a i j) {f : Fin_} (hf : f ∈ m.fins) (hu : L[ix n k f.st.toNat I.length O.length]? = some u) (hQ : ∀ g, Q g → P g ∨ g = f) :
    LeastG m I O Q (if u < dear ∧ u + f.w < v then u + f.w else v) := by
  obtain ⟨e1, e2⟩ := h.end_ hm hn (by rw [if_pos rfl]; exact hk) hs hf (v := u) (by rw [show k - 1 = O.length by omega]; exact hu)
  have hb := hm.2.2 f hf
  have hkO : O.take (k - 1) = O := by rw [hk]; simp
  rw [hkO] at e2
  have ht := hl.top
  split
  · rename_i hc
    refine ⟨fun g hg d hw => ?_, by omega, fun _ => ⟨f, hf, u, (e2 hc.1).2, rfl⟩⟩
    rcases hQ g hg with h1 | rfl
    · have := hl.le g h1 d hw; omega
    · have := e1 d ⟨O, fun _ => rfl, hw⟩; omega
  · rename_i hc
    refine ⟨fun g hg d hw => ?_, ht, hl.at_⟩
    rcases hQ g hg with h1 | rfl
    · exact hl.le g h1 d hw
    · have := e1 d ⟨O, fun _ => rfl, hw⟩
      by_cases hud : u < dear
      · have : ¬ u + g.w < v := fun h => hc ⟨hud, h⟩
        omega
      · omega
def pairF (B : Int) (f g : Fin_) : Fin_ := ⟨f.st * B + g.st, f.w + g.w⟩
theorem prod_fins (a b : Mac) : (prodM a b).fins = a.fins.flatMap fun f => b.fins.map (pairF b.states f) := rfl
set_option maxHeartbeats 4000000 in
theorem c_ThroughCost {a b : Mac} (ha : a.Ok) (hb : b.Ok) (hS : a.states * b.states ≤ 3000) {I O : List Int} (hI : I.length ≤ 60) (hO : O.length ≤ 60) : PF Try.prog 14 [a.av, b.av, .dsl 1 (nE I), .dsl 1 (nE O)] (iv (leastOf (Acc (prodM a b) true I O))) := fun H => tri_wf fun hw => tri_wordhoardref_ThroughCost (by
  have hml : maxLen = 9223372036854775807 := by decide
  have hfit := prod_fit ha hb
  obtain ⟨n, hn⟩ : ∃ n, n = I.length + 1 := ⟨_, rfl⟩
  obtain ⟨k, hk⟩ : ∃ k, k = O.length + 1 := ⟨_, rfl⟩
  have hlI := ivn (i := I.length) (by omega)
  have hlO := ivn (i := O.length) (by omega)
  rw [← hn] at hlI
  rw [← hk] at hlO
  have hst : (prodM a b).states = a.states * b.states := rfl
  have hpos := hfit.1
  rw [hst] at hpos
  obtain ⟨N, hN⟩ : ∃ N, N = (a.states * b.states).toNat * n * k := ⟨_, rfl⟩
  have hNle : N ≤ 183000 * 61 := by rw [hN]; exact Nat.mul_le_mul (Nat.mul_le_mul (show (a.states * b.states).toNat ≤ 3000 by omega) (show n ≤ 61 by omega)) (by omega)
  have hNp : 0 < N := by rw [hN]; exact Nat.mul_pos (Nat.mul_pos (by omega) (by omega)) (by omega)
  have hNw : IntKind.i64.wrap (IntKind.i64.wrap (IntKind.i64.wrap (a.states * b.states) * (n : Int)) * (k : Int)) = (N : Int) := by
    have w0 : IntKind.i64.wrap (a.states * b.states) = a.states * b.states := by rw [IntKind.wrap_i64]; omega
    have e : (N : Int) = a.states * b.states * n * k := by rw [hN, Int.natCast_mul, Int.natCast_mul, show (((a.states * b.states).toNat : Nat) : Int) = a.states * b.states by omega]
    have h1 : a.states * b.states * n ≤ 3000 * 61 := by
      calc a.states * b.states * n ≤ 3000 * n := Int.mul_le_mul_of_nonneg_right (by omega) (by omega)
        _ ≤ 3000 * 61 := by omega
    have h2 : 0 ≤ a.states * b.states * n := Int.mul_nonneg (by omega) (by omega)
    have w1 : IntKind.i64.wrap (a.states * b.states * (n : Int)) = a.states * b.states * n := by rw [IntKind.wrap_i64]; omega
    rw [w0, w1, ← e, IntKind.wrap_i64]; omega
  unfold S_wordhoardref_ThroughCost Mac.av
  have hla : a.cs = [.p (.int .i64 a.states), .dsl 5 (a.arcs.map Arc.cs), .dsl 2 (a.fins.map Fin_.cs)] := rfl
  have hlb : b.cs = [.p (.int .i64 b.states), .dsl 5 (b.arcs.map Arc.cs), .dsl 2 (b.fins.map Fin_.cs)] := rfl
  simp (disch := first | omega | simp) [hlI, hlO, put_get_ne, hla, hlb, hNw]
  refine ⟨by omega, by omega, ?_⟩
  obtain ⟨p9, hp9⟩ : ∃ p, p = H.nx + 3 + 6 := ⟨_, rfl⟩
  obtain ⟨p10, hp10⟩ : ∃ p, p = H.nx + 3 + 7 := ⟨_, rfl⟩
  obtain ⟨p11, hp11⟩ : ∃ p, p = H.nx + 3 + 10 + 10 := ⟨_, rfl⟩
  obtain ⟨R, hR⟩ : ∃ p, p = H.nx + 3 + 10 + 9 := ⟨_, rfl⟩
  rw [← hp9, ← hp10, ← hp11, ← hR]
  generalize hMe : AH.put _ _ _ = M
  have hMl : H.le M := by rw [← hMe]; exact (by repeat (first | with_reducible assumption | with_reducible exact AH.le.refl _ | with_reducible apply AH.le.up | (with_reducible refine AH.le.put hw ?_ ?_; · first | omega | (simp only [up_nx, put_nx, kill_nx]; done) | (simp only [up_nx, put_nx, kill_nx]; omega)) | (with_reducible refine AH.le.kill hw ?_ ?_; · first | omega | (simp only [up_nx, put_nx, kill_nx]; done) | (simp only [up_nx, put_nx, kill_nx]; omega))))
  have hMn : M.nx = H.nx + 25 := by rw [← hMe]; rfl
  have m1 : M.get H.nx = some (.box 25 a.cs) := by rw [← hMe, hla]; simp (disch := first | omega | simp) [put_get_ne]
  have m2 : M.get (H.nx + 1) = some (.box 25 b.cs) := by rw [← hMe, hlb]; simp (disch := first | omega | simp) [put_get_ne]
  have m9 : M.get p9 = some (.box 3 [iv (n : Int)]) := by rw [← hMe]; simp (disch := first | omega | simp) [put_get_ne]; rfl
  have m10 : M.get p10 = some (.box 3 [iv (k : Int)]) := by rw [← hMe]; simp (disch := first | omega | simp) [put_get_ne]; rfl
  have m11 : M.get p11 = some (.box 26 [.osl R 1 0 N]) := by rw [← hMe, put_get]
  have mR : M.get R = some (.row 3 1 (nE (List.replicate 0 dear ++ List.replicate (N - 0) 0))) := by rw [← hMe]; simp (disch := first | omega | simp) [put_get_ne]; simp [nE, iv]
  clear hMe
  refine loop_wf (fun i : Nat => [iv i]) (fun i H' => M.nx ≤ H'.nx ∧ (∀ j, j < M.nx → j ≠ R → H'.get j = M.get j) ∧ i ≤ N ∧ H'.get R = some (.row 3 1 (nE (List.replicate i dear ++ List.replicate (N - i) 0)))) (fun i => N - i) 0 (.refl (Nat.le_refl _)) ⟨Nat.le_refl _, fun _ _ _ => rfl, Nat.zero_le _, mR⟩ ?_
  rintro i H1 hn1 hw1 ⟨hnx, hkp, hi, gR⟩ kk hkk
  unfold S_wordhoardref_ThroughCost_L18
  have g11 := (hkp p11 (by omega) (by omega)).trans m11
  by_cases hiN : i < N
  · have hiN' : (i : Int) < (N : Int) := by omega
    have hiv := ivn (i := i) (by omega)
    have hge : (nE (List.replicate i dear ++ List.replicate (N - i) 0))[i]? = some [.p (.int .i64 0)] := nE_get (l := List.replicate i dear ++ List.replicate (N - i) 0) (x := 0) (by rw [List.getElem?_append_right (by simp), List.length_replicate, Nat.sub_self, List.getElem?_replicate, if_pos (by omega)])
    have hse := nE_set (List.replicate i dear ++ List.replicate (N - i) 0) i dear
    rw [fill_set N i hiN] at hse
    unfold iv dear at hse
    simp (disch := first | omega | simp) [iv, g11, gR, hiN', hiv, hge]
    unfold dear at hge ⊢
    rw [hse]
    exact hkk (i + 1) _ _ _ (.refl (by simp only [put_nx, up_nx]; omega)) ⟨by simp only [put_nx, up_nx]; omega, fun j hj hne => by rw [AH.get_put_ne hne]; exact hkp j hj hne, hiN, put_get _ _⟩ (by omega)
  have hiN' : ¬ (i : Int) < (N : Int) := by omega
  have hiN2 : N = i := by omega
  subst hiN2
  have hge : (nE (List.replicate N dear))[0]? = some [.p (.int .i64 dear)] := nE_get (l := List.replicate N dear) (x := dear) (by rw [List.getElem?_replicate, if_pos hNp])
  have hse := nE_set (List.replicate N dear) 0 0
  unfold iv at hse
  have h11R : p11 ≠ R := by omega
  simp (disch := first | omega | simp) [iv, g11, gR, hiN', hge, hse, put_get_ne, h11R]
  refine ⟨by omega, ?_⟩
  have htab := tab0 (prodM a b) hfit true I O (n := n) (k := k) (by omega) (by omega) hN
  generalize hL0 : (List.replicate N dear).set 0 0 = L0 at htab
  have hL0l : L0.length = N := by rw [htab.len, hN, hst]
  obtain ⟨p14, hp14⟩ : ∃ p, p = H1.nx + 3 := ⟨_, rfl⟩
  rw [← hp14]
  generalize hM2e : AH.put _ _ _ = M2
  have hM2n : M2.nx = H1.nx + 5 := by rw [← hM2e]; rfl
  have hM2k : ∀ j, j < M.nx → j ≠ R → M2.get j = M.get j := fun j hj hne => by rw [← hM2e, AH.get_put_ne (by omega), AH.get_put_ne (by omega), up_get, AH.get_put_ne hne, up_get]; exact hkp j hj hne
  have hM2l : H.le M2 := fun j o ho => by rw [hM2k j (by have := (hw _ _ ho).1; omega) (by have := (hw _ _ ho).1; omega)]; exact hMl _ _ ho
  have htc2 : TC a b n k H.nx (H.nx + 1) p9 p10 p11 p14 R M2 false L0 := ⟨by rw [hM2k _ (by omega) (by omega)]; exact m1, by rw [hM2k _ (by omega) (by omega)]; exact m2, by rw [hM2k _ (by omega) (by omega)]; exact m9, by rw [hM2k _ (by omega) (by omega)]; exact m10, by rw [hM2k _ (by omega) (by omega), hL0l]; exact m11, by rw [← hM2e, put_get]; rfl, by
    rw [← hM2e, AH.get_put_ne (by omega), AH.get_put_ne (by omega), up_get, put_get]⟩
  clear hM2e
  refine loop_wf (fun x : Bool × List Int => [bv x.1]) (fun x H' => H.le H' ∧ M2.nx ≤ H'.nx ∧ (∃ bt, TC a b n k H.nx (H.nx + 1) p9 p10 p11 p14 R H' bt x.2) ∧ Tab (prodM a b) true I O n k x.2 ∧ (x.1 = false → ∀ y ∈ (prodM a b).arcs, ∀ i j, i < n → j < k → Stab true I O n k x.2 y i j)) (fun x => if x.1 = true then sumL x.2 + 1 else 0) (true, L0) (.refl (Nat.le_refl _)) ⟨hM2l, Nat.le_refl _, ⟨_, htc2⟩, htab, fun e => by cases e⟩ ?_
  rintro ⟨ag, Lo⟩ H2 hn2 hw2 ⟨hle2, hnx2, ⟨bt0, htcA⟩, htab2, hst2⟩ kr hkr
  dsimp only at htcA htab2 hst2 hkr ⊢
  unfold S_wordhoardref_ThroughCost_L17
  cases ag with
  | true =>
    have h14 := htcA.g14
    simp (disch := first | omega | simp) [bv, iv, h14]
    generalize hM3e : AH.put _ _ _ = M3
    have hM3n : M3.nx = H2.nx + 1 := by rw [← hM3e]; rfl
    have hM3k : ∀ j, j ≠ p14 → M3.get j = H2.get j := fun j hj => by rw [← hM3e, AH.get_put_ne hj, up_get]
    have hM3l : H.le M3 := fun j o ho => by rw [hM3k j (by have := (hw _ _ ho).1; omega)]; exact hle2 _ _ ho
    have htc3 : TC a b n k H.nx (H.nx + 1) p9 p10 p11 p14 R M3 false Lo := htcA.low (fun j _ h => hM3k j h) (by rw [← hM3e, put_get]; rfl) (by rw [hM3k R (Ne.symm (htcA.ne).2.2.2.2.2.1)]; exact htcA.gR) rfl
    clear hM3e
    have hfl : ∀ {H' : AH}, Frm R p14 M3 H' → H.le H' := fun {H'} hf j o ho => by
      have := (hw _ _ ho).1
      rw [hf.2 j (by omega) (by omega) (by omega)]; exact hM3l _ _ ho
    refine loop_wf (fun i : Nat => [iv i]) (fun i H' => Frm R p14 M3 H' ∧ i ≤ n ∧ ∃ bt L, TC a b n k H.nx (H.nx + 1) p9 p10 p11 p14 R H' bt L ∧ RndG (prodM a b) true I O n k Lo bt L (fun y i' _ => y ∈ (prodM a b).arcs ∧ i' < i)) (fun i => n - i) 0 (.refl (Nat.le_refl _)) ⟨.refl _ _ _, Nat.zero_le _, false, Lo, htc3, (RndG.start htab2).mono fun y i' j' h _ _ => by have := h.2; omega⟩ ?_
    rintro i H4 hn4 hw4 ⟨hf4, hi4, bt4, L4, htc4, hr4⟩ ki hki
    have h9 := htc4.g9
    unfold iv at h9
    unfold S_wordhoardref_ThroughCost_L13
    by_cases hin : i < n
    · simp (disch := first | omega | simp) [iv, h9, hin]
      refine loop_wf (fun i : Nat => [iv i]) (fun j H' => Frm R p14 H4 H' ∧ j ≤ k ∧ ∃ bt L, TC a b n k H.nx (H.nx + 1) p9 p10 p11 p14 R H' bt L ∧ RndG (prodM a b) true I O n k Lo bt L (fun y i' j' => y ∈ (prodM a b).arcs ∧ (i' < i ∨ (i' = i ∧ j' < j)))) (fun j => k - j) 0 (.refl (Nat.le_refl _)) ⟨.refl _ _ _, Nat.zero_le _, bt4, L4, htc4, hr4.mono fun y i' j' h _ _ => ⟨h.1, by omega⟩⟩ ?_
      rintro j H5 hn5 hw5 ⟨hf5, hj5, bt5, L5, htc5, hr5⟩ kj hkj
      have h10 := htc5.g10
      unfold iv at h10
      unfold S_wordhoardref_ThroughCost_L12
      by_cases hjk : j < k
      · simp (disch := first | omega | simp) [iv, h10, hjk]
        refine tc_place ha hb hS (by omega) (by omega) hn hk hw5 htc5 hr5 hin hjk fun bt' L' H' q1 q2 q3 => ?_
        refine hkj (j + 1) _ _ _ (.refl (by have := q1.1; omega)) ⟨hf5.trans q1, hjk, bt', L', q2, q3.mono fun y i' j' h _ _ => ?_⟩ (by omega)
        by_cases e : i' = i ∧ j' = j
        · exact .inr ⟨h.1, e.1, e.2⟩
        · exact .inl ⟨h.1, by omega⟩
      · have hiv := ivn (i := i) (by omega)
        simp (disch := first | omega | simp) [iv, h10, hjk, hiv]
        exact hki (i + 1) _ _ _ (.refl (by omega)) ⟨hf4.trans hf5, hin, bt5, L5, htc5, hr5.mono fun y i' j' h h1 h2 => ⟨h.1, by omega⟩⟩ (by omega)
    · have h14' := htc4.g14
      unfold bv at h14'
      simp (disch := first | omega | simp) [iv, h9, hin, h14']
      refine hkr (bt4, L4) _ _ _ (.refl (by have := hf4.1; omega)) ⟨hfl hf4, by have := hf4.1; omega, ⟨bt4, htc4⟩, hr4.tab, fun e y hy i j h1 h2 => hr4.st e y i j ⟨hy, by omega⟩ h1 h2⟩ ?_
      dsimp only
      cases bt4 with
      | true => simp; exact hr4.less rfl
      | false => simp
  | false =>
    simp (disch := first | omega | simp) [bv, iv]
    have hst := hst2 rfl
    have ha4 := ha.2.2.2.1
    have hb4 := hb.2.2.2.1
    have ha2 := ha.2.1
    have hb2 := hb.2.1
    refine loop_wf (fun x : Int × Nat => [iv x.1, iv (x.2 : Int)]) (fun x H' => H.le H' ∧ H2.nx ≤ H'.nx ∧ TC a b n k H.nx (H.nx + 1) p9 p10 p11 p14 R H' bt0 Lo ∧ x.2 ≤ a.fins.length ∧ LeastG (prodM a b) I O (fun f => f ∈ (a.fins.take x.2).flatMap fun f => b.fins.map (pairF b.states f)) x.1) (fun x => a.fins.length - x.2) (dear, 0) (.refl (Nat.le_refl _)) ⟨hle2, Nat.le_refl _, htcA, Nat.zero_le _, ⟨fun f hf => by simp at hf, Int.le_refl _, fun h => absurd h (Int.lt_irrefl _)⟩⟩ ?_
    rintro ⟨v, x⟩ H3 hn3 hw3 ⟨hle3, hnx3, htc3, hx, hv⟩ kx hkx
    dsimp only at hx hv hkx ⊢
    have hA3 := htc3.gA
    rw [hla] at hA3
    unfold S_wordhoardref_ThroughCost_L16
    by_cases hxl : x < a.fins.length
    · obtain ⟨f, hf⟩ : ∃ f, a.fins[x]? = some f := ⟨_, List.getElem?_eq_getElem hxl⟩
      have hfg : ∀ h, a.fins[x]'h = f := fun h => (List.getElem?_eq_some_iff.1 hf).2
      have hfm := List.mem_of_getElem? hf
      have of := ha.2.2.2.2.2.1 f hfm
      have hxv := ivn (i := x) (by omega)
      have htk : (a.fins.take (x + 1)).flatMap (fun f => b.fins.map (pairF b.states f)) = (a.fins.take x).flatMap (fun f => b.fins.map (pairF b.states f)) ++ b.fins.map (pairF b.states f) := by rw [List.take_add_one, hf, Option.toList_some, List.flatMap_append]; simp
      simp (disch := first | omega | simp) [iv, hA3, hxl]
      refine loop_wf (fun x : Int × Nat => [iv x.1, iv (x.2 : Int)]) (fun y H' => H.le H' ∧ H3.nx ≤ H'.nx ∧ TC a b n k H.nx (H.nx + 1) p9 p10 p11 p14 R H' bt0 Lo ∧ y.2 ≤ b.fins.length ∧ LeastG (prodM a b) I O (fun g => g ∈ (a.fins.take x).flatMap (fun f => b.fins.map (pairF b.states f)) ∨ g ∈ (b.fins.take y.2).map (pairF b.states f)) y.1) (fun y => b.fins.length - y.2) (v, 0) (.refl (Nat.le_refl _)) ⟨hle3, Nat.le_refl _, htc3, Nat.zero_le _, ⟨fun g hg => hv.le g (hg.elim id fun h => by simp at h), hv.top, hv.at_⟩⟩ ?_
      rintro ⟨u, y⟩ H4 hn4 hw4 ⟨hle4, hnx4, htc4, hy, hu⟩ ky hky
      dsimp only at hy hu hky ⊢
      have hA4 := htc4.gA
      have hB4 := htc4.gB
      rw [hla] at hA4
      rw [hlb] at hB4
      unfold S_wordhoardref_ThroughCost_L15
      by_cases hyl : y < b.fins.length
      · obtain ⟨g, hg⟩ : ∃ g, b.fins[y]? = some g := ⟨_, List.getElem?_eq_getElem hyl⟩
        have hgg : ∀ h, b.fins[y]'h = g := fun h => (List.getElem?_eq_some_iff.1 hg).2
        have hgm := List.mem_of_getElem? hg
        have og := hb.2.2.2.2.2.1 g hgm
        have hyv := ivn (i := y) (by omega)
        have hp := pair_lt (s := f.st) (t := g.st) (A := a.states) (B := b.states) (by omega) (by omega) (by omega) (by omega)
        have hst3 : (prodM a b).states = a.states * b.states := rfl
        obtain ⟨c, hc⟩ := htab2.at_ (s := (f.st * b.states + g.st).toNat) (i := I.length) (j := O.length) (by rw [hst3]; omega) (by omega) (by omega)
        have hc0 := htab2.nonneg (by rw [hst3]; omega) (by omega) (by omega) hc
        have hcl := (List.getElem?_eq_some_iff.1 hc).1
        have hce := nE_get hc
        unfold iv at hce
        have hdr : dear = 1152921504606846976 := rfl
        have hw1 : IntKind.i64.wrap (c + f.w) = c + f.w := by rw [IntKind.wrap_i64]; omega
        have hw2 : IntKind.i64.wrap (c + f.w + g.w) = c + (f.w + g.w) := by rw [IntKind.wrap_i64]; omega
        have hmemF : pairF b.states f g ∈ (prodM a b).fins := by rw [prod_fins]; exact List.mem_flatMap.2 ⟨f, hfm, List.mem_map_of_mem hgm⟩
        have hnext := hu.next (Q := fun g' => g' ∈ (a.fins.take x).flatMap (fun f => b.fins.map (pairF b.states f)) ∨ g' ∈ (b.fins.take (y + 1)).map (pairF b.states f)) htab2 hfit hn hk hst hmemF (u := c) (by unfold pairF; exact hc) (fun g' hg' => by
          rcases hg' with h | h
          · exact .inl (.inl h)
          · rw [List.take_add_one, hg, Option.toList_some, List.map_append, List.mem_append] at h
            rcases h with h | h
            · exact .inl (.inr h)
            · simp at h; exact .inr h)
        unfold pairF at hnext
        dsimp only at hnext
        simp (disch := first | omega | simp) [iv, hA4, hB4, hyl]
        unfold S_wordhoardref_ThroughCost_C14
        have h11 := htc4.g11
        simp (disch := first | omega | simp) [iv, hA4, hB4, hyl, hxl, hf, hfg, hg, hgg, Fin_.cs, put_get_ne, h11]
        refine ⟨wf_none hw4 (by omega), wf_none hw4 (by omega), ?_⟩
        generalize hNe : AH.put _ _ _ = N
        have hNn : N.nx = H4.nx + 14 := by rw [← hNe]; rfl
        have hNk : ∀ j, j < H4.nx → N.get j = H4.get j := fun j hj => by rw [← hNe, AH.get_put_ne (by omega), AH.get_put_ne (by omega), AH.get_put_ne (by omega), AH.get_put_ne (by omega), up_get]
        have hNf : N.get (H4.nx + 10) = some (.box 56 [.p (.int .i64 f.st), .p (.int .i64 f.w)]) := by rw [← hNe, AH.get_put_ne (by omega), put_get]
        have hNg : N.get (H4.nx + 11) = some (.box 56 [.p (.int .i64 g.st), .p (.int .i64 g.w)]) := by rw [← hNe, put_get]
        clear hNe
        have htcN := htc4.keep hw4 hNk
        have hgR := htcN.gR
        have hNl : H.le N := fun j o ho => by rw [hNk j (by have := (hw _ _ ho).1; omega)]; exact hle4 _ _ ho
        refine cav_pure (by kernel_rfl) (fun H2 hle => c_place (a := a) (hle _ _ htcN.gB) (hle _ _ htcN.g9) (hle _ _ htcN.g10) hS (by omega) (by omega) (by omega) (by omega) (by omega) (by omega) (by omega) (by omega)) ?_
        have hgo : ∀ r, r = (if c < dear ∧ c + (f.w + g.w) < u then c + (f.w + g.w) else u) → ky [.p (.int .i64 r), .p (.int .i64 ((y + 1 : Nat) : Int))] N := fun r hr => hky (r, y + 1) _ _ _ (.refl (by omega)) ⟨hNl, by omega, htcN, hyl, by dsimp only; rw [hr]; exact hnext⟩ (by dsimp only; omega)
        by_cases hcd : c < 1152921504606846976
        · by_cases hcu : c + (f.w + g.w) < u
          · simp (disch := first | omega | simp) [iv, hgR, hce, hcl, hcd, hNf, hNg, hw1, hw2, hcu, hyv]
            exact hgo _ (by rw [if_pos ⟨hcd, hcu⟩])
          · simp (disch := first | omega | simp) [iv, hgR, hce, hcl, hcd, hNf, hNg, hw1, hw2, hcu, hyv]
            exact hgo _ (by rw [if_neg (fun h => hcu h.2)])
        · simp (disch := first | omega | simp) [iv, hgR, hce, hcl, hcd, hyv]
          exact hgo _ (by rw [if_neg (fun h => hcd h.1)])
      · have hye : b.fins.take y = b.fins := List.take_of_length_le (by omega)
        rw [hye] at hu
        simp (disch := first | omega | simp) [iv, hB4, hyl, hxv]
        refine hkx (u, x + 1) _ _ _ (.refl (by omega)) ⟨hle4, by omega, htc4, hxl, ⟨fun g' hg' => hu.le g' ?_, hu.top, hu.at_⟩⟩ (by dsimp only; omega)
        dsimp only at hg'
        rw [htk, List.mem_append] at hg'
        exact hg'
    · have hxe : a.fins.take x = a.fins := List.take_of_length_le (by omega)
      rw [hxe] at hv
      simp (disch := first | omega | simp) [iv, hA3, hxl]
      refine rt_one hw hle3 (by repeat (first | exact Cl.p _ | exact Cl.dsl _ _ | exact Cl.any | refine Cl.tup ?_ | refine Cl.agg ?_ | exact Clo.nil | refine Clo.cons ?_ ?_)) ⟨rfl, ?_⟩
      rw [leastOf_eq (hv.all fun f hf => by rw [prod_fins] at hf; exact hf)])
end Go.Proofs.Ytgkkilbeingleaa

/- A machine whose states are numbers of those that are reached. Plain. -/
namespace Go.Proofs.Ytgkkilbeingleaa
/-- x is P, where just the states of l are there, by their numbers in it -/
structure Num (P x : Mac) (l : List Int) : Prop where
  zero : l[0]? = some 0
  arcs : ∀ a ∈ x.arcs, ∃ y ∈ P.arcs, 0 ≤ a.fr ∧ 0 ≤ a.to ∧ l[a.fr.toNat]? = some y.fr ∧ l[a.to.toNat]? = some y.to ∧ a.inn = y.inn ∧ a.out = y.out ∧ a.w = y.w
  all : ∀ y ∈ P.arcs, ∀ k : Nat, l[k]? = some y.fr → ∃ k' : Nat, l[k']? = some y.to ∧ (⟨(k : Int), (k' : Int), y.inn, y.out, y.w⟩ : Arc) ∈ x.arcs
  fins : ∀ f ∈ x.fins, ∃ g ∈ P.fins, 0 ≤ f.st ∧ l[f.st.toNat]? = some g.st ∧ f.w = g.w
  allf : ∀ g ∈ P.fins, ∀ k : Nat, l[k]? = some g.st → (⟨(k : Int), g.w⟩ : Fin_) ∈ x.fins
theorem Num.to {P x : Mac} {l : List Int} (h : Num P x l) {told : Bool} {I O : List Int} {p q c : Int} (hw : Wk x told p I O q c) : p = 0 → 0 ≤ q ∧ ∃ s, l[q.toNat]? = some s ∧ Wk P told 0 I O s c := by
  intro hp
  induction hw with
  | nil => subst hp; exact ⟨by omega, 0, h.zero, .nil⟩
  | snoc _ ha ih =>
    obtain ⟨_, s, hs, hw⟩ := ih
    obtain ⟨y, hy, e1, e2, e3, e4, e5, e6, e7⟩ := h.arcs _ ha
    rw [e3] at hs; injection hs with hs; subst hs
    have := hw.snoc hy
    rw [← e5, ← e6, ← e7] at this
    exact ⟨e2, _, e4, this⟩
theorem Num.from_ {P x : Mac} {l : List Int} (h : Num P x l) {told : Bool} {I O : List Int} {p s c : Int} (hw : Wk P told p I O s c) : p = 0 → ∃ k : Nat, l[k]? = some s ∧ Wk x told 0 I O (k : Int) c := by
  intro hp
  induction hw with
  | nil => subst hp; exact ⟨0, h.zero, .nil⟩
  | snoc _ hy ih =>
    obtain ⟨k, hk, hw⟩ := ih
    obtain ⟨k', hk', hm⟩ := h.all _ hy k hk
    exact ⟨k', hk', hw.snoc (a := ⟨(k : Int), (k' : Int), _, _, _⟩) hm⟩
theorem Num.acc {P x : Mac} {l : List Int} (h : Num P x l) {told : Bool} {I O : List Int} {c : Int} : Acc x told I O c ↔ Acc P told I O c := by
  constructor
  · rintro ⟨f, hf, d, hw, e⟩
    obtain ⟨_, s, hs, hw'⟩ := h.to hw rfl
    obtain ⟨g, hg, _, h2, h3⟩ := h.fins f hf
    rw [h2] at hs; injection hs with hs; subst hs
    exact ⟨g, hg, d, hw', by rw [← h3]; exact e⟩
  · rintro ⟨g, hg, d, hw, e⟩
    obtain ⟨k, hk, hw'⟩ := h.from_ hw rfl
    exact ⟨_, h.allf g hg k hk, d, hw', e⟩
theorem pair_inj {s t s' t' B : Int} (h3 : 0 ≤ t) (h4 : t < B) (h3' : 0 ≤ t') (h4' : t' < B) (h : s * B + t = s' * B + t') : s = s' ∧ t = t' := by
  rcases (by omega : s < s' ∨ s = s' ∨ s' < s) with q | q | q
  · have b1 : (s + 1) * B ≤ s' * B := Int.mul_le_mul_of_nonneg_right (by omega) (by omega)
    rw [Int.add_mul, Int.one_mul] at b1
    omega
  · subst q; exact ⟨rfl, by omega⟩
  · have b1 : (s' + 1) * B ≤ s * B := Int.mul_le_mul_of_nonneg_right (by omega) (by omega)
    rw [Int.add_mul, Int.one_mul] at b1
    omega
/-- the ends of a product are of different states -/
theorem prod_nodup {a b : Mac} (ha : a.Ok) (hb : b.Ok) : ((prodM a b).fins.map Fin_.st).Nodup := by
  have h6 := ha.2.2.2.2.2.1
  have g6 := hb.2.2.2.2.2.1
  have h7 := ha.2.2.2.2.2.2
  have g7 := hb.2.2.2.2.2.2
  have key : ∀ l : List Fin_, (∀ f ∈ l, f ∈ a.fins) → (l.map Fin_.st).Nodup → ((l.flatMap fun f => b.fins.map fun g => (⟨f.st * b.states + g.st, f.w + g.w⟩ : Fin_)).map Fin_.st).Nodup := by
    intro l
    induction l with
    | nil => intro _ _; simp
    | cons f r ih =>
      intro hl hn
      rw [List.map_cons, List.nodup_cons] at hn
      rw [List.flatMap_cons, List.map_append, List.nodup_append]
      refine ⟨?_, ih (fun x hx => hl x (List.mem_cons_of_mem _ hx)) hn.2, fun x hx y hy e => ?_⟩
      · rw [List.map_map]
        have e : (Fin_.st ∘ fun g : Fin_ => (⟨f.st * b.states + g.st, f.w + g.w⟩ : Fin_)) = (fun x => f.st * b.states + x) ∘ Fin_.st := rfl
        rw [e, ← List.map_map]
        exact List.pairwise_map.2 (List.Pairwise.imp (fun {x y} (hne : x ≠ y) (e : f.st * b.states + x = f.st * b.states + y) => hne (by omega)) g7)
      · obtain ⟨x1, hx1, rfl⟩ := List.mem_map.1 hx
        obtain ⟨g1, hg1, rfl⟩ := List.mem_map.1 hx1
        obtain ⟨y1, hy1, rfl⟩ := List.mem_map.1 hy
        obtain ⟨f2, hf2, hy1⟩ := List.mem_flatMap.1 hy1
        obtain ⟨g2, hg2, rfl⟩ := List.mem_map.1 hy1
        have o1 := g6 g1 hg1
        have o2 := g6 g2 hg2
        dsimp only at e
        have := (pair_inj (by omega) (by omega) (by omega) (by omega) e).1
        exact hn.1 (by rw [this]; exact List.mem_map_of_mem hf2)
  exact key a.fins (fun _ h => h) h7
end Go.Proofs.Ytgkkilbeingleaa

/- The law of Through, given what Through answers (its walk is left). -/
namespace Go.Proofs.Ytgkkilbeingleaa
open Go.RowKit Go.Maps
open Classical in
noncomputable def Mac.lightB (m : Mac) : Bool := decide m.Light
theorem light_no {m : Mac} (h : ¬ m.Light) : m.lightB = false := by unfold Mac.lightB; simp [h]
theorem light_yes {m : Mac} (h : m.Light) : m.lightB = true := by unfold Mac.lightB; simp [h]
theorem c_lightB {m : Mac} (hf : m.Few) : PF Try.prog 17 [m.av] (bv m.lightB) := fun H => tri_wf fun hw => tri_wordhoardlaw_light (by
  have hml : maxLen = 9223372036854775807 := by decide
  obtain ⟨f1, f2, f3⟩ := hf
  unfold S_wordhoardlaw_light Mac.av
  unfold Mac.cs
  by_cases h1 : 20 < m.states
  · simp (disch := first | omega | simp) [iv, h1, put_get_ne]
    exact rt_one hw (by repeat (first | with_reducible assumption | with_reducible exact AH.le.refl _ | with_reducible apply AH.le.up | (with_reducible refine AH.le.put hw ?_ ?_; · first | omega | (simp only [up_nx, put_nx, kill_nx]; done) | (simp only [up_nx, put_nx, kill_nx]; omega)) | (with_reducible refine AH.le.kill hw ?_ ?_; · first | omega | (simp only [up_nx, put_nx, kill_nx]; done) | (simp only [up_nx, put_nx, kill_nx]; omega)))) (by repeat (first | exact Cl.p _ | exact Cl.dsl _ _ | exact Cl.any | refine Cl.tup ?_ | refine Cl.agg ?_ | exact Clo.nil | refine Clo.cons ?_ ?_)) ⟨rfl, by rw [light_no (fun h => by have := h.1; omega)]; rfl⟩
  by_cases h2 : 40 < m.arcs.length
  · have h2' : (40 : Int) < (m.arcs.length : Int) := by omega
    simp (disch := first | omega | simp) [iv, h1, h2', put_get_ne]
    exact rt_one hw (by repeat (first | with_reducible assumption | with_reducible exact AH.le.refl _ | with_reducible apply AH.le.up | (with_reducible refine AH.le.put hw ?_ ?_; · first | omega | (simp only [up_nx, put_nx, kill_nx]; done) | (simp only [up_nx, put_nx, kill_nx]; omega)) | (with_reducible refine AH.le.kill hw ?_ ?_; · first | omega | (simp only [up_nx, put_nx, kill_nx]; done) | (simp only [up_nx, put_nx, kill_nx]; omega)))) (by repeat (first | exact Cl.p _ | exact Cl.dsl _ _ | exact Cl.any | refine Cl.tup ?_ | refine Cl.agg ?_ | exact Clo.nil | refine Clo.cons ?_ ?_)) ⟨rfl, by rw [light_no (fun h => by have := h.2.1; omega)]; rfl⟩
  have h2' : ¬ (40 : Int) < (m.arcs.length : Int) := by omega
  simp (disch := first | omega | simp) [iv, h1, h2', put_get_ne]
  generalize hM : AH.put _ _ _ = M
  have hMl : H.le M := by rw [← hM]; exact (by repeat (first | with_reducible assumption | with_reducible exact AH.le.refl _ | with_reducible apply AH.le.up | (with_reducible refine AH.le.put hw ?_ ?_; · first | omega | (simp only [up_nx, put_nx, kill_nx]; done) | (simp only [up_nx, put_nx, kill_nx]; omega)) | (with_reducible refine AH.le.kill hw ?_ ?_; · first | omega | (simp only [up_nx, put_nx, kill_nx]; done) | (simp only [up_nx, put_nx, kill_nx]; omega))))
  have hMg : M.get H.nx = some (.box 25 [.p (.int .i64 m.states), .dsl 5 (m.arcs.map Arc.cs), .dsl 2 (m.fins.map Fin_.cs)]) := by rw [← hM]; simp (disch := first | omega | simp) [put_get_ne]
  clear hM
  refine loop_st (fun i : Nat => [iv i]) (fun i H' => M = H' ∧ i ≤ m.arcs.length ∧ ∀ a ∈ m.arcs.take i, a.w ≤ 500000) (fun i => m.arcs.length - i) 0 (.refl (Nat.le_refl _)) ⟨rfl, Nat.zero_le _, by simp⟩ ?_
  rintro i _ _ ⟨rfl, hi, hc⟩ k hk
  unfold S_wordhoardlaw_light_L2
  by_cases hil : i < m.arcs.length
  · obtain ⟨x, hx⟩ : ∃ x, m.arcs[i]? = some x := ⟨_, List.getElem?_eq_getElem hil⟩
    have hxg : ∀ h, m.arcs[i]'h = x := fun h => (List.getElem?_eq_some_iff.1 hx).2
    have hiv := ivn (i := i) (by omega)
    by_cases q : 500000 < x.w
    · simp (disch := first | omega | simp) [iv, hil, hxg, hx, hMg, Arc.cs, q]
      exact rt_one hw hMl (by repeat (first | exact Cl.p _ | exact Cl.dsl _ _ | exact Cl.any | refine Cl.tup ?_ | refine Cl.agg ?_ | exact Clo.nil | refine Clo.cons ?_ ?_)) ⟨rfl, by rw [light_no (fun h => by have := h.2.2.1 x (List.mem_of_getElem? hx); omega)]; rfl⟩
    · simp (disch := first | omega | simp) [iv, hil, hxg, hx, hMg, Arc.cs, q, hiv]
      refine hk (i + 1) _ _ _ (.refl (Nat.le_refl _)) ⟨rfl, hil, fun a ha => ?_⟩ (by omega)
      rw [List.take_add_one, hx, Option.toList_some, List.mem_append] at ha
      rcases ha with ha | ha
      · exact hc a ha
      · simp at ha; subst ha; omega
  have hie : m.arcs.take i = m.arcs := List.take_of_length_le (by omega)
  rw [hie] at hc
  simp (disch := first | omega | simp) [iv, hil, hMg]
  refine loop_st (fun i : Nat => [iv i]) (fun i H' => M = H' ∧ i ≤ m.fins.length ∧ ∀ a ∈ m.fins.take i, a.w ≤ 500000) (fun i => m.fins.length - i) 0 (.refl (Nat.le_refl _)) ⟨rfl, Nat.zero_le _, by simp⟩ ?_
  rintro i _ _ ⟨rfl, hi, hcf⟩ k hk
  unfold S_wordhoardlaw_light_L1
  by_cases hil : i < m.fins.length
  · obtain ⟨x, hx⟩ : ∃ x, m.fins[i]? = some x := ⟨_, List.getElem?_eq_getElem hil⟩
    have hxg : ∀ h, m.fins[i]'h = x := fun h => (List.getElem?_eq_some_iff.1 hx).2
    have hiv := ivn (i := i) (by omega)
    by_cases q : 500000 < x.w
    · simp (disch := first | omega | simp) [iv, hil, hxg, hx, hMg, Fin_.cs, q]
      exact rt_one hw hMl (by repeat (first | exact Cl.p _ | exact Cl.dsl _ _ | exact Cl.any | refine Cl.tup ?_ | refine Cl.agg ?_ | exact Clo.nil | refine Clo.cons ?_ ?_)) ⟨rfl, by rw [light_no (fun h => by have := h.2.2.2 x (List.mem_of_getElem? hx); omega)]; rfl⟩
    · simp (disch := first | omega | simp) [iv, hil, hxg, hx, hMg, Fin_.cs, q, hiv]
      refine hk (i + 1) _ _ _ (.refl (Nat.le_refl _)) ⟨rfl, hil, fun a ha => ?_⟩ (by omega)
      rw [List.take_add_one, hx, Option.toList_some, List.mem_append] at ha
      rcases ha with ha | ha
      · exact hcf a ha
      · simp at ha; subst ha; omega
  · have hie : m.fins.take i = m.fins := List.take_of_length_le (by omega)
    rw [hie] at hcf
    simp (disch := first | omega | simp) [iv, hil, hMg]
    exact rt_one hw hMl (by repeat (first | exact Cl.p _ | exact Cl.dsl _ _ | exact Cl.any | refine Cl.tup ?_ | refine Cl.agg ?_ | exact Clo.nil | refine Clo.cons ?_ ?_)) ⟨rfl, by rw [light_yes ⟨by omega, by omega, hc, hcf⟩]; rfl⟩)
/-- what is to be shown of Through: for machines that are few -/
def ThroughC (a b : Mac) : Prop := ∃ (x : Mac) (e : Int), PF Try.prog 15 [a.av, b.av] (.tup [x.av, iv e]) ∧ (bothE a b ≠ 0 → e = bothE a b ∧ x = zeroM) ∧ (bothE a b = 0 → e = 0 ∨ e = 7 ∨ e = 3) ∧ (bothE a b = 0 → a.Light → b.Light → e = 0) ∧ (bothE a b = 0 → e = 0 → x.Ok ∧ ∀ I O, costOf x true I O = leastOf (Acc (prodM a b) true I O))
theorem c_rightE {x : Mac} {e : Int} {I O : List Int} {want : Int} (he : e = 7 ∨ e = 3) : PF Try.prog 16 [x.av, iv e, iv 0, bv false, .dsl 1 (nE I), .dsl 1 (nE O), iv want] (bv true) := fun H => tri_wf fun hw => tri_wordhoardlaw_right (by
  unfold S_wordhoardlaw_right Mac.av
  rcases he with rfl | rfl
  · simp (disch := first | omega | simp) [iv, Mac.cs, put_get_ne]
    unfold S_wordhoardlaw_right_C1
    simp (disch := first | omega | simp) [iv, bv]
    exact rt_one hw (by repeat (first | with_reducible assumption | with_reducible exact AH.le.refl _ | with_reducible apply AH.le.up | (with_reducible refine AH.le.put hw ?_ ?_; · first | omega | (simp only [up_nx, put_nx, kill_nx]; done) | (simp only [up_nx, put_nx, kill_nx]; omega)) | (with_reducible refine AH.le.kill hw ?_ ?_; · first | omega | (simp only [up_nx, put_nx, kill_nx]; done) | (simp only [up_nx, put_nx, kill_nx]; omega)))) (by repeat (first | exact Cl.p _ | exact Cl.dsl _ _ | exact Cl.any | refine Cl.tup ?_ | refine Cl.agg ?_ | exact Clo.nil | refine Clo.cons ?_ ?_)) ⟨rfl, rfl⟩
  · simp (disch := first | omega | simp) [iv, Mac.cs, put_get_ne]
    unfold S_wordhoardlaw_right_C1
    simp (disch := first | omega | simp) [iv, bv]
    exact rt_one hw (by repeat (first | with_reducible assumption | with_reducible exact AH.le.refl _ | with_reducible apply AH.le.up | (with_reducible refine AH.le.put hw ?_ ?_; · first | omega | (simp only [up_nx, put_nx, kill_nx]; done) | (simp only [up_nx, put_nx, kill_nx]; omega)) | (with_reducible refine AH.le.kill hw ?_ ?_; · first | omega | (simp only [up_nx, put_nx, kill_nx]; done) | (simp only [up_nx, put_nx, kill_nx]; omega)))) (by repeat (first | exact Cl.p _ | exact Cl.dsl _ _ | exact Cl.any | refine Cl.tup ?_ | refine Cl.agg ?_ | exact Clo.nil | refine Clo.cons ?_ ?_)) ⟨rfl, rfl⟩)
theorem few_prod {a b : Mac} (ha : a.Ok) (hb : b.Ok) (fa : a.Few) (fb : b.Few) : a.states * b.states ≤ 3000 := by
  have h1 := fa.1
  have h2 := fb.1
  have h3 := ha.1
  have h4 := hb.1
  calc a.states * b.states ≤ 40 * b.states := Int.mul_le_mul_of_nonneg_right (by omega) (by omega)
    _ ≤ 3000 := by omega
set_option maxHeartbeats 2000000 in
theorem w_MachineThrough (a b : Mac) (I O : List Int) (hT : a.Few → b.Few → ThroughC a b) : PF Try.prog 4 [a.av, b.av, .dsl 1 (nE I), .dsl 1 (nE O)] (bv true) := fun H => tri_wf fun hw => tri_wordhoardlaw_MachineThrough (by
  have hml : maxLen = 9223372036854775807 := by decide
  unfold S_wordhoardlaw_MachineThrough
  have hava : a.av = .agg a.cs := rfl
  have havb : b.av = .agg b.cs := rfl
  rw [hava, havb]
  have hla : a.cs.length = 3 := rfl
  have hlb : b.cs.length = 3 := rfl
  simp (disch := first | omega | simp) [hla, hlb, put_get_ne]
  refine ca_pure (by kernel_rfl) (c_begun _) ?_
  simp (disch := first | omega | simp) [bv]
  generalize hMe : AH.put _ _ _ = M
  have hMl : H.le M := by rw [← hMe]; exact (by repeat (first | with_reducible assumption | with_reducible exact AH.le.refl _ | with_reducible apply AH.le.up | (with_reducible refine AH.le.put hw ?_ ?_; · first | omega | (simp only [up_nx, put_nx, kill_nx]; done) | (simp only [up_nx, put_nx, kill_nx]; omega)) | (with_reducible refine AH.le.kill hw ?_ ?_; · first | omega | (simp only [up_nx, put_nx, kill_nx]; done) | (simp only [up_nx, put_nx, kill_nx]; omega))))
  have hMn : M.nx = H.nx + 3 := by rw [← hMe]; rfl
  have gA : M.get H.nx = some (.box 25 a.cs) := by rw [← hMe]; simp (disch := first | omega | simp) [put_get_ne]
  have gB : M.get (H.nx + 1) = some (.box 25 b.cs) := by rw [← hMe]; simp (disch := first | omega | simp) [put_get_ne]
  clear hMe
  unfold S_wordhoardlaw_MachineThrough_C3
  have htrue : Rt Try.prog H.nx (.p (.bool true)) (fun r H' => H' = H ∧ r = bv true) M := rt_one hw hMl (by repeat (first | exact Cl.p _ | exact Cl.dsl _ _ | exact Cl.any | refine Cl.tup ?_ | refine Cl.agg ?_ | exact Clo.nil | refine Clo.cons ?_ ?_)) ⟨rfl, rfl⟩
  have ta : a.cs.take 3 = a.cs := rfl
  have tb : b.cs.take 3 = b.cs := rfl
  simp (disch := first | omega | simp) [gA, gB, hla, hlb, ta, tb]
  refine ca_pure (by kernel_rfl) (c_few a _) ?_
  cases fa : a.fewB with
  | false =>
    simp (disch := first | omega | simp) [bv]
    exact htrue
  | true =>
  simp (disch := first | omega | simp) [bv, gA, gB, hla, hlb, ta, tb]
  refine ca_pure (by kernel_rfl) (c_few b _) ?_
  cases fb : b.fewB with
  | false =>
    simp (disch := first | omega | simp) [bv]
    exact htrue
  | true =>
  have Fa := few_iff.1 fa
  have Fb := few_iff.1 fb
  by_cases q : 8 < IntKind.i64.wrap ((I.length : Int) + (O.length : Int))
  · simp (disch := first | omega | simp) [bv, q]
    exact htrue
  simp (disch := first | omega | simp) [bv, q]
  refine ca_pure (by kernel_rfl) (c_joined I O _) ?_
  by_cases hj : joinE I O = 0
  case neg =>
    simp (disch := first | omega | simp) [iv, hj]
    exact htrue
  obtain ⟨⟨hI, _⟩, ⟨hO, _⟩⟩ := joinE_ok.1 hj
  obtain ⟨x, e, hTh, ht1, ht2, ht3, ht4⟩ := hT Fa Fb
  rw [hj]
  simp (disch := first | omega | simp) [iv, gA, gB, hla, hlb, ta, tb]
  refine ca_pure (by kernel_rfl) (c_CheckR a _) ?_
  refine cut_st (fun _ : Unit => [iv (bothE a b)]) (fun _ H' => M = H') (fun kk hkk => ?_) ?_
  · by_cases h : a.chk = 0
    · simp (disch := first | omega | simp) [iv, h, gB, hlb, tb]
      refine ca_pure (by kernel_rfl) (c_CheckR b _) ?_
      exact hkk () _ _ _ (by rw [bothE, if_pos h]; exact .refl (Nat.le_refl _)) rfl
    · simp (disch := first | omega | simp) [iv, h]
      exact hkk () _ _ _ (by rw [bothE, if_neg h]; exact .refl (Nat.le_refl _)) rfl
  rintro _ _ _ rfl
  unfold S_wordhoardlaw_MachineThrough_K2
  refine cut_st (fun x : Int => [iv x]) (fun x H' => M = H' ∧ (bothE a b = 0 → x = leastOf (Acc (prodM a b) true I O))) (fun kk hkk => ?_) ?_
  · by_cases h : bothE a b = 0
    · obtain ⟨oa, ob⟩ := both_ok h
      simp (disch := first | omega | simp) [iv, h, gA, gB, hla, hlb, ta, tb]
      refine ca_pure (by kernel_rfl) (c_ThroughCost oa ob (few_prod oa ob Fa Fb) hI hO _) ?_
      exact hkk (leastOf (Acc (prodM a b) true I O)) _ _ _ (.refl (Nat.le_refl _)) ⟨rfl, fun _ => rfl⟩
    · simp (disch := first | omega | simp) [iv, h]
      exact hkk dear _ _ _ (.refl (Nat.le_refl _)) ⟨rfl, fun e => absurd e h⟩
  rintro want _ _ ⟨rfl, hwant⟩
  unfold S_wordhoardlaw_MachineThrough_K1
  simp (disch := first | omega | simp) [gA, gB, hla, hlb, ta, tb]
  refine ca_pure (by kernel_rfl) (hTh _) ?_
  have hlx : x.cs.length = 3 := rfl
  have tx : x.cs.take 3 = x.cs := rfl
  have havx : x.av = .agg x.cs := rfl
  rw [havx]
  simp (disch := first | omega | simp) [hlx, tx, put_get_ne, gA, gB, hla, hlb, ta, tb]
  generalize hNe : AH.put _ _ _ = N
  have hNl : H.le N := by rw [← hNe]; exact AH.le.put hw (by omega) (AH.le.put hw (by omega) (AH.le.up hMl))
  have nB : N.get (H.nx + 1) = some (.box 25 b.cs) := by rw [← hNe, AH.get_put_ne (by omega), AH.get_put_ne (by omega), up_get]; exact gB
  clear hNe
  have hlast : ∀ s, (s = true → a.Light ∧ b.Light) → CaV Try.prog N (.fn (.func 16) [] []) [.agg x.cs, iv e, iv (bothE a b), bv s, .dsl 1 (nE I), .dsl 1 (nE O), iv want] (fun v => Rt Try.prog H.nx v (fun v H' => H' = H ∧ v = .p (.bool true))) N := fun s hs => by
    have hfin : Rt Try.prog H.nx (bv true) (fun v H' => H' = H ∧ v = .p (.bool true)) N := rt_one hw hNl (by repeat (first | exact Cl.p _ | exact Cl.dsl _ _ | exact Cl.any | refine Cl.tup ?_ | refine Cl.agg ?_ | exact Clo.nil | refine Clo.cons ?_ ?_)) ⟨rfl, rfl⟩
    by_cases hE : bothE a b = 0
    · rw [hE]
      have hw0 := hwant hE
      rcases ht2 hE with he | he
      · subst he
        obtain ⟨hok, hcost⟩ := ht4 hE rfl
        exact cav_pure (by kernel_rfl) (fun H2 _ => c_right (x := x) (w := 0) s hI hO (fun _ => ⟨hok, by rw [hcost, hw0]⟩) (by unfold I64; omega) H2) hfin
      · have hsf : s = false := by
          cases s with
          | false => rfl
          | true =>
            have := ht3 hE (hs rfl).1 (hs rfl).2
            omega
        subst hsf
        exact cav_pure (by kernel_rfl) (fun H2 _ => c_rightE he H2) hfin
    · obtain ⟨h1, h2⟩ := ht1 hE
      subst h2
      rw [h1]
      have hr := fun H2 => c_right (x := zeroM) (w := bothE a b) (want := want) s hI hO (fun h => absurd h hE) (both_I a b) H2
      simp only [if_neg hE] at hr
      exact cav_pure (by kernel_rfl) (fun H2 _ => hr H2) hfin
  refine cav_pure (by kernel_rfl) (fun H2 _ => c_lightB Fa H2) ?_
  cases hl1 : a.lightB with
  | false =>
    simp (disch := first | omega | simp) [bv]
    exact hlast false (fun h => by cases h)
  | true =>
    simp (disch := first | omega | simp) [bv, nB, hlb, tb]
    refine cav_pure (by kernel_rfl) (fun H2 _ => c_lightB Fb H2) ?_
    cases hl2 : b.lightB with
    | false =>
      simp (disch := first | omega | simp) [bv]
      exact hlast false (fun h => by cases h)
    | true =>
      simp (disch := first | omega | simp) [bv]
      have d1 : a.Light := by by_cases h : a.Light; exact h; rw [light_no h] at hl1; cases hl1
      have d2 : b.Light := by by_cases h : b.Light; exact h; rw [light_no h] at hl2; cases hl2
      exact hlast true (fun _ => ⟨d1, d2⟩))
end Go.Proofs.Ytgkkilbeingleaa
