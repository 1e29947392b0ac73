/- The law MachineOuts holds: whatever comes in, the call returns true and its arguments read as they did. No condition. -/
import Derived.Test.YtgkkilbeingleaaZo17
import Derived.JoinedOf
import Derived.JoinedAt

/- Outs: length by length. -/
namespace Go.Proofs.Ytgkkilbeingleaa
open Go.RowKit Go.Maps
theorem c_symbols (l : List Int) : PF Try.prog 48 [.dsl 1 (nE l)] (iv (if 60 < l.length then 2 else 0)) := fun H => tri_wf fun hw => tri_machine_symbols (by
  unfold S_machine_symbols
  by_cases h : 60 < l.length
  · have hi : (60 : Int) < (l.length : Int) := by omega
    rw [if_pos h]
    simp (disch := first | omega | simp) [hi]
    exact rt_refl ⟨rfl, rfl⟩ (Nat.le_refl _)
  · have hi : ¬ (60 : Int) < (l.length : Int) := by omega
    rw [if_neg h]
    simp (disch := first | omega | simp) [hi]
    exact rt_refl ⟨rfl, rfl⟩ (Nat.le_refl _))
/-- what Outs answers -/
noncomputable def outsE (m : Mac) (I : List Int) (long : Int) : Int := if m.chk ≠ 0 then m.chk else if 60 < I.length ∨ long < 0 ∨ 8 < long then 2 else if symB I = false then 3 else if (outsL m I long.toNat).length ≤ 500 then 0 else 7
noncomputable def outsR (m : Mac) (I : List Int) (long : Int) : AV := .tup [if outsE m I long = 0 then .dsl 1 (wSs (outsL m I long.toNat)) else .p (.slice none 0 0), iv (outsE m I long)]
set_option maxHeartbeats 4000000 in
theorem outs_L1 {H G H1 : AH} {ou ob wp o e N0 dB lg : Nat} {lv : AV} {ds : List Nat} {m : Mac} {I : List Int} {Bq : List Sp} {tt : TypeId}
    (hm : m.Ok) (hms : m.arcs.length ≤ 120) (hI : I.length ≤ 60) (hlg : lg ≤ 8) (hE0 : (outsL m I lg).length ≤ 500 → outsE m I (lg : Int) = 0) (hE7 : ¬ (outsL m I lg).length ≤ 500 → outsE m I (lg : Int) = 7)
    (hw : WF H) (hwG : WF G) (hHG : H.le G) (hGn : H.nx ≤ G.nx) (hw1 : WF H1) (hn : G.nx ≤ H1.nx) (hG1 : G.le H1) (hGo : G.get ou = none)
    (hob : H1.get ob = some (.box tt [.ptr o 0])) (ho : OutAt H1 o m I e lv) (hl : LeftAt N0 m I H1 lv ds) (hdl : ds.length = lg + 1) (hwp : WlkAt ou ob wp H1) (hout : OutB ou G H1 (.p (.slice none 0 0)) [])
    (hdB : H1.get dB = some (.map 91 Bq.length (sF Bq))) (hdd : ∀ d ∈ ds, d ≠ dB) (hBn : Bq.Nodup) (hBv : ∀ s ∈ Bq, Vs m I s) (hBq : ∀ q, q ∈ Bq ↔ cl m I (· ∈ [((0, 0) : Sp)]) q) :
    LoopA Try.prog 1 (S_machine_Outs_L1 (iv (lg : Int)) (fun v H' => H' = H ∧ v = outsR m I (lg : Int)) H (.ptr ob 0) (.ptr ou 0) (.ptr wp 0) (.mp dB)) [.p (.int .i64 0)] H1 := by
  have hml : maxLen = 9223372036854775807 := by decide
  have hK : ∀ k, k < lg + 1 → ∃ dn, dn ≠ dB ∧ WkAt H1 N0 ob o e k dn m I := fun k hk => by
    obtain ⟨r, rfl, h2, h3⟩ := hl
    obtain ⟨d, hd⟩ : ∃ d, ds[k]? = some d := ⟨_, List.getElem?_eq_getElem (by omega)⟩
    obtain ⟨_, _, c, B, h4, h5⟩ := h3 k d hd
    have hdn : ds ≠ [] := fun e => by rw [e] at hdl; simp at hdl
    have hov : oslV r 1 ds.length = .osl r 1 0 ds.length := by rw [hdl]; rfl
    rw [hov] at ho
    refine ⟨d, hdd d (List.mem_of_getElem? hd), ⟨tt, hob⟩, r, c, B, ds.map fun d => [.mp d], by rw [List.length_map]; exact ho, (h2 hdn).2.2, by rw [List.getElem?_map, hd]; rfl, h4, h5⟩
  have hcl : (· ∈ Bq) = cl m I (· = (0, 0)) := by
    have h2 : (fun x : Sp => x ∈ [((0, 0) : Sp)]) = (· = (0, 0)) := funext fun x => propext List.mem_singleton
    rw [← h2]
    exact funext fun q => propext (hBq q)
  refine loop_wf (fun x : Nat × AV => [iv (x.1 : Int)]) (fun x H' => LeftM ou (.p (.slice none 0 0)) x.2 H1 H' ∧ x.1 ≤ lg + 1 ∧ ((List.range x.1).flatMap (outsU m I)).length ≤ 500 ∧ OutB ou G H' x.2 ((List.range x.1).flatMap (outsU m I))) (fun x => lg + 1 - x.1) (0, .p (.slice none 0 0)) (.refl (Nat.le_refl _)) ⟨⟨Nat.le_refl _, fun j w hj hg _ h => ⟨hg, h⟩⟩, Nat.zero_le _, Nat.zero_le _, hout⟩ ?_
  rintro ⟨n, u⟩ H2 hn2 hw2 ⟨jL, jn, ja, jO⟩ k hk
  dsimp only at jL jn ja jO hk ⊢
  unfold S_machine_Outs_L1
  by_cases hnl : n ≤ lg
  · have hni : (n : Int) ≤ (lg : Int) := by omega
    obtain ⟨dn, hdn, hKn⟩ := hK n (by omega)
    have hKn2 := hKn.left hw1 hout jL
    obtain ⟨⟨tb, hob2⟩, r, c, B, es, ho2, hr2, hes, hd2, hB2⟩ := hKn2
    have ho2 := ho2.box
    have hen := (List.getElem?_eq_some_iff.1 hes).1
    have hegt : ∀ h, es[n]'h = [.mp dn] := fun h => (List.getElem?_eq_some_iff.1 hes).2
    have hei : (n : Int) < (es.length : Int) := by omega
    have hiv := ivn (i := n) (by omega)
    have hkz : (keyOf Try.prog 91 (.agg #[.int .i64 0, .int .i64 0])).isSome = true := keySp (s := (0, 0)) (by omega) (by omega)
    have hR : (List.range (n + 1)).flatMap (outsU m I) = (List.range n).flatMap (outsU m I) ++ outsU m I n := by rw [List.range_succ, List.flatMap_append]; simp
    obtain ⟨tw, hwp1⟩ := id hwp
    have hwpo : wp ≠ ou := fun q => by
      have h1 := hout.1
      rw [← q, hwp1] at h1
      simp at h1
    have hwp2 := (jL.2 wp _ (hw1 _ _ hwp1).1 hwp1 hwpo (fun n h => by cases h)).1
    by_cases hz : ((0, 0) : Sp) ∈ B
    · have hsf : sF B (.agg #[.int .i64 0, .int .i64 0]) = some (iv 1) := sF_in hz
      have hU : outsU m I n = ws m I n (cl m I (· = (0, 0))) := by unfold outsU; rw [if_pos ((hB2 _).1 hz)]
      simp (disch := first | omega | simp) [iv, hni, hob2, ho2, hr2, hegt, hei, hd2, lawSp, vals, hkz, hsf, hwp2]
      have hdB2 := (jL.2 dB _ (hw1 _ _ hdB).1 hdB (fun q => by have h1 := hout.1; rw [← q, hdB] at h1; cases h1) (fun n h => by cases h)).1
      refine ca_of (by kernel_rfl) (c_walkM hm hms hI ou ob wp o e N0 G n (by omega) [] (.p (.slice none 0 0)) (by simp; omega) ((List.range n).flatMap (outsU m I)) ja H2 u dB Bq (by have := jL.1; omega) (.inl ⟨rfl, rfl⟩) ⟨tw, hwp2⟩ jO (fun k hk => by
        obtain ⟨d, h1, h2⟩ := hK k (by omega)
        exact ⟨d, h1, h2.left hw1 hout jL⟩) hdB2 hBn hBv) ?_
      rintro v H3 ⟨q1, u', q4, q3⟩
      rw [List.length_map, hcl, ← hU] at q1 q3
      have hsum : ((List.range (n + 1)).flatMap (outsU m I)).length = ((List.range n).flatMap (outsU m I)).length + (outsU m I n).length := by rw [hR, List.length_append]
      by_cases hd : ((List.range n).flatMap (outsU m I)).length + (outsU m I n).length ≤ 500
      · have q5 := q3 hd
        have hmap : (outsU m I n).map (([] : List Int) ++ ·) = outsU m I n := by simp
        rw [hmap] at q5
        rw [q1, decide_eq_true hd]
        simp (disch := first | omega | simp) [bv, hiv]
        rw [show ((n : Int) + 1) = ((n + 1 : Nat) : Int) from rfl]
        exact hk (n + 1, u') _ _ _ (.refl (by have := jL.1; have := q4.1; omega)) ⟨jL.trans q4, by dsimp only; omega, by dsimp only; rw [hsum]; exact hd, by dsimp only; rw [hR]; exact q5⟩ (by dsimp only; omega)
      · rw [q1, decide_eq_false hd]
        simp (disch := first | omega | simp) [bv]
        have hno : ¬ (outsL m I lg).length ≤ 500 := by
          have h1 : outsL m I lg = (List.range (n + 1)).flatMap (outsU m I) ++ ((List.range (lg + 1)).drop (n + 1)).flatMap (outsU m I) := by
            unfold outsL
            rw [← List.flatMap_append]
            have := List.take_append_drop (n + 1) (List.range (lg + 1))
            rw [List.take_range, Nat.min_eq_left (by omega)] at this
            exact congrArg (List.flatMap (outsU m I)) this.symm
          rw [h1, List.length_append, hsum]; omega
        have hJ := jL.trans q4
        refine rt_one hw (fun j w hg => (hJ.2 j w (hw1 _ _ (hG1 _ _ (hHG _ _ hg))).1 (hG1 _ _ (hHG _ _ hg)) (fun q => ?_) (fun n h => by cases h)).1) (by repeat (first | exact Cl.p _ | exact Cl.dsl _ _ | exact Cl.any | refine Cl.tup ?_ | refine Cl.agg ?_ | exact Clo.nil | refine Clo.cons ?_ ?_)) ⟨rfl, by unfold outsR; rw [hE7 hno]; rfl⟩
        have := hHG _ _ hg
        rw [q, hGo] at this; cases this
    · have hsf : sF B (.agg #[.int .i64 0, .int .i64 0]) = none := sF_out hz
      have hU : outsU m I n = [] := by unfold outsU; rw [if_neg fun h => hz ((hB2 _).2 h)]
      simp (disch := first | omega | simp) [iv, hni, hob2, ho2, hr2, hegt, hei, hd2, lawSp, vals, hkz, hsf, hiv]
      exact hk (n + 1, u) _ _ _ (.refl (by have := jL.1; omega)) ⟨jL, by dsimp only; omega, by dsimp only; rw [hR, hU, List.append_nil]; exact ja, by dsimp only; rw [hR, hU, List.append_nil]; exact jO⟩ (by dsimp only; omega)
  · have hni : ¬ (n : Int) ≤ (lg : Int) := by omega
    have hne : n = lg + 1 := by omega
    simp (disch := first | omega | simp) [iv, hni, jO.1]
    subst hne
    have h0 : outsE m I (lg : Int) = 0 := hE0 ja
    refine Grows.rt_in (M := G) (v' := .tup [.dsl 1 (wSs (outsL m I lg)), .p (.int .i64 0)]) jO.2.1 hwG (fun j w hg => ?_) (by have := jL.1; omega) hw hHG hGn (fun H3 hs => ?_) (by repeat (first | exact Cl.p _ | exact Cl.dsl _ _ | exact Cl.any | refine Cl.tup ?_ | refine Cl.agg ?_ | exact Clo.nil | refine Clo.cons ?_ ?_)) ⟨rfl, ?_⟩
    · exact (jL.2 j w (hw1 _ _ (hG1 _ _ hg)).1 (hG1 _ _ hg) (fun q => by rw [q, hGo] at hg; cases hg) (fun n h => by cases h)).1
    · exact .tup (.cons hs (.cons (.refl _) .nil))
    · unfold outsR
      rw [h0, if_pos rfl, Int.toNat_natCast]; rfl
set_option maxHeartbeats 4000000 in
theorem outs_L2 {H G H1 : AH} {ou ob wp o e N0 dB lg : Nat} {lv : AV} {ds : List Nat} {m : Mac} {I : List Int} {Bq : List Sp} {tt : TypeId}
    (hm : m.Ok) (hms : m.arcs.length ≤ 120) (hI : I.length ≤ 60) (hlg : lg ≤ 8) (hE0 : (outsL m I lg).length ≤ 500 → outsE m I (lg : Int) = 0) (hE7 : ¬ (outsL m I lg).length ≤ 500 → outsE m I (lg : Int) = 7)
    (hw : WF H) (hwG : WF G) (hHG : H.le G) (hGn : H.nx ≤ G.nx) (hw1 : WF H1) (hn : G.nx ≤ H1.nx) (hG1 : G.le H1) (hGo : G.get ou = none)
    (hob : H1.get ob = some (.box tt [.ptr o 0])) (ho : OutAt H1 o m I e lv) (hl : LeftAt N0 m I H1 lv ds) (hdl : ds.length = lg + 1) (hwp : WlkAt ou ob wp H1) (hout : OutB ou G H1 (.p (.slice none 0 0)) [])
    (hdB : H1.get dB = some (.map 91 Bq.length (sF Bq))) (hdd : ∀ d ∈ ds, d ≠ dB) (hBn : Bq.Nodup) (hBv : ∀ s ∈ Bq, Vs m I s) (hBq : ∀ q, q ∈ Bq ↔ cl m I (· ∈ [((0, 0) : Sp)]) q) :
    LoopA Try.prog 1 (S_machine_Outs_L2 (iv (lg : Int)) (fun v H' => H' = H ∧ v = outsR m I (lg : Int)) H (.ptr ob 0) (.ptr ou 0) (.ptr wp 0) (.mp dB)) [.p (.int .i64 0)] H1 := by
  have hml : maxLen = 9223372036854775807 := by decide
  have hK : ∀ k, k < lg + 1 → ∃ dn, dn ≠ dB ∧ WkAt H1 N0 ob o e k dn m I := fun k hk => by
    obtain ⟨r, rfl, h2, h3⟩ := hl
    obtain ⟨d, hd⟩ : ∃ d, ds[k]? = some d := ⟨_, List.getElem?_eq_getElem (by omega)⟩
    obtain ⟨_, _, c, B, h4, h5⟩ := h3 k d hd
    have hdn : ds ≠ [] := fun e => by rw [e] at hdl; simp at hdl
    have hov : oslV r 1 ds.length = .osl r 1 0 ds.length := by rw [hdl]; rfl
    rw [hov] at ho
    refine ⟨d, hdd d (List.mem_of_getElem? hd), ⟨tt, hob⟩, r, c, B, ds.map fun d => [.mp d], by rw [List.length_map]; exact ho, (h2 hdn).2.2, by rw [List.getElem?_map, hd]; rfl, h4, h5⟩
  have hcl : (· ∈ Bq) = cl m I (· = (0, 0)) := by
    have h2 : (fun x : Sp => x ∈ [((0, 0) : Sp)]) = (· = (0, 0)) := funext fun x => propext List.mem_singleton
    rw [← h2]
    exact funext fun q => propext (hBq q)
  refine loop_wf (fun x : Nat × AV => [iv (x.1 : Int)]) (fun x H' => LeftM ou (.p (.slice none 0 0)) x.2 H1 H' ∧ x.1 ≤ lg + 1 ∧ ((List.range x.1).flatMap (outsU m I)).length ≤ 500 ∧ OutB ou G H' x.2 ((List.range x.1).flatMap (outsU m I))) (fun x => lg + 1 - x.1) (0, .p (.slice none 0 0)) (.refl (Nat.le_refl _)) ⟨⟨Nat.le_refl _, fun j w hj hg _ h => ⟨hg, h⟩⟩, Nat.zero_le _, Nat.zero_le _, hout⟩ ?_
  rintro ⟨n, u⟩ H2 hn2 hw2 ⟨jL, jn, ja, jO⟩ k hk
  dsimp only at jL jn ja jO hk ⊢
  unfold S_machine_Outs_L2
  by_cases hnl : n ≤ lg
  · have hni : (n : Int) ≤ (lg : Int) := by omega
    obtain ⟨dn, hdn, hKn⟩ := hK n (by omega)
    have hKn2 := hKn.left hw1 hout jL
    obtain ⟨⟨tb, hob2⟩, r, c, B, es, ho2, hr2, hes, hd2, hB2⟩ := hKn2
    have ho2 := ho2.box
    have hen := (List.getElem?_eq_some_iff.1 hes).1
    have hegt : ∀ h, es[n]'h = [.mp dn] := fun h => (List.getElem?_eq_some_iff.1 hes).2
    have hei : (n : Int) < (es.length : Int) := by omega
    have hiv := ivn (i := n) (by omega)
    have hkz : (keyOf Try.prog 91 (.agg #[.int .i64 0, .int .i64 0])).isSome = true := keySp (s := (0, 0)) (by omega) (by omega)
    have hR : (List.range (n + 1)).flatMap (outsU m I) = (List.range n).flatMap (outsU m I) ++ outsU m I n := by rw [List.range_succ, List.flatMap_append]; simp
    obtain ⟨tw, hwp1⟩ := id hwp
    have hwpo : wp ≠ ou := fun q => by
      have h1 := hout.1
      rw [← q, hwp1] at h1
      simp at h1
    have hwp2 := (jL.2 wp _ (hw1 _ _ hwp1).1 hwp1 hwpo (fun n h => by cases h)).1
    by_cases hz : ((0, 0) : Sp) ∈ B
    · have hsf : sF B (.agg #[.int .i64 0, .int .i64 0]) = some (iv 1) := sF_in hz
      have hU : outsU m I n = ws m I n (cl m I (· = (0, 0))) := by unfold outsU; rw [if_pos ((hB2 _).1 hz)]
      simp (disch := first | omega | simp) [iv, hni, hob2, ho2, hr2, hegt, hei, hd2, lawSp, vals, hkz, hsf, hwp2]
      have hdB2 := (jL.2 dB _ (hw1 _ _ hdB).1 hdB (fun q => by have h1 := hout.1; rw [← q, hdB] at h1; cases h1) (fun n h => by cases h)).1
      refine ca_of (by kernel_rfl) (c_walkM hm hms hI ou ob wp o e N0 G n (by omega) [] (.p (.slice none 0 0)) (by simp; omega) ((List.range n).flatMap (outsU m I)) ja H2 u dB Bq (by have := jL.1; omega) (.inl ⟨rfl, rfl⟩) ⟨tw, hwp2⟩ jO (fun k hk => by
        obtain ⟨d, h1, h2⟩ := hK k (by omega)
        exact ⟨d, h1, h2.left hw1 hout jL⟩) hdB2 hBn hBv) ?_
      rintro v H3 ⟨q1, u', q4, q3⟩
      rw [List.length_map, hcl, ← hU] at q1 q3
      have hsum : ((List.range (n + 1)).flatMap (outsU m I)).length = ((List.range n).flatMap (outsU m I)).length + (outsU m I n).length := by rw [hR, List.length_append]
      by_cases hd : ((List.range n).flatMap (outsU m I)).length + (outsU m I n).length ≤ 500
      · have q5 := q3 hd
        have hmap : (outsU m I n).map (([] : List Int) ++ ·) = outsU m I n := by simp
        rw [hmap] at q5
        rw [q1, decide_eq_true hd]
        simp (disch := first | omega | simp) [bv, hiv]
        rw [show ((n : Int) + 1) = ((n + 1 : Nat) : Int) from rfl]
        exact hk (n + 1, u') _ _ _ (.refl (by have := jL.1; have := q4.1; omega)) ⟨jL.trans q4, by dsimp only; omega, by dsimp only; rw [hsum]; exact hd, by dsimp only; rw [hR]; exact q5⟩ (by dsimp only; omega)
      · rw [q1, decide_eq_false hd]
        simp (disch := first | omega | simp) [bv]
        have hno : ¬ (outsL m I lg).length ≤ 500 := by
          have h1 : outsL m I lg = (List.range (n + 1)).flatMap (outsU m I) ++ ((List.range (lg + 1)).drop (n + 1)).flatMap (outsU m I) := by
            unfold outsL
            rw [← List.flatMap_append]
            have := List.take_append_drop (n + 1) (List.range (lg + 1))
            rw [List.take_range, Nat.min_eq_left (by omega)] at this
            exact congrArg (List.flatMap (outsU m I)) this.symm
          rw [h1, List.length_append, hsum]; omega
        have hJ := jL.trans q4
        refine rt_one hw (fun j w hg => (hJ.2 j w (hw1 _ _ (hG1 _ _ (hHG _ _ hg))).1 (hG1 _ _ (hHG _ _ hg)) (fun q => ?_) (fun n h => by cases h)).1) (by repeat (first | exact Cl.p _ | exact Cl.dsl _ _ | exact Cl.any | refine Cl.tup ?_ | refine Cl.agg ?_ | exact Clo.nil | refine Clo.cons ?_ ?_)) ⟨rfl, by unfold outsR; rw [hE7 hno]; rfl⟩
        have := hHG _ _ hg
        rw [q, hGo] at this; cases this
    · have hsf : sF B (.agg #[.int .i64 0, .int .i64 0]) = none := sF_out hz
      have hU : outsU m I n = [] := by unfold outsU; rw [if_neg fun h => hz ((hB2 _).2 h)]
      simp (disch := first | omega | simp) [iv, hni, hob2, ho2, hr2, hegt, hei, hd2, lawSp, vals, hkz, hsf, hiv]
      exact hk (n + 1, u) _ _ _ (.refl (by have := jL.1; omega)) ⟨jL, by dsimp only; omega, by dsimp only; rw [hR, hU, List.append_nil]; exact ja, by dsimp only; rw [hR, hU, List.append_nil]; exact jO⟩ (by dsimp only; omega)
  · have hni : ¬ (n : Int) ≤ (lg : Int) := by omega
    have hne : n = lg + 1 := by omega
    simp (disch := first | omega | simp) [iv, hni, jO.1]
    subst hne
    have h0 : outsE m I (lg : Int) = 0 := hE0 ja
    refine Grows.rt_in (M := G) (v' := .tup [.dsl 1 (wSs (outsL m I lg)), .p (.int .i64 0)]) jO.2.1 hwG (fun j w hg => ?_) (by have := jL.1; omega) hw hHG hGn (fun H3 hs => ?_) (by repeat (first | exact Cl.p _ | exact Cl.dsl _ _ | exact Cl.any | refine Cl.tup ?_ | refine Cl.agg ?_ | exact Clo.nil | refine Clo.cons ?_ ?_)) ⟨rfl, ?_⟩
    · exact (jL.2 j w (hw1 _ _ (hG1 _ _ hg)).1 (hG1 _ _ hg) (fun q => by rw [q, hGo] at hg; cases hg) (fun n h => by cases h)).1
    · exact .tup (.cons hs (.cons (.refl _) .nil))
    · unfold outsR
      rw [h0, if_pos rfl, Int.toNat_natCast]; rfl
end Go.Proofs.Ytgkkilbeingleaa

/- Outs itself. -/
namespace Go.Proofs.Ytgkkilbeingleaa
open Go.RowKit Go.Maps
theorem LeftAt.le {N0 : Nat} {m : Mac} {I : List Int} {H H' : AH} {lv : AV} {ds : List Nat} (h : LeftAt N0 m I H lv ds) (hl : H.le H') (hn : H.nx ≤ H'.nx) : LeftAt N0 m I H' lv ds := by
  obtain ⟨r, h1, h2, h3⟩ := h
  refine ⟨r, h1, fun hd => ?_, fun i d hd => ?_⟩
  · obtain ⟨a, b, c⟩ := h2 hd
    exact ⟨a, by omega, hl _ _ c⟩
  · obtain ⟨a, b, c, B, e, f⟩ := h3 i d hd
    exact ⟨a, by omega, c, B, hl _ _ e, f⟩
set_option maxHeartbeats 4000000 in
theorem c_Outs {m : Mac} (hf : m.Few) (I : List Int) (long : Int) : PF Try.prog 27 [m.av, .dsl 1 (nE I), iv long] (outsR m I long) := fun H => tri_wf fun hw => tri_machine_Outs (by
  have hml : maxLen = 9223372036854775807 := by decide
  have hl3 : m.cs.length = 3 := rfl
  have ht3 : m.cs.take 3 = m.cs := rfl
  unfold S_machine_Outs
  simp (disch := first | omega | simp) [Mac.av, hl3, ht3]
  refine ca_pure (by kernel_rfl) (c_Check m _) ?_
  by_cases hck : m.chk = 0
  · rw [hck]
    simp (disch := first | omega | simp) [iv]
    unfold S_machine_Outs_C5
    refine ca_pure (by kernel_rfl) (c_symbols I _) ?_
    by_cases hbad : 60 < I.length ∨ long < 0 ∨ 8 < long
    · have hE : outsE m I long = 2 := by unfold outsE; rw [if_neg (by simpa using hck), if_pos hbad]
      have hfin : ∀ Z, H.le Z → Rt Try.prog H.nx (.tup [.p (.slice none 0 0), .p (.int .i64 2)]) (fun v H' => H' = H ∧ v = outsR m I long) Z := fun Z hZ => rt_one hw hZ (by repeat (first | exact Cl.p _ | exact Cl.dsl _ _ | exact Cl.any | refine Cl.tup ?_ | refine Cl.agg ?_ | exact Clo.nil | refine Clo.cons ?_ ?_)) ⟨rfl, by unfold outsR; rw [hE]; rfl⟩
      by_cases h1 : 60 < I.length
      · simp (disch := first | omega | simp) [iv, h1]
        exact hfin _ (by repeat (first | with_reducible assumption | with_reducible exact AH.le.refl _ | with_reducible apply AH.le.up | (with_reducible refine AH.le.put hw ?_ ?_; · first | omega | (simp only [up_nx, put_nx, kill_nx]; done) | (simp only [up_nx, put_nx, kill_nx]; omega)) | (with_reducible refine AH.le.kill hw ?_ ?_; · first | omega | (simp only [up_nx, put_nx, kill_nx]; done) | (simp only [up_nx, put_nx, kill_nx]; omega))))
      · by_cases h2 : long < 0
        · simp (disch := first | omega | simp) [iv, h1, h2]
          exact hfin _ (by repeat (first | with_reducible assumption | with_reducible exact AH.le.refl _ | with_reducible apply AH.le.up | (with_reducible refine AH.le.put hw ?_ ?_; · first | omega | (simp only [up_nx, put_nx, kill_nx]; done) | (simp only [up_nx, put_nx, kill_nx]; omega)) | (with_reducible refine AH.le.kill hw ?_ ?_; · first | omega | (simp only [up_nx, put_nx, kill_nx]; done) | (simp only [up_nx, put_nx, kill_nx]; omega))))
        · have h3 : 8 < long := by omega
          simp (disch := first | omega | simp) [iv, h1, h2, h3]
          exact hfin _ (by repeat (first | with_reducible assumption | with_reducible exact AH.le.refl _ | with_reducible apply AH.le.up | (with_reducible refine AH.le.put hw ?_ ?_; · first | omega | (simp only [up_nx, put_nx, kill_nx]; done) | (simp only [up_nx, put_nx, kill_nx]; omega)) | (with_reducible refine AH.le.kill hw ?_ ?_; · first | omega | (simp only [up_nx, put_nx, kill_nx]; done) | (simp only [up_nx, put_nx, kill_nx]; omega))))
    · have h1 : ¬ 60 < I.length := by omega
      have h2 : ¬ long < 0 := by omega
      have h3 : ¬ 8 < long := by omega
      simp (disch := first | omega | simp) [iv, h1, h2, h3]
      refine ca_pure (by kernel_rfl) (c_spoken I _) ?_
      cases hsp : symB I with
      | false =>
        have hE : outsE m I long = 3 := by unfold outsE; rw [if_neg (by simpa using hck), if_neg hbad, if_pos hsp]
        simp (disch := first | omega | simp) [bv]
        exact rt_one hw (by repeat (first | with_reducible assumption | with_reducible exact AH.le.refl _ | with_reducible apply AH.le.up | (with_reducible refine AH.le.put hw ?_ ?_; · first | omega | (simp only [up_nx, put_nx, kill_nx]; done) | (simp only [up_nx, put_nx, kill_nx]; omega)) | (with_reducible refine AH.le.kill hw ?_ ?_; · first | omega | (simp only [up_nx, put_nx, kill_nx]; done) | (simp only [up_nx, put_nx, kill_nx]; omega)))) (by repeat (first | exact Cl.p _ | exact Cl.dsl _ _ | exact Cl.any | refine Cl.tup ?_ | refine Cl.agg ?_ | exact Clo.nil | refine Clo.cons ?_ ?_)) ⟨rfl, by unfold outsR; rw [hE]; rfl⟩
      | true =>
        simp (disch := first | omega | simp) [bv, hl3, ht3]
        have hm : m.Ok := (both_ok (a := m) (b := m) (by unfold bothE; rw [hck]; simp)).1
        have hfr : PF Try.prog 36 [m.av] (.dsl 1 (fromE m)) := c_from hm.1 hm.2.1 (by have := hm.2.2.1; omega) fun x hx => by have := hm.2.2.2.2.1 x hx; omega
        refine ca_pure (by kernel_rfl) (hfr _) ?_
        simp (disch := first | omega | simp) [put_get_ne, Mac.cs]
        generalize hMe : AH.put _ (H.nx + 3 + 6) (.box _ [.ptr (H.nx + 3 + 5) 0]) = M
        have hMn : M.nx = H.nx + 11 := by rw [← hMe]; rfl
        have hMl : H.le M := by rw [← hMe]; exact (by repeat (first | with_reducible assumption | with_reducible exact AH.le.refl _ | with_reducible apply AH.le.up | (with_reducible refine AH.le.put hw ?_ ?_; · first | omega | (simp only [up_nx, put_nx, kill_nx]; done) | (simp only [up_nx, put_nx, kill_nx]; omega)) | (with_reducible refine AH.le.kill hw ?_ ?_; · first | omega | (simp only [up_nx, put_nx, kill_nx]; done) | (simp only [up_nx, put_nx, kill_nx]; omega))))
        have hMb : M.get H.nx = some (.box 25 m.cs) := by rw [← hMe]; simp (disch := first | omega | simp) [put_get_ne]; rfl
        have hMm : M.get (H.nx + 3 + 3) = some (.map 3 0 (iF [])) := by rw [← hMe, iF_nil]; simp (disch := first | omega | simp) [put_get_ne]
        have hMo : M.get (H.nx + 3 + 5) = some (.box 85 [.dsl 1 (fromE m), .dsl 1 (nE I), .mp (H.nx + 3 + 3), .p (.slice none 0 0)]) := by rw [← hMe]; simp (disch := first | omega | simp) [put_get_ne]
        have hMp : M.get (H.nx + 3 + 6) = some (.box 82 [.ptr (H.nx + 3 + 5) 0]) := by rw [← hMe, put_get]
        clear hMe
        obtain ⟨lg, rfl⟩ := Int.eq_ofNat_of_zero_le (show 0 ≤ long by omega)
        refine loop_wf (fun x : Nat => [iv (x : Int)]) (fun x H' => M.nx ≤ H'.nx ∧ (∀ j, j < M.nx → j ≠ H.nx + 3 + 3 → H'.get j = M.get j) ∧ H'.get (H.nx + 3 + 3) = some (.map 3 x (iF ((m.fins.take x).map Fin_.st))) ∧ x ≤ m.fins.length) (fun x => m.fins.length - x) 0 (.refl (Nat.le_refl _)) ⟨Nat.le_refl _, fun _ _ _ => rfl, hMm, Nat.zero_le _⟩ ?_
        rintro x H3 hn3 hw3 ⟨jn, jk, jm, jx⟩ k hk
        have hob3 : H3.get (H.nx + 3 + 6) = some (.box 82 [.ptr (H.nx + 3 + 5) 0]) := by rw [jk _ (by omega) (by omega)]; exact hMp
        have ho3 : H3.get (H.nx + 3 + 5) = some (.box 85 [.dsl 1 (fromE m), .dsl 1 (nE I), .mp (H.nx + 3 + 3), .p (.slice none 0 0)]) := by rw [jk _ (by omega) (by omega)]; exact hMo
        have hb3 : H3.get H.nx = some (.box 25 m.cs) := by rw [jk _ (by omega) (by omega)]; exact hMb
        have hff := hf.2.2
        unfold S_machine_Outs_L4
        by_cases hxl : x < m.fins.length
        · obtain ⟨y, hy⟩ : ∃ y, m.fins[x]? = some y := ⟨_, List.getElem?_eq_getElem hxl⟩
          have hyg : ∀ h, m.fins[x]'h = y := fun h => (List.getElem?_eq_some_iff.1 hy).2
          have hxi : (x : Int) < (m.fins.length : Int) := by omega
          have hiv := ivn (i := x) (by omega)
          have hyk : (keyOf Try.prog 3 (.int .i64 y.st)).isSome = true := keyInt (by have := hm.2.2.2.2.2.1 y (List.mem_of_getElem? hy); have := hm.2.1; unfold I64; omega)
          have hyc : y.cs.length = 2 := rfl
          have hyt : y.cs.take 2 = y.cs := rfl
          have hy0 : ∀ h, y.cs[0]'h = .p (.int .i64 y.st) := fun _ => rfl
          simp (disch := first | omega | simp) [iv, hxi, hyg, put_get_ne, hyc, hyt, hob3, ho3, hy0, jm, lawInt, hyk, hiv]
          refine ⟨by omega, ?_⟩
          have htk : (m.fins.take (x + 1)).map Fin_.st = (m.fins.take x).map Fin_.st ++ [y.st] := by rw [List.take_add_one, hy, List.map_append]; rfl
          rw [show ((x : Int) + 1) = ((x + 1 : Nat) : Int) from rfl]
          refine hk (x + 1) _ _ _ (.refl (by simp only [put_nx, up_nx]; omega)) ⟨by simp only [put_nx, up_nx]; omega, fun j h1 h2 => ?_, ?_, hxl⟩ (by omega)
          · rw [AH.get_put_ne h2, up_get, AH.get_put_ne (by omega), AH.get_put_ne (by omega), up_get]; exact jk j h1 h2
          · rw [put_get, htk, ← iF_snoc, List.map_take]; rfl
        · have hxe : x = m.fins.length := by omega
          have hxi : ¬ (x : Int) < (m.fins.length : Int) := by omega
          simp (disch := first | omega | simp) [iv, hxi]
          subst hxe
          rw [List.take_length] at jm
          unfold S_machine_Outs_C3
          have hb30 : ∀ h, m.cs[0]'h = iv m.states := fun _ => rfl
          simp (disch := first | omega | simp) [iv, hob3, hb3, hb30]
          have hst := hf.1
          refine ca_wf (by kernel_rfl) (c_prepare (e := H.nx + 3 + 3) (I := I) (E := m.fins.map Fin_.st) (ne := m.fins.length) hm (by omega) hf.2.1 hf.1 (by omega) ⟨ho3⟩ jm (by omega) (by rw [List.length_map]; omega) (fun s => List.mem_map)) ?_
          rintro _ H4 hw4 ⟨rfl, p1, p2, lv, ds, p3, p4, p5⟩
          have hob4 : H4.get (H.nx + 3 + 6) = some (.box 82 [.ptr (H.nx + 3 + 5) 0]) := by rw [p2 _ (by omega) (by omega)]; exact hob3
          simp (disch := first | omega | simp) [put_get_ne, both_eq, hob4]
          have hp1 : putA (fun _ => none) (.agg #[.int .i64 0, .int .i64 0]) (.p (.int .i64 1)) = sF [((0, 0) : Sp)] := by rw [← sF_nil]; exact sF_snoc [] ((0, 0) : Sp)
          rw [hp1]
          have hkz : (keyOf Try.prog 91 (.agg #[.int .i64 0, .int .i64 0])).isSome = true := keySp (s := (0, 0)) (by omega) (by omega)
          generalize hM2 : AH.put _ (H4.nx + 1 + 1 + 2 + 1) (.map _ 1 (sF _)) = M2
          have hM2n : M2.nx = H4.nx + 11 := by rw [← hM2]; simp only [put_nx, up_nx]
          have hM2k : ∀ j, j < H4.nx → M2.get j = H4.get j := fun j hj => by
            rw [← hM2, AH.get_put_ne (by omega), AH.get_put_ne (by omega), up_get, AH.get_put_ne (by omega), up_get, AH.get_put_ne (by omega), up_get, AH.get_put_ne (by omega), up_get]
          have hM2o : M2.get H4.nx = some (.box 44 [.p (.slice none 0 0)]) := by
            rw [← hM2, AH.get_put_ne (by omega), AH.get_put_ne (by omega), up_get, AH.get_put_ne (by omega), up_get, AH.get_put_ne (by omega), up_get, put_get]
          have hM2w : ∃ t, M2.get (H4.nx + 1) = some (.box t [.fn (.func 50) [] [.ptr H4.nx 0, .ptr (H.nx + 3 + 6) 0, .ptr (H4.nx + 1) 0]]) :=
            ⟨_, by rw [← hM2, AH.get_put_ne (by omega), AH.get_put_ne (by omega), up_get, put_get]⟩
          have hM2m : M2.get (H4.nx + 1 + 1 + 2 + 1) = some (.map 91 1 (sF [((0, 0) : Sp)])) := by rw [← hM2, put_get]
          clear hM2
          have hoM : OutAt M2 (H.nx + 3 + 5) m I (H.nx + 3 + 3) lv := ⟨by rw [hM2k _ (by omega)]; exact p3.box⟩
          have hvs : ∀ s ∈ [((0, 0) : Sp)], Vs m I s := fun s hs => by
            rcases List.mem_singleton.1 hs with rfl
            exact ⟨Int.le_refl _, by have := hm.1; dsimp only; omega, Nat.zero_le _⟩
          have hHle : H.le H4 := fun j w hg => by
            have hjn := (hw _ _ hg).1
            rw [p2 j (by omega) (by omega), jk j (by omega) (by omega)]
            exact hMl _ _ hg
          have hE0 : (outsL m I lg).length ≤ 500 → outsE m I (lg : Int) = 0 := fun h => by
            unfold outsE
            rw [if_neg (by simpa using hck), if_neg hbad, hsp, if_neg (by simp), Int.toNat_natCast, if_pos h]
          have hE7 : ¬ (outsL m I lg).length ≤ 500 → outsE m I (lg : Int) = 7 := fun h => by
            unfold outsE
            rw [if_neg (by simpa using hck), if_neg hbad, hsp, if_neg (by simp), Int.toNat_natCast, if_neg h]
          have hq := c_quiet (H := M2) (k := H4.nx + 1 + 1 + 2 + 1) (A := [((0, 0) : Sp)]) hm (by omega) hoM hM2m (by simp) hvs
          have hdsb : ∀ d ∈ ds, d < H4.nx := fun d hd => by
            obtain ⟨_, _, _, h3⟩ := p4
            obtain ⟨i, hi⟩ := List.mem_iff_getElem?.1 hd
            exact (h3 i d hi).2.1
          refine ⟨⟨lawSp, hkz, by omega, ?_⟩, lawSp, hkz, by omega, ?_⟩
          · refine ca_wf (by kernel_rfl) hq ?_
            rintro _ H6 hw6 ⟨dB, Bq, rfl, y1, y2, y3, y4, y5, y6, y7, y8⟩
            obtain ⟨tw, hM2w⟩ := hM2w
            have h46 : H4.le H6 := fun j w hg => y7 _ _ (by rw [hM2k j (hw4 _ _ hg).1]; exact hg)
            exact outs_L1 (G := H4.up 11) (N0 := H3.nx) hm hf.2.1 (by omega) (by omega) hE0 hE7 hw (hw4.up 11) hHle (by simp only [up_nx]; omega) hw6 (by simp only [up_nx]; omega) h46 (wf_none hw4 (Nat.le_refl _)) (h46 _ _ hob4) ⟨h46 _ _ p3.box⟩ (p4.le h46 (by omega)) p5 ⟨tw, y7 _ _ hM2w⟩ ⟨y7 _ _ hM2o, .nil _ _ _ _, by simp only [up_nx]; omega⟩ y3 (fun d hd => by have := hdsb d hd; omega) y4 y5 y6
          · refine ca_wf (by kernel_rfl) hq ?_
            rintro _ H6 hw6 ⟨dB, Bq, rfl, y1, y2, y3, y4, y5, y6, y7, y8⟩
            obtain ⟨tw, hM2w⟩ := hM2w
            have h46 : H4.le H6 := fun j w hg => y7 _ _ (by rw [hM2k j (hw4 _ _ hg).1]; exact hg)
            exact outs_L2 (G := H4.up 11) (N0 := H3.nx) hm hf.2.1 (by omega) (by omega) hE0 hE7 hw (hw4.up 11) hHle (by simp only [up_nx]; omega) hw6 (by simp only [up_nx]; omega) h46 (wf_none hw4 (Nat.le_refl _)) (h46 _ _ hob4) ⟨h46 _ _ p3.box⟩ (p4.le h46 (by omega)) p5 ⟨tw, y7 _ _ hM2w⟩ ⟨y7 _ _ hM2o, .nil _ _ _ _, by simp only [up_nx]; omega⟩ y3 (fun d hd => by have := hdsb d hd; omega) y4 y5 y6
  · have hE : outsE m I long = m.chk := by unfold outsE; rw [if_pos hck]
    simp (disch := first | omega | simp) [iv, hck]
    exact rt_one hw (by repeat (first | with_reducible assumption | with_reducible exact AH.le.refl _ | with_reducible apply AH.le.up | (with_reducible refine AH.le.put hw ?_ ?_; · first | omega | (simp only [up_nx, put_nx, kill_nx]; done) | (simp only [up_nx, put_nx, kill_nx]; omega)) | (with_reducible refine AH.le.kill hw ?_ ?_; · first | omega | (simp only [up_nx, put_nx, kill_nx]; done) | (simp only [up_nx, put_nx, kill_nx]; omega)))) (by repeat (first | exact Cl.p _ | exact Cl.dsl _ _ | exact Cl.any | refine Cl.tup ?_ | refine Cl.agg ?_ | exact Clo.nil | refine Clo.cons ?_ ?_)) ⟨rfl, by unfold outsR; rw [hE, if_neg hck]; rfl⟩)
end Go.Proofs.Ytgkkilbeingleaa

/- Outs, the law: what is less. -/
namespace Go.Proofs.Ytgkkilbeingleaa
open Go.RowKit Go.Maps
theorem lessB_drop {a b : List Int} {i : Nat} {x y : Int} (ha : a[i]? = some x) (hb : b[i]? = some y) : lessB (a.drop i) (b.drop i) = bif decide (x = y) then lessB (a.drop (i + 1)) (b.drop (i + 1)) else decide (x < y) := by
  have h1 := (List.getElem?_eq_some_iff.1 ha)
  have h2 := (List.getElem?_eq_some_iff.1 hb)
  obtain ⟨h1, rfl⟩ := h1
  obtain ⟨h2, rfl⟩ := h2
  rw [List.drop_eq_getElem_cons h1, List.drop_eq_getElem_cons h2]
  rfl
theorem c_Less (a b : List Int) : PF Try.prog 29 [.dsl 1 (nE a), .dsl 1 (nE b)] (bv (lessB a b)) := fun H => tri_wf fun hw => tri_len 0 rfl fun hl _ => tri_len 1 rfl fun hl2 _ => tri_wordhoardref_Less (by
  have hml : maxLen = 9223372036854775807 := by decide
  rw [nE_len] at hl hl2
  unfold S_wordhoardref_Less
  refine loop_st (fun i : Nat => [iv (i : Int)]) (fun i H' => H = H' ∧ i ≤ a.length ∧ i ≤ b.length ∧ lessB a b = lessB (a.drop i) (b.drop i)) (fun i => a.length - i) 0 (.refl (Nat.le_refl _)) ⟨rfl, Nat.zero_le _, Nat.zero_le _, rfl⟩ ?_
  rintro i _ hn ⟨rfl, h1, h2, h3⟩ k hk
  unfold S_wordhoardref_Less_L1
  have hfin : ∀ v : Bool, lessB (a.drop i) (b.drop i) = v → Rt Try.prog H.nx (.p (.bool v)) (fun v H' => H' = H ∧ v = bv (lessB a b)) H := fun v hv => rt_refl ⟨rfl, by rw [h3, hv]; rfl⟩ (Nat.le_refl _)
  by_cases ha : i < a.length
  · have hai : (i : Int) < (a.length : Int) := by omega
    obtain ⟨x, hx⟩ : ∃ x, a[i]? = some x := ⟨_, List.getElem?_eq_getElem ha⟩
    have hxn : (nE a)[i]? = some [iv x] := nE_get hx
    have hxg : ∀ h, (nE a)[i]'h = [iv x] := fun h => (List.getElem?_eq_some_iff.1 hxn).2
    by_cases hb : i < b.length
    · have hbi : (i : Int) < (b.length : Int) := by omega
      obtain ⟨y, hy⟩ : ∃ y, b[i]? = some y := ⟨_, List.getElem?_eq_getElem hb⟩
      have hyn : (nE b)[i]? = some [iv y] := nE_get hy
      have hyg : ∀ h, (nE b)[i]'h = [iv y] := fun h => (List.getElem?_eq_some_iff.1 hyn).2
      have hd := lessB_drop hx hy
      have hiv := ivn (i := i) (by omega)
      by_cases hxy : x = y
      · subst hxy
        simp (disch := first | omega | simp) [iv, hai, hbi, hxn, hyn, hiv]
        exact hk (i + 1) _ _ _ (.refl (Nat.le_refl _)) ⟨rfl, ha, hb, by rw [h3, hd]; simp⟩ (by omega)
      · simp (disch := first | omega | simp) [iv, hai, hbi, hxn, hyn, hxy]
        exact hfin _ (by rw [hd]; simp [hxy])
    · have hbi : ¬ (i : Int) < (b.length : Int) := by omega
      simp (disch := first | omega | simp) [iv, hai, hbi]
      have hib : i = b.length := by omega
      have : ¬ (a.length : Int) < (b.length : Int) := by omega
      have hdec : decide ((a.length : Int) < (b.length : Int)) = false := decide_eq_false this
      refine hfin _ ?_
      rw [hib, List.drop_length]
      have : a.drop b.length ≠ [] := fun e => by
        have := congrArg List.length e
        rw [List.length_drop] at this
        simp at this; omega
      cases hc : a.drop b.length with
      | nil => exact absurd hc this
      | cons x l =>
        rw [lessB]
        exact (decide_eq_false (by omega)).symm
  · have hai : ¬ (i : Int) < (a.length : Int) := by omega
    have hia : i = a.length := by omega
    simp (disch := first | omega | simp) [iv, hai]
    refine hfin _ ?_
    rw [hia, List.drop_length]
    by_cases hb : a.length < b.length
    · rw [decide_eq_true hb]
      cases hc : b.drop a.length with
      | nil =>
        have := congrArg List.length hc
        rw [List.length_drop] at this
        simp at this; omega
      | cons x l => rfl
    · rw [decide_eq_false hb, List.drop_of_length_le (by omega)]; rfl)
/-- what the law wants to be told -/
noncomputable def outsW (m : Mac) (I : List Int) (long : Int) : Int := if m.chk = 0 ∧ (symE I = 2 ∨ long < 0 ∨ 8 < long) then 2 else if m.chk = 0 then symE I else m.chk
theorem outsW_no {m : Mac} {I : List Int} {long : Int} (h : outsW m I long ≠ 0) : outsE m I long = outsW m I long := by
  unfold outsW at h ⊢
  unfold outsE
  unfold symE at h ⊢
  by_cases h1 : m.chk = 0
  · simp only [h1, true_and, ne_eq, not_true_eq_false, if_false] at h ⊢
    by_cases h2 : 60 < I.length
    · simp [h2]
    · simp only [h2, if_false] at h ⊢
      by_cases h3 : symB I = true
      · simp only [h3, if_true, false_or] at h ⊢
        by_cases h4 : long < 0 ∨ 8 < long
        · simp [h4]
        · simp [h4] at h
      · simp only [h3, false_or] at h ⊢
        by_cases h4 : long < 0 ∨ 8 < long
        · simp [h4]
        · have h5 : symB I = false := by simpa using h3
          simp [h4]
  · simp [h1]
theorem outsW_yes {m : Mac} {I : List Int} {long : Int} (h : outsW m I long = 0) : m.chk = 0 ∧ Sym I ∧ 0 ≤ long ∧ long ≤ 8 ∧ outsE m I long = if (outsL m I long.toNat).length ≤ 500 then 0 else 7 := by
  unfold outsW at h
  by_cases h1 : m.chk = 0
  · simp only [h1, true_and, if_true] at h
    split at h
    · cases h
    · rename_i h2
      have hs := symE_ok.1 h
      have h3 : symB I = true := by
        unfold symB
        exact List.all_eq_true.2 fun x hx => by simpa using hs.2 x hx
      refine ⟨h1, hs, by omega, by omega, ?_⟩
      unfold outsE
      rw [if_neg (by simpa using h1), if_neg (by have := hs.1; omega), if_neg (by simp [h3])]
  · simp only [h1, false_and, if_false] at h
set_option maxHeartbeats 4000000 in
theorem w_MachineOuts (m : Mac) (I : List Int) (long : Int) (hlI : I64 long) (hT : m.Few → m.Ok → Sym I → 0 ≤ long → long ≤ 8 → PF Try.prog 30 [m.av, .dsl 1 (nE I), iv long, if (outsL m I long.toNat).length ≤ 500 then .dsl 1 (wSs (outsL m I long.toNat)) else .p (.slice none 0 0), iv (if (outsL m I long.toNat).length ≤ 500 then 0 else 7)] (bv true)) : PF Try.prog 6 [m.av, .dsl 1 (nE I), iv long] (.p (.bool true)) := fun H => tri_wf fun hw => tri_wordhoardlaw_MachineOuts (by
  have hml : maxLen = 9223372036854775807 := by decide
  have hl3 : m.cs.length = 3 := rfl
  have ht3 : m.cs.take 3 = m.cs := rfl
  unfold S_wordhoardlaw_MachineOuts
  simp (disch := first | omega | simp) [Mac.av]
  refine ca_pure (by kernel_rfl) (c_begun _) ?_
  simp (disch := first | omega | simp) [bv, hl3, ht3]
  refine ca_pure (by kernel_rfl) (c_few m _) ?_
  cases hfb : m.fewB with
  | false =>
    simp (disch := first | omega | simp) [bv]
    exact rt_one hw (by repeat (first | with_reducible assumption | with_reducible exact AH.le.refl _ | with_reducible apply AH.le.up | (with_reducible refine AH.le.put hw ?_ ?_; · first | omega | (simp only [up_nx, put_nx, kill_nx]; done) | (simp only [up_nx, put_nx, kill_nx]; omega)) | (with_reducible refine AH.le.kill hw ?_ ?_; · first | omega | (simp only [up_nx, put_nx, kill_nx]; done) | (simp only [up_nx, put_nx, kill_nx]; omega)))) (by repeat (first | exact Cl.p _ | exact Cl.dsl _ _ | exact Cl.any | refine Cl.tup ?_ | refine Cl.agg ?_ | exact Clo.nil | refine Clo.cons ?_ ?_)) ⟨rfl, rfl⟩
  | true =>
    have hf : m.Few := few_iff.1 hfb
    simp (disch := first | omega | simp) [bv]
    unfold S_wordhoardlaw_MachineOuts_C5
    generalize hM : AH.put _ H.nx _ = M
    have hMl : H.le M := by rw [← hM]; exact (by repeat (first | with_reducible assumption | with_reducible exact AH.le.refl _ | with_reducible apply AH.le.up | (with_reducible refine AH.le.put hw ?_ ?_; · first | omega | (simp only [up_nx, put_nx, kill_nx]; done) | (simp only [up_nx, put_nx, kill_nx]; omega)) | (with_reducible refine AH.le.kill hw ?_ ?_; · first | omega | (simp only [up_nx, put_nx, kill_nx]; done) | (simp only [up_nx, put_nx, kill_nx]; omega))))
    have hMb : M.get H.nx = some (.box 25 m.cs) := by rw [← hM, put_get]
    have hMn : H.nx ≤ M.nx := by rw [← hM]; simp only [put_nx, up_nx]; omega
    clear hM
    simp (disch := first | omega | simp) [hMb, hl3, ht3]
    refine ca_pure (by kernel_rfl) (c_Outs hf I long _) ?_
    unfold outsR
    simp (disch := first | omega | simp) [hMb, hl3, ht3]
    refine ca_pure (by kernel_rfl) (c_CheckR m _) ?_
    refine ca_pure (by kernel_rfl) (c_Symbols I _) ?_
    refine cut_st (fun x : Int => [iv x]) (fun x H' => M = H' ∧ x = outsW m I long) (fun k hk => ?_) ?_
    · have hkk : k [iv (outsW m I long)] M := hk (outsW m I long) _ _ _ (.refl (Nat.le_refl _)) ⟨rfl, rfl⟩
      by_cases h1 : m.chk = 0
      · by_cases h2 : symE I = 2
        · have e : outsW m I long = 2 := by unfold outsW; rw [if_pos ⟨h1, .inl h2⟩]
          rw [e] at hkk
          simp (disch := first | omega | simp) [iv, h1, h2]
          exact hkk
        · by_cases h3 : long < 0
          · have e : outsW m I long = 2 := by unfold outsW; rw [if_pos ⟨h1, .inr (.inl h3)⟩]
            rw [e] at hkk
            simp (disch := first | omega | simp) [iv, h1, h2, h3]
            exact hkk
          · by_cases h4 : 8 < long
            · have e : outsW m I long = 2 := by unfold outsW; rw [if_pos ⟨h1, .inr (.inr h4)⟩]
              rw [e] at hkk
              simp (disch := first | omega | simp) [iv, h1, h2, h3, h4]
              exact hkk
            · have e : outsW m I long = symE I := by unfold outsW; rw [if_neg (by omega), if_pos h1]
              rw [e] at hkk
              simp (disch := first | omega | simp) [iv, h1, h2, h3, h4]
              exact hkk
      · have e : outsW m I long = m.chk := by unfold outsW; rw [if_neg (by omega), if_neg h1]
        rw [e] at hkk
        simp (disch := first | omega | simp) [iv, h1]
        exact hkk
    rintro _ _ _ ⟨rfl, rfl⟩
    unfold S_wordhoardlaw_MachineOuts_K4
    by_cases hW : outsW m I long = 0
    · obtain ⟨q1, q2, q3, q4, q5⟩ := outsW_yes hW
      have hm : m.Ok := (both_ok (a := m) (b := m) (by unfold bothE; rw [q1]; simp)).1
      obtain ⟨lg, rfl⟩ := Int.eq_ofNat_of_zero_le q3
      rw [Int.toNat_natCast] at q5
      have hT2 := hT hf hm q2 q3 q4
      rw [Int.toNat_natCast] at hT2
      rw [hW, q5, Int.toNat_natCast]
      by_cases hle : (outsL m I lg).length ≤ 500
      · rw [if_pos hle, if_pos hle] at hT2
        rw [if_pos hle]
        generalize hLe : outsL m I lg = L at hT2 hle
        have hLm : ∀ w ∈ L, w.length ≤ lg ∧ Wrs m I (0, 0) w := fun w hw => (outsL_mem hm).1 (by rw [hLe]; exact hw)
        have hLp : L.Pairwise fun a b => beforeB a b = true := by rw [← hLe]; exact outsL_pw hm lg
        have hlen : (wSs L).length = L.length := wSs_len L
        have hli : ¬ (500 : Int) < (L.length : Int) := by omega
        simp (disch := first | omega | simp) [iv, hlen, hli]
        refine loop_st (fun i : Nat => [iv (i : Int)]) (fun i H' => M = H' ∧ i ≤ L.length) (fun i => L.length - i) 0 (.refl (Nat.le_refl _)) ⟨rfl, Nat.zero_le _⟩ ?_
        rintro i _ hn ⟨rfl, hi⟩ k hk
        unfold S_wordhoardlaw_MachineOuts_L3
        by_cases hil : i < L.length
        · have hii : (i : Int) < (L.length : Int) := by omega
          obtain ⟨w, hw1⟩ : ∃ w, L[i]? = some w := ⟨_, List.getElem?_eq_getElem hil⟩
          have hwn : (wSs L)[i]? = some [wE w] := by unfold wSs; rw [List.getElem?_map, hw1]; rfl
          have hwg : ∀ h, (wSs L)[i]'h = [wE w] := fun h => (List.getElem?_eq_some_iff.1 hwn).2
          obtain ⟨w1, w2⟩ := hLm w (List.mem_of_getElem? hw1)
          have hws : Sym w := ⟨by omega, fun c hc => by have := wrs_sym hm w2 c hc; omega⟩
          have hsE : symE w = 0 := symE_ok.2 hws
          have hcc := cost_cheap (O := w) hm q2.1 hws.1
          have hcd : costOf m true I w ≠ dear := by have := hcc.1.2 w2; omega
          have hcd2 : ¬ costOf m true I w = 1152921504606846976 := fun e => hcd (by rw [e]; rfl)
          have hwl : ¬ (lg : Int) < (w.length : Int) := by omega
          have hiv := ivn (i := i) (by omega)
          unfold S_wordhoardlaw_MachineOuts_C2
          simp (disch := first | omega | simp) [iv, hlen, hii, hwg, wE, hwl]
          refine cav_pure (by kernel_rfl) (fun H2 _ => c_Symbols w H2) ?_
          rw [hsE]
          simp (disch := first | omega | simp) [iv, hlen, hii, hwg, wE, hMb, hl3, ht3]
          refine cav_pure (by kernel_rfl) (fun H2 _ => c_Cost hm true q2.1 hws.1 H2) ?_
          simp (disch := first | omega | simp) [iv, hcd2]
          unfold S_wordhoardlaw_MachineOuts_C1
          have hkk : k [iv ((i + 1 : Nat) : Int)] M := hk (i + 1) _ _ _ (.refl (Nat.le_refl _)) ⟨rfl, hil⟩ (by omega)
          by_cases hi0 : i = 0
          · subst hi0
            simp (disch := first | omega | simp)
            exact hkk
          · obtain ⟨j, rfl⟩ : ∃ j, i = j + 1 := ⟨i - 1, by omega⟩
            have hjl : j < L.length := by omega
            obtain ⟨v, hv1⟩ : ∃ v, L[j]? = some v := ⟨_, List.getElem?_eq_getElem hjl⟩
            have hvn : (wSs L)[j]? = some [wE v] := by unfold wSs; rw [List.getElem?_map, hv1]; rfl
            have hvg : ∀ h, (wSs L)[j]'h = [wE v] := fun h => (List.getElem?_eq_some_iff.1 hvn).2
            have hb : beforeB v w = true := by
              have h1 := (List.getElem?_eq_some_iff.1 hv1).2
              have h2 := (List.getElem?_eq_some_iff.1 hw1).2
              rw [← h1, ← h2]
              exact List.pairwise_iff_getElem.1 hLp j (j + 1) hjl hil (by omega)
            have hjw : IntKind.i64.wrap (j : Int) = (j : Int) := by rw [IntKind.wrap_i64]; omega
            have hji : (j : Int) < (L.length : Int) := by omega
            have hji2 : (j : Int) + 1 < (L.length : Int) := by omega
            have hj0 : (0 : Int) < (j : Int) + 1 := by omega
            have hj1 : (0 : Int) ≤ (j : Int) + 1 := by omega
            unfold beforeB at hb
            have hkk2 : k [.p (.int .i64 ((j : Int) + 1 + 1))] M := hkk
            have hiv2 : IntKind.i64.wrap ((j : Int) + 1 + 1) = (j : Int) + 1 + 1 := by rw [IntKind.wrap_i64]; omega
            by_cases hlt : v.length < w.length
            · have g1 : ¬ (w.length : Int) < (v.length : Int) := by omega
              have g2 : ¬ (v.length : Int) = (w.length : Int) := by omega
              simp (disch := first | omega | simp) [hlen, hjw, hji, hji2, hj0, hj1, hvg, hwg, wE, g1, g2, hiv2]
              exact hkk2
            · have hb2 : v.length = w.length ∧ lessB v w = true := by
                have : decide (v.length < w.length) = false := decide_eq_false hlt
                rw [this] at hb
                simpa using hb
              have g1 : ¬ (w.length : Int) < (v.length : Int) := by omega
              have g2 : (v.length : Int) = (w.length : Int) := by omega
              simp (disch := first | omega | simp) [hlen, hjw, hji, hji2, hj0, hj1, hvg, hwg, wE, g2]
              refine cav_pure (by kernel_rfl) (fun H2 _ => c_Less v w H2) ?_
              rw [hb2.2]
              simp (disch := first | omega | simp) [bv, hiv2]
              exact hkk2
        · have hii : ¬ (i : Int) < (L.length : Int) := by omega
          simp (disch := first | omega | simp) [iv, hlen, hii, hMb, hl3, ht3]
          refine ca_pure (by kernel_rfl) (hT2 _) ?_
          exact rt_one hw hMl (by repeat (first | exact Cl.p _ | exact Cl.dsl _ _ | exact Cl.any | refine Cl.tup ?_ | refine Cl.agg ?_ | exact Clo.nil | refine Clo.cons ?_ ?_)) ⟨rfl, rfl⟩
      · rw [if_neg hle, if_neg hle] at hT2
        rw [if_neg hle]
        simp (disch := first | omega | simp) [iv]
        refine loop_st (fun i : Nat => [iv (i : Int)]) (fun i H' => M = H' ∧ i = 0) (fun i => 0) 0 (.refl (Nat.le_refl _)) ⟨rfl, rfl⟩ ?_
        rintro i _ hn ⟨rfl, rfl⟩ k hk
        unfold S_wordhoardlaw_MachineOuts_L3
        simp (disch := first | omega | simp) [iv, hMb, hl3, ht3]
        refine ca_pure (by kernel_rfl) (hT2 _) ?_
        exact rt_one hw hMl (by repeat (first | exact Cl.p _ | exact Cl.dsl _ _ | exact Cl.any | refine Cl.tup ?_ | refine Cl.agg ?_ | exact Clo.nil | refine Clo.cons ?_ ?_)) ⟨rfl, rfl⟩
    · have hE := outsW_no hW
      rw [hE]
      simp (disch := first | omega | simp) [iv, hW]
      exact rt_one hw hMl (by repeat (first | exact Cl.p _ | exact Cl.dsl _ _ | exact Cl.any | refine Cl.tup ?_ | refine Cl.agg ?_ | exact Clo.nil | refine Clo.cons ?_ ?_)) ⟨rfl, rfl⟩)
end Go.Proofs.Ytgkkilbeingleaa

/- Outs, the law: all words of few symbols. Plain. -/
namespace Go.Proofs.Ytgkkilbeingleaa
def ext (S : List Int) (w : List Int) : List (List Int) := S.map fun c => w ++ [c]
def lvl (S : List Int) : Nat → List (List Int)
  | 0 => [[]]
  | k + 1 => (lvl S k).flatMap (ext S)
theorem lvl_mem {S : List Int} : ∀ {k : Nat} {w : List Int}, w ∈ lvl S k ↔ w.length = k ∧ ∀ c ∈ w, c ∈ S
  | 0, w => by
    rw [lvl, List.mem_singleton]
    constructor
    · rintro rfl; exact ⟨rfl, fun c hc => by cases hc⟩
    · rintro ⟨h, _⟩; exact List.eq_nil_of_length_eq_zero h
  | k + 1, w => by
    rw [lvl, List.mem_flatMap]
    constructor
    · rintro ⟨v, hv, hw⟩
      obtain ⟨c, hc, rfl⟩ := List.mem_map.1 hw
      obtain ⟨h1, h2⟩ := lvl_mem.1 hv
      refine ⟨by rw [List.length_append, h1]; rfl, fun d hd => ?_⟩
      rcases List.mem_append.1 hd with hd | hd
      · exact h2 d hd
      · rcases List.mem_singleton.1 hd with rfl; exact hc
    · rintro ⟨h1, h2⟩
      have hne : w ≠ [] := fun e => by rw [e] at h1; cases h1
      have e := List.dropLast_concat_getLast hne
      refine ⟨w.dropLast, lvl_mem.2 ⟨by rw [List.length_dropLast, h1]; rfl, fun c hc => h2 c (List.dropLast_subset w hc)⟩, List.mem_map.2 ⟨w.getLast hne, h2 _ (List.getLast_mem hne), e⟩⟩
theorem ext_len (S w : List Int) : (ext S w).length = S.length := List.length_map _
theorem lvl_nodup {S : List Int} (h : S.Nodup) : ∀ k, (lvl S k).Nodup
  | 0 => by simp [lvl]
  | k + 1 => by
    have h1 := lvl_nodup h k
    unfold List.Nodup at *
    rw [lvl, List.pairwise_flatMap]
    refine ⟨fun w _ => ?_, h1.imp fun {a b} hab x hx y hy e => ?_⟩
    · unfold ext
      rw [List.pairwise_map]
      exact h.imp fun {a b} hab e => hab (by simpa using e)
    · obtain ⟨c, _, rfl⟩ := List.mem_map.1 hx
      obtain ⟨d, _, rfl⟩ := List.mem_map.1 hy
      exact hab (List.append_inj_left' e rfl)
theorem lvl_len (S : List Int) : ∀ k, (lvl S k).length = S.length ^ k
  | 0 => rfl
  | k + 1 => by
    rw [lvl, List.length_flatMap]
    simp only [ext_len]
    rw [List.map_const', List.sum_replicate_nat, lvl_len S k, Nat.pow_succ]
def allN (s : Nat) : Nat → Nat
  | 0 => 1
  | i + 1 => allN s i * s + 1
theorem allN_succ (s : Nat) : ∀ i, allN s (i + 1) = allN s i + s ^ (i + 1)
  | 0 => by simp [allN]; omega
  | i + 1 => by
    have h := allN_succ s i
    have e1 : allN s (i + 1 + 1) = allN s (i + 1) * s + 1 := rfl
    have e2 : allN s (i + 1) = allN s i * s + 1 := rfl
    have e3 : s ^ (i + 1 + 1) = s ^ (i + 1) * s := Nat.pow_succ ..
    rw [e1, e3]
    have e4 : allN s (i + 1) * s = allN s i * s + s ^ (i + 1) * s := by rw [h, Nat.add_mul]
    omega
def upTo (S : List Int) (k : Nat) : List (List Int) := (List.range k).flatMap (lvl S)
theorem upTo_succ (S : List Int) (k : Nat) : upTo S (k + 1) = upTo S k ++ lvl S k := by unfold upTo; rw [List.range_succ, List.flatMap_append]; simp
theorem upTo_len (S : List Int) : ∀ k, (upTo S (k + 1)).length = allN S.length k
  | 0 => by rw [upTo_succ]; rfl
  | k + 1 => by rw [upTo_succ, List.length_append, upTo_len S k, lvl_len, allN_succ]
theorem upTo_le (S : List Int) : ∀ {k n : Nat}, k ≤ n → (upTo S k).length ≤ (upTo S n).length := fun {k n} h => by
  induction n with
  | zero => rw [show k = 0 by omega]; exact Nat.le_refl _
  | succ n ih =>
    by_cases e : k = n + 1
    · rw [e]; exact Nat.le_refl _
    · have := ih (by omega)
      rw [upTo_succ, List.length_append]; omega
theorem upTo_mem {S : List Int} {k : Nat} {w : List Int} : w ∈ upTo S k ↔ w.length < k ∧ ∀ c ∈ w, c ∈ S := by
  unfold upTo
  rw [List.mem_flatMap]
  constructor
  · rintro ⟨n, hn, h⟩
    obtain ⟨h1, h2⟩ := lvl_mem.1 h
    have := List.mem_range.1 hn
    exact ⟨by omega, h2⟩
  · rintro ⟨h1, h2⟩
    exact ⟨w.length, List.mem_range.2 h1, lvl_mem.2 ⟨rfl, h2⟩⟩
theorem upTo_nodup {S : List Int} (h : S.Nodup) (k : Nat) : (upTo S k).Nodup := by
  unfold upTo List.Nodup
  rw [List.pairwise_flatMap]
  refine ⟨fun n _ => lvl_nodup h n, ?_⟩
  exact List.pairwise_lt_range.imp fun {a b} hab x hx y hy e => by
    have h1 := (lvl_mem.1 hx).1
    have h2 := (lvl_mem.1 hy).1
    rw [e, h2] at h1; omega
open Classical in
/-- how many of them are written -/
noncomputable def cntW (m : Mac) (I : List Int) (l : List (List Int)) : Nat := (l.filter fun w => decide (Wrs m I (0, 0) w)).length
theorem cntW_app (m : Mac) (I : List Int) (a b : List (List Int)) : cntW m I (a ++ b) = cntW m I a + cntW m I b := by unfold cntW; rw [List.filter_append, List.length_append]
theorem cntW_le (m : Mac) (I : List Int) (l : List (List Int)) : cntW m I l ≤ l.length := List.length_filter_le _ _
theorem cntW_nil (m : Mac) (I : List Int) : cntW m I [] = 0 := rfl
theorem cntW_yes {m : Mac} {I : List Int} {w : List Int} (h : Wrs m I (0, 0) w) : cntW m I [w] = 1 := by unfold cntW; simp [h]
theorem cntW_no {m : Mac} {I : List Int} {w : List Int} (h : ¬ Wrs m I (0, 0) w) : cntW m I [w] = 0 := by unfold cntW; simp [h]
open Classical in
theorem cnt_outs {m : Mac} (hm : m.Ok) {I S : List Int} (hS : S.Nodup) (hSm : ∀ c, c ∈ S ↔ 0 < c ∧ ∃ a ∈ m.arcs, a.out = c) (lg : Nat) : cntW m I (upTo S (lg + 1)) = (outsL m I lg).length := by
  unfold cntW
  have hmem : ∀ w, w ∈ (upTo S (lg + 1)).filter (fun w => decide (Wrs m I (0, 0) w)) ↔ w ∈ outsL m I lg := fun w => by
    rw [List.mem_filter, outsL_mem hm, upTo_mem]
    constructor
    · rintro ⟨⟨h1, h2⟩, h3⟩
      exact ⟨by omega, by simpa using h3⟩
    · rintro ⟨h1, h2⟩
      refine ⟨⟨by omega, fun c hc => ?_⟩, by simpa using h2⟩
      obtain ⟨h4, _, h5⟩ := wrs_sym hm h2 c hc
      exact (hSm c).2 ⟨by omega, h5⟩
  have n1 : ((upTo S (lg + 1)).filter (fun w => decide (Wrs m I (0, 0) w))).Nodup := (upTo_nodup hS _).filter _
  exact Nat.le_antisymm (nodup_le n1 fun w hw => (hmem w).1 hw) (nodup_le (outsL_nodup hm lg) fun w hw => (hmem w).2 hw)
end Go.Proofs.Ytgkkilbeingleaa

/- Outs, the law: told, level by level. -/
namespace Go.Proofs.Ytgkkilbeingleaa
open Go.RowKit Go.Maps
/-- a row whose last cell is told anew -/
theorem Gst.last {P : Program} {H : AH} {r : Nat} {t : TypeId} {es : List (List AV)} {a b : AV} (hg : H.get r = some (.row t 1 (es ++ [[a]]))) (h : Sub P H a b) : Gst P H (H.put r (.row t 1 (es ++ [[b]]))) := by
  refine .resub hg (by simp) fun i e e' he he' => ?_
  by_cases hi : i < es.length
  · rw [List.getElem?_append_left hi] at he he'
    rw [he] at he'; injection he' with he'; subst he'; exact .refl _
  · have hl := (List.getElem?_eq_some_iff.1 he).1
    simp at hl
    have : i = es.length := by omega
    subst this
    simp at he he'
    subst he he'
    exact .cons h .nil
set_option maxHeartbeats 4000000 in
theorem told_L2 {H0 H1 : AH} {S w : List Int} {W Z : List (List Int)} {sv lv nv : AV} {N00 i : Nat} {k_49 : List AV → AH → Prop} {vs vs_47 vs_50 vs_54 : List AV}
    (_hw0 : WF H0) (hs : Grows 3 1 (Em N00) H0 sv (nE S)) (hlv : Grows 26 1 (Em N00) H0 lv (wSs W)) (hi : W[i]? = some w) (hwl : w.length ≤ 100) (hSl : S.length ≤ 100) (hWl : W.length ≤ 10000)
    (hZl : Z.length + S.length ≤ 10000000) (hn : H0.nx ≤ H1.nx) (hk0 : ∀ j, j < H0.nx → H1.get j = H0.get j) (hZ : Grows 26 1 (Em H0.nx) H1 nv (wSs Z))
    (hv : vs.getD 0 .any = sv) (hv47 : vs_47.getD 1 .any = lv) (hv50 : vs_50.getD 2 .any = iv (i : Int))
    (hkk : ∀ nv' H2, H1.nx ≤ H2.nx → (∀ j, j < H0.nx → H2.get j = H0.get j) → Grows 26 1 (Em H0.nx) H2 nv' (wSs (Z ++ ext S w)) → k_49 [vs_54.getD 0 .any, nv', iv ((i + 1 : Nat) : Int)] H2) :
    LoopA Try.prog 2 (S_wordhoardlaw_told_L2 vs vs_47 k_49 vs_50 vs_54) [nv, .p (.int .i64 0)] H1 := by
  have hml : maxLen = 9223372036854775807 := by decide
  have hil := (List.getElem?_eq_some_iff.1 hi).1
  refine loop_wf (fun x : AV × Nat => [x.1, iv (x.2 : Int)]) (fun x H' => H1.nx ≤ H'.nx ∧ (∀ j, j < H0.nx → H'.get j = H0.get j) ∧ Grows 26 1 (Em H0.nx) H' x.1 (wSs (Z ++ (ext S w).take x.2)) ∧ x.2 ≤ S.length) (fun x => S.length - x.2) (nv, 0) (.refl (Nat.le_refl _)) ⟨Nat.le_refl _, hk0, by dsimp only; rw [List.take_zero, List.append_nil]; exact hZ, Nat.zero_le _⟩ ?_
  rintro ⟨u, j⟩ H2 hn2 hw2 ⟨jn, jk, jg, jj⟩ k hk
  dsimp only at jg jj hk ⊢
  unfold S_wordhoardlaw_told_L2
  rw [hv, hv47, hv50]
  rw [hs.len, nE_len]
  by_cases hjl : j < S.length
  · have hji : (j : Int) < (S.length : Int) := by omega
    obtain ⟨c, hc⟩ : ∃ c, S[j]? = some c := ⟨_, List.getElem?_eq_getElem hjl⟩
    obtain ⟨rs, ys, rfl, hrs, hrsg, hys⟩ := hs.at_ (by rw [nE_len]; omega)
    obtain ⟨rl, xs, rfl, hrl, hrlg, hxs⟩ := hlv.at_ (by rw [wSs_len]; omega)
    have hyj := hys j (by rw [nE_len]; exact hjl)
    rw [nE_get hc] at hyj
    have hyn := (List.getElem?_eq_some_iff.1 hyj).1
    have hyg : ∀ h, ys[j]'h = [iv c] := fun h => (List.getElem?_eq_some_iff.1 hyj).2
    have hxi := hxs i (by rw [wSs_len]; exact hil)
    rw [show (wSs W)[i]? = some [wE w] by unfold wSs; rw [List.getElem?_map, hi]; rfl] at hxi
    have hxn := (List.getElem?_eq_some_iff.1 hxi).1
    have hxg : ∀ h, xs[i]'h = [wE w] := fun h => (List.getElem?_eq_some_iff.1 hxi).2
    have hrs2 : H2.get rs = some (.row 3 1 ys) := by rw [jk rs hrs]; exact hrsg
    have hrl2 : H2.get rl = some (.row 26 1 xs) := by rw [jk rl hrl]; exact hrlg
    have hiv := ivn (i := j) (by omega)
    have hii : (i : Int) < (W.length : Int) := by omega
    simp (disch := first | omega | simp) [iv, hji, hrl2, hxg, nE_len, wSs_len, hii]
    have hHw : ∀ q, H2.nx ≤ q → (H2.up 16).get q = none := fun q hq => by rw [up_get]; exact wf_none hw2 hq
    refine wrf_row rfl (hHw _ (by omega)) (es := []) (ys := nE w) (by rw [put_get]) (by simp) (.old _ _ (elF_iff.2 rfl)) (by rw [nE_len]; omega) (by rw [nE_len]; omega) ?_
    simp (disch := first | omega | simp) [iv, hrs2, hyg, nE_len, hji]
    refine wrf_row rfl (hHw _ (by omega)) (es := nE w) (ys := [[iv c]]) (by simp (disch := first | omega | simp) [put_get_ne]) (by simp) (elF_whole (t := 3) (es := [[iv c]]) rfl (by simp (disch := first | omega | simp) [iv]) rfl) (by simp; omega) (by simp; omega) ?_
    have hes : ((nE w).drop 0).take w.length ++ [[iv c]] = nE (w ++ [c]) := by
      rw [List.drop_zero, List.take_of_length_le (by rw [nE_len]; exact Nat.le_refl _)]; unfold nE; rw [List.map_append]; rfl
    rw [hes]
    simp only [List.length_singleton]
    have hstk : Z ++ (ext S w).take (j + 1) = (Z ++ (ext S w).take j) ++ [w ++ [c]] := by
      have : (ext S w)[j]? = some (w ++ [c]) := by unfold ext; rw [List.getElem?_map, hc]; rfl
      rw [List.take_add_one, this, ← List.append_assoc]; rfl
    have hbl : (Z ++ (ext S w).take j).length ≤ Z.length + S.length := by rw [List.length_append, List.length_take, ext_len]; omega
    generalize hbc : Z ++ (ext S w).take j = bc at *
    have hwlen := wSs_len bc
    have hsub : ∀ {H5 : AH}, H5.get (H2.nx + 12) = some (.frz 1 (nE (w ++ [c]))) → Sub Try.prog H5 (.osl (H2.nx + 12) 1 0 (w.length + 1)) (wE (w ++ [c])) := fun h5 => by
      have := Sub.frz (P := Try.prog) (off := 0) (n := w.length + 1) h5 (by rw [nE_len, List.length_append]; simp)
      rw [List.drop_zero, List.take_of_length_le (by rw [nE_len, List.length_append]; simp)] at this
      exact this
    have fin : ∀ X : AH, X.nx = H2.nx + 16 → X.get (H2.nx + 12) = some (.row 3 1 (nE (w ++ [c]))) → X.get (H2.nx + 14) = some (.row 26 1 (wSs bc ++ [[.osl (H2.nx + 12) 1 0 (w.length + 1)]])) → (∀ j, j < H0.nx → X.get j = H0.get j) → k [.osl (H2.nx + 14) 1 0 (bc.length + 1), .p (.int .i64 ((j : Int) + 1))] X := by
      intro X hXn h7 h9 hXl
      refine hk (.osl (H2.nx + 14) 1 0 (bc.length + 1), j + 1) ((X.put (H2.nx + 12) (.frz 1 (nE (w ++ [c])))).put (H2.nx + 14) (.row 26 1 (wSs bc ++ [[wE (w ++ [c])]]))) _ _ (.st ((Gst.freeze h7 (dt_nE _)).trans (.last (by rw [AH.get_put_ne (by omega)]; exact h9) (hsub (put_get _ _)))) (by omega)) ⟨by simp only [put_nx]; omega, fun q hq => ?_, ?_, hjl⟩ (by dsimp only; omega)
      · rw [AH.get_put_ne (by omega), AH.get_put_ne (by omega)]; exact hXl q hq
      · dsimp only
        rw [hstk, wSs_app]
        refine .row (by show H0.nx ≤ _; omega) (by simp only [put_nx]; omega) (put_get _ _) ?_ (by rw [List.length_append, wSs_len]; rfl)
        rw [← wSs_app]
        exact dt_wSs _
    rcases jg with ⟨rfl, hnil⟩ | ⟨r, zs, rfl, q1, q2, q3, q4, q5⟩
    · have hbc0 : bc.length = 0 := by rw [← hwlen, hnil]; rfl
      simp (disch := first | omega | simp) [hiv]
      rw [hbc0, hnil] at fin
      refine ⟨by omega, fin _ (by simp only [put_nx, up_nx, kill_nx]) (by simp (disch := first | omega | simp) [put_get_ne]) (by simp (disch := first | omega | simp)) fun q hq => ?_⟩
      simp (disch := first | omega | simp) [put_get_ne, kill_get_ne]
      exact jk q hq
    · rw [hwlen] at q4
      have hxl' : bc.length ≤ zs.length := by have := congrArg List.length q4; rw [hwlen, List.length_take] at this; omega
      have q1 : H0.nx ≤ r := q1
      simp (disch := first | omega | simp) [put_get_ne, kill_get_ne, hiv, q3, hwlen]
      refine ⟨hxl', by omega, by omega, fin _ (by simp only [put_nx, up_nx, kill_nx]) (by simp (disch := first | omega | simp) [put_get_ne, kill_get_ne]) (by simp (disch := first | omega | simp) [q4]) fun q hq => ?_⟩
      simp (disch := first | omega | simp) [put_get_ne, kill_get_ne]
      exact jk q hq
  · have hji : ¬ (j : Int) < (S.length : Int) := by omega
    have hje : j = S.length := by omega
    have hiv := ivn (i := i) (by omega)
    rw [hje, List.take_of_length_le (by rw [ext_len]; exact Nat.le_refl _)] at jg
    simp (disch := first | omega | simp) [iv, hji, hiv]
    exact hkk u H2 jn jk jg
set_option maxHeartbeats 4000000 in
theorem told_L4 {H0 : AH} {S I : List Int} {W : List (List Int)} {sv lv _kv _a1 : AV} {N00 n b kk : Nat} {m : Mac} {k_46 : List AV → AH → Prop} {vs vs_47 : List AV}
    (hm : m.Ok) (hI : I.length ≤ 60) (hb : H0.get b = some (.box 25 m.cs)) (hbn : b < H0.nx)
    (hw0 : WF H0) (hs : Grows 3 1 (Em N00) H0 sv (nE S)) (hlv : Grows 26 1 (Em N00) H0 lv (wSs W)) (hwl : ∀ w ∈ W, w.length ≤ 60) (hSl : S.length ≤ 100) (hWl : W.length ≤ 10000) (hn : n ≤ 100000) (hkk9 : kk ≤ 100)
    (hv : vs.getD 0 .any = sv) (hv0 : vs_47.getD 0 .any = iv (n : Int)) (hv47 : vs_47.getD 1 .any = lv) (hv2 : vs_47.getD 2 .any = iv (kk : Int))
    (hkk : ∀ nv' H2, H0.nx ≤ H2.nx → (∀ j, j < H0.nx → H2.get j = H0.get j) → Grows 26 1 (Em H0.nx) H2 nv' (wSs (W.flatMap (ext S))) → k_46 [iv ((n + cntW m I W : Nat) : Int), nv', iv ((kk + 1 : Nat) : Int)] H2) :
    LoopA Try.prog 3 (S_wordhoardlaw_told_L4 (.dsl 1 (nE I)) (.ptr b 0) vs k_46 vs_47) [vs_47.getD 0 .any, .p (.slice none 0 0), .p (.int .i64 0)] H0 := by
  have hml : maxLen = 9223372036854775807 := by decide
  have hl3 : m.cs.length = 3 := rfl
  have ht3 : m.cs.take 3 = m.cs := rfl
  rw [hv0]
  refine loop_wf (fun x : AV × Nat => [iv ((n + cntW m I (W.take x.2) : Nat) : Int), x.1, iv (x.2 : Int)]) (fun x H' => H0.nx ≤ H'.nx ∧ (∀ j, j < H0.nx → H'.get j = H0.get j) ∧ Grows 26 1 (Em H0.nx) H' x.1 (wSs ((W.take x.2).flatMap (ext S))) ∧ x.2 ≤ W.length) (fun x => W.length - x.2) (.p (.slice none 0 0), 0) (.refl (Nat.le_refl _)) ⟨Nat.le_refl _, fun _ _ => rfl, .nil _ _ _ _, Nat.zero_le _⟩ ?_
  rintro ⟨u, i⟩ H2 hn2 hw2 ⟨jn, jk, jg, ji⟩ k hk
  dsimp only at jg ji hk ⊢
  have hcl := cntW_le m I (W.take i)
  rw [List.length_take] at hcl
  unfold S_wordhoardlaw_told_L4
  rw [hv47]
  rw [hlv.len, wSs_len]
  by_cases hil : i < W.length
  · have hii : (i : Int) < (W.length : Int) := by omega
    obtain ⟨w, hw⟩ : ∃ w, W[i]? = some w := ⟨_, List.getElem?_eq_getElem hil⟩
    obtain ⟨rl, xs, hlve, hrl, hrlg, hxs⟩ := hlv.at_ (by rw [wSs_len]; omega)
    have hxi := hxs i (by rw [wSs_len]; exact hil)
    rw [show (wSs W)[i]? = some [wE w] by unfold wSs; rw [List.getElem?_map, hw]; rfl] at hxi
    have hxn := (List.getElem?_eq_some_iff.1 hxi).1
    have hxg : ∀ h, xs[i]'h = [wE w] := fun h => (List.getElem?_eq_some_iff.1 hxi).2
    have hrl2 : H2.get rl = some (.row 26 1 xs) := by rw [jk rl hrl]; exact hrlg
    have hb2 : H2.get b = some (.box 25 m.cs) := by rw [jk b hbn]; exact hb
    have hwl60 := hwl w (List.mem_of_getElem? hw)
    have hcc := cost_cheap (O := w) hm hI hwl60
    have hcn1 : cntW m I (W.take (i + 1)) = cntW m I (W.take i) + cntW m I [w] := by rw [List.take_add_one, hw, cntW_app]; rfl
    have hfm : (W.take (i + 1)).flatMap (ext S) = (W.take i).flatMap (ext S) ++ ext S w := by rw [List.take_add_one, hw, List.flatMap_append]; simp
    have hfl : ((W.take i).flatMap (ext S)).length ≤ 1000000 := by
      rw [List.length_flatMap]
      simp only [ext_len]
      rw [List.map_const', List.sum_replicate_nat, List.length_take]
      exact Nat.le_trans (Nat.mul_le_mul (show min i W.length ≤ 10000 by omega) hSl) (by omega)
    simp (disch := first | omega | simp) [iv, hii]
    refine cut_st (fun z : Nat => [iv (z : Int)]) (fun z H' => H2 = H' ∧ z = n + cntW m I (W.take (i + 1))) (fun k' hk' => ?_) ?_
    · have hk2 : k' [iv ((n + cntW m I (W.take (i + 1)) : Nat) : Int)] H2 := hk' _ _ _ _ (.refl (Nat.le_refl _)) ⟨rfl, rfl⟩
      subst hlve
      simp (disch := first | omega | simp) [hb2, hl3, ht3, hrl2, hxg, wSs_len, hii]
      refine cav_pure (by kernel_rfl) (fun H3 _ => c_Cost hm true hI hwl60 H3) ?_
      by_cases hW : Wrs m I (0, 0) w
      · have h1 := hcc.1.2 hW
        rw [hcn1, cntW_yes hW] at hk2
        have h1' : costOf m true I w < 1152921504606846976 := h1
        have hwr : IntKind.i64.wrap ((n : Int) + (cntW m I (W.take i) : Int) + 1) = ((n + (cntW m I (W.take i) + 1) : Nat) : Int) := by rw [IntKind.wrap_i64]; omega
        simp (disch := first | omega | simp) [iv, h1', hwr]
        simpa [iv] using hk2
      · have h1 : ¬ costOf m true I w < 1152921504606846976 := fun h => hW (hcc.1.1 h)
        rw [hcn1, cntW_no hW] at hk2
        simp (disch := first | omega | simp) [iv, h1]
        exact hk2
    rintro _ _ hn3 ⟨rfl, rfl⟩
    unfold S_wordhoardlaw_told_K3
    simp only [List.getD_cons_zero, List.getD_cons_succ]
    refine told_L2 (w := w) (W := W) (S := S) (Z := (W.take i).flatMap (ext S)) (i := i) (lv := lv) (sv := sv) hw0 hs hlv hw (by omega) hSl hWl (by omega) jn jk jg hv hv47 rfl fun nv' H3 m1 m2 m3 => ?_
    refine hk (nv', i + 1) _ _ _ (.refl (by omega)) ⟨by omega, m2, by dsimp only; rw [hfm]; exact m3, hil⟩ (by dsimp only; omega)
  · have hii : ¬ (i : Int) < (W.length : Int) := by omega
    have hie : i = W.length := by omega
    have hiv := ivn (i := kk) (by omega)
    rw [hie, List.take_length] at jg ⊢
    rw [hv2]
    simp (disch := first | omega | simp) [iv, hiv]
    exact hkk u H2 jn jk jg
set_option maxHeartbeats 4000000 in
theorem told_L5 {H H0 H1 Hs : AH} {S I : List Int} {sv v0 e l : AV} {N00 b lg : Nat} {m : Mac} {vs vs0 : List AV} {Q : AV → AH → Prop}
    (hm : m.Ok) (hI : I.length ≤ 60) (hlg : lg ≤ 8) (hb : H0.get b = some (.box 25 m.cs)) (hbn : b < H0.nx)
    (_hw0 : WF H0) (hs : Grows 3 1 (Em N00) H0 sv (nE S)) (hSl : S.length ≤ 100) (hall : allN S.length lg ≤ 2000) (hv : vs.getD 0 .any = sv)
    (hlv : Grows 26 1 (Em H0.nx) H1 v0 (wSs [[]])) (hH1 : H0.nx ≤ H1.nx) (hk1 : ∀ j, j < H0.nx → H1.get j = H0.get j)
    (h0 : GW Try.prog Hs.nx vs0 Hs [iv 0, v0, iv 0] H1)
    (hkk : ∀ H2, H0.nx ≤ H2.nx → (∀ j, j < H0.nx → H2.get j = H0.get j) → ∀ vs_47 k_46, vs_47.getD 0 .any = iv (cntW m I (upTo S (lg + 1)) : Int) → vs_47.getD 2 .any = iv ((lg + 1 : Nat) : Int) → S_wordhoardlaw_told_L5 (.dsl 1 (nE I)) (iv (lg : Int)) l e Q H (.ptr b 0) vs vs_47 k_46 H2) :
    LoopA Try.prog 3 (S_wordhoardlaw_told_L5 (.dsl 1 (nE I)) (iv (lg : Int)) l e Q H (.ptr b 0) vs) vs0 Hs := by
  have hml : maxLen = 9223372036854775807 := by decide
  refine loop_wf (fun x : AV × Nat => [iv ((cntW m I (upTo S x.2) : Nat) : Int), x.1, iv (x.2 : Int)]) (fun x H' => H0.nx ≤ H'.nx ∧ (∀ j, j < H0.nx → H'.get j = H0.get j) ∧ Grows 26 1 (Em H0.nx) H' x.1 (wSs (lvl S x.2)) ∧ x.2 ≤ lg + 1) (fun x => lg + 1 - x.2) (v0, 0) h0 ⟨hH1, hk1, hlv, Nat.zero_le _⟩ ?_
  rintro ⟨u, k⟩ H2 hn2 hw2 ⟨jn, jk, jg, ji⟩ k2 hk2
  dsimp only at jg ji hk2 ⊢
  by_cases hkl : k ≤ lg
  · have hki : (k : Int) ≤ (lg : Int) := by omega
    have h1 := upTo_le S (show k + 1 ≤ lg + 1 by omega)
    rw [upTo_len S lg] at h1
    have h2 := upTo_succ S k
    have h3 := congrArg List.length h2
    rw [List.length_append] at h3
    have h4 := cntW_le m I (upTo S k)
    unfold S_wordhoardlaw_told_L5
    simp (disch := first | omega | simp) [iv, hki]
    have h5 := told_L4 (m := m) (I := I) (H0 := H2) (S := S) (W := lvl S k) (sv := sv) (lv := u) (_kv := .any) (_a1 := .any) (N00 := 0) (n := cntW m I (upTo S k)) (b := b) (kk := k) (k_46 := k2) (vs := vs) (vs_47 := [iv ((cntW m I (upTo S k) : Nat) : Int), u, iv (k : Int)]) hm hI (by rw [jk b hbn]; exact hb) (by omega) hw2 ?_ ?_ (fun w hw => by have := (lvl_mem.1 hw).1; omega) hSl (by omega) (by omega) (by omega) hv rfl rfl rfl fun nv' H3 m1 m2 m3 => ?_
    · exact h5
    · exact (Grows.base hs (Nat.zero_le _)).same jn fun j hj _ => jk j hj
    · exact jg.base (Nat.zero_le _)
    · have h6 : cntW m I (upTo S k) + cntW m I (lvl S k) = cntW m I (upTo S (k + 1)) := by rw [h2, cntW_app]
      rw [h6]
      refine hk2 (nv', k + 1) H3 _ _ (.refl (by omega)) ⟨by omega, fun j hj => by rw [m2 j (by omega)]; exact jk j hj, ?_, by dsimp only; omega⟩ (by dsimp only; omega)
      exact m3.base jn
  · have hke : k = lg + 1 := by omega
    subst hke
    exact hkk H2 jn jk _ _ rfl rfl
end Go.Proofs.Ytgkkilbeingleaa

/- Outs, the law: told. -/
namespace Go.Proofs.Ytgkkilbeingleaa
open Go.RowKit Go.Maps
def usE (S : List Int) : List (List AV) := (List.range 61).map fun c : Nat => [bv (decide ((c : Int) ∈ S))]
theorem usE_len (S : List Int) : (usE S).length = 61 := by simp [usE]
theorem usE_get (S : List Int) {c : Nat} (h : c < 61) : (usE S)[c]? = some [bv (decide ((c : Int) ∈ S))] := by simp [usE, h]
theorem usE_set (S : List Int) {c : Nat} (h : c < 61) : (usE S).set c [bv true] = usE (S ++ [(c : Int)]) := by
  refine List.ext_getElem? fun j => ?_
  rw [List.getElem?_set]
  by_cases hj : c = j
  · subst hj
    rw [if_pos rfl, if_pos (by rw [usE_len]; exact h), usE_get _ h]
    simp
  · rw [if_neg hj]
    by_cases hj2 : j < 61
    · rw [usE_get _ hj2, usE_get _ hj2]
      have : ¬ (j : Int) = (c : Int) := by omega
      simp [this]
    · rw [List.getElem?_eq_none (by rw [usE_len]; omega), List.getElem?_eq_none (by rw [usE_len]; omega)]
theorem usE_nil : usE [] = List.replicate 61 [bv false] := rfl
set_option maxHeartbeats 4000000 in
theorem c_told {m : Mac} (hf : m.Few) (hm : m.Ok) {I : List Int} (hI : Sym I) {lg : Nat} (hlg : lg ≤ 8) : PF Try.prog 30 [m.av, .dsl 1 (nE I), iv (lg : Int), if (outsL m I lg).length ≤ 500 then .dsl 1 (wSs (outsL m I lg)) else .p (.slice none 0 0), iv (if (outsL m I lg).length ≤ 500 then 0 else 7)] (bv true) := fun H => tri_wf fun hw => tri_wordhoardlaw_told (by
  have hml : maxLen = 9223372036854775807 := by decide
  have hl3 : m.cs.length = 3 := rfl
  have ht3 : m.cs.take 3 = m.cs := rfl
  generalize hl : (if (outsL m I lg).length ≤ 500 then AV.dsl 1 (wSs (outsL m I lg)) else .p (.slice none 0 0)) = l
  generalize he : (if (outsL m I lg).length ≤ 500 then (0 : Int) else 7) = e
  unfold S_wordhoardlaw_told
  simp (disch := first | omega | simp) [Mac.av]
  refine ⟨by omega, ?_⟩
  generalize hMe : AH.put _ (H.nx + 2) _ = M
  have hMl : H.le M := by rw [← hMe]; exact (by repeat (first | with_reducible assumption | with_reducible exact AH.le.refl _ | with_reducible apply AH.le.up | (with_reducible refine AH.le.put hw ?_ ?_; · first | omega | (simp only [up_nx, put_nx, kill_nx]; done) | (simp only [up_nx, put_nx, kill_nx]; omega)) | (with_reducible refine AH.le.kill hw ?_ ?_; · first | omega | (simp only [up_nx, put_nx, kill_nx]; done) | (simp only [up_nx, put_nx, kill_nx]; omega))))
  have hMb : M.get H.nx = some (.box 25 m.cs) := by rw [← hMe, AH.get_put_ne (by omega), up_get, put_get]
  have hMu : M.get (H.nx + 2) = some (.row 4 1 (usE [])) := by rw [← hMe, put_get]; rfl
  have hMn : M.nx = H.nx + 4 := by rw [← hMe]; simp only [put_nx, up_nx]
  clear hMe
  refine loop_wf (fun x : AV × List Int × Nat => [x.1, iv (x.2.2 : Int)]) (fun x H' => M.nx ≤ H'.nx ∧ (∀ j, j < M.nx → j ≠ H.nx + 2 → H'.get j = M.get j) ∧ H'.get (H.nx + 2) = some (.row 4 1 (usE x.2.1)) ∧ Grows 3 1 (Em M.nx) H' x.1 (nE x.2.1) ∧ x.2.1.Nodup ∧ (∀ c, c ∈ x.2.1 ↔ 0 < c ∧ ∃ a ∈ m.arcs.take x.2.2, a.out = c) ∧ x.2.2 ≤ m.arcs.length) (fun x => m.arcs.length - x.2.2) (.p (.slice none 0 0), [], 0) (.refl (Nat.le_refl _)) ⟨Nat.le_refl _, fun _ _ _ => rfl, hMu, .nil _ _ _ _, .nil, fun c => by simp, Nat.zero_le _⟩ ?_
  rintro ⟨u, S, i⟩ H2 hn2 hw2 ⟨jn, jk, ju, jg, jnd, jS, ji⟩ k hk
  dsimp only at ju jg jnd jS ji hk ⊢
  have hb2 : H2.get H.nx = some (.box 25 m.cs) := by rw [jk _ (by omega) (by omega)]; exact hMb
  have hc1 : ∀ h, m.cs[1]'h = .dsl 5 (m.arcs.map Arc.cs) := fun _ => rfl
  have hSs : ∀ c ∈ S, c ∈ syms := fun c hc => by
    obtain ⟨h1, a, ha, h2⟩ := (jS c).1 hc
    have := (hm.2.2.2.2.1 a (List.take_subset _ _ ha)).2.2.2.2.2.2
    exact syms_mem.2 (by omega)
  have hSl : S.length ≤ 60 := by
    have := nodup_le jnd hSs
    rwa [syms_len] at this
  have hal := hf.2.1
  have hiv := ivn (i := i) (by omega)
  unfold S_wordhoardlaw_told_L7
  by_cases hil : i < m.arcs.length
  · have hii : (i : Int) < (m.arcs.length : Int) := by omega
    obtain ⟨a, ha⟩ : ∃ a, m.arcs[i]? = some a := ⟨_, List.getElem?_eq_getElem hil⟩
    have hag : ∀ h, m.arcs[i]'h = a := fun h => (List.getElem?_eq_some_iff.1 ha).2
    have hac3 : ∀ h, a.cs[3]'h = iv a.out := fun _ => rfl
    have hacl : a.cs.length = 5 := rfl
    have hb := (hm.2.2.2.2.1 a (List.mem_of_getElem? ha)).2.2.2.2.2.2
    obtain ⟨c, hc⟩ := Int.eq_ofNat_of_zero_le (show 0 ≤ a.out by omega)
    have hc61 : c < 61 := by omega
    have hug := usE_get S hc61
    have hun := (List.getElem?_eq_some_iff.1 hug).1
    have hugt : ∀ h, (usE S)[c]'h = [bv (decide ((c : Int) ∈ S))] := fun h => (List.getElem?_eq_some_iff.1 hug).2
    have hcl : (c : Int) < 61 := by omega
    have hskip : (¬ 0 < c ∨ (c : Int) ∈ S) → k [u, .p (.int .i64 ((i : Int) + 1))] H2 := fun hsk => by
      refine hk (u, S, i + 1) _ _ _ (.refl (by omega)) ⟨jn, jk, ju, jg, jnd, fun d => ?_, hil⟩ (by dsimp only; omega)
      dsimp only
      rw [jS d, List.take_add_one, ha]
      constructor
      · rintro ⟨h1, x, hx, h2⟩; exact ⟨h1, x, by simp [hx], h2⟩
      · rintro ⟨h1, x, hx, h2⟩
        rcases List.mem_append.1 hx with hx | hx
        · exact ⟨h1, x, hx, h2⟩
        · have : x = a := by simpa using hx
          subst this
          rcases hsk with h | h
          · omega
          · rw [← h2, hc]; exact (jS _).1 h
    unfold S_wordhoardlaw_told_C1
    by_cases hc0 : 0 < c
    · have hc0i : (0 : Int) < (c : Int) := by omega
      by_cases hcS : (c : Int) ∈ S
      · simp (disch := first | omega | simp) [iv, hii, hb2, hc1, hag, hac3, hc, hc0, ju, hugt, hcl, hcS, bv, hiv]
        exact hskip (.inr hcS)
      · simp (disch := first | omega | simp) [iv, hii, hb2, hc1, hag, hac3, hc, hc0, ju, hugt, hcl, hcS, bv]
        rw [show ([AV.p (Value.bool true)] : List AV) = [bv true] from rfl, usE_set S hc61]
        generalize hZ : AH.put _ (H2.nx + 4 + 2) _ = Z
        have hZk : ∀ j, j < H2.nx → j ≠ H.nx + 2 → Z.get j = H2.get j := fun j h1 h2 => by
          rw [← hZ, AH.get_put_ne (by omega), up_get, AH.get_put_ne h2, up_get]
        have hZu : Z.get (H.nx + 2) = some (.row 4 1 (usE (S ++ [(c : Int)]))) := by rw [← hZ, AH.get_put_ne (by omega), up_get, put_get]
        have hZr : Z.get (H2.nx + 4 + 2) = some (.row 3 1 [[iv (c : Int)]]) := by rw [← hZ, put_get]; rfl
        have hZn : Z.nx = H2.nx + 9 := by rw [← hZ]; simp only [put_nx, up_nx]
        clear hZ
        have hug0 : ∀ n, u ≠ .osl (H.nx + 2) 1 0 n := jg.not fun xs h => by rw [ju] at h; cases h
        refine Grows.app (t := 3) (H0 := Em M.nx) (Em.wf _) (jg.same (by omega) fun j hj ⟨n, hvj⟩ => hZk j hj (fun q => hug0 n (q ▸ hvj))) (Em.le _ _) (by show M.nx ≤ _; omega) (by omega) (ys := [[iv (c : Int)]]) (by rw [elF_osl, hZr]; rfl) (dt_nE [(c : Int)]) (by rw [nE_len]; simp; omega) (by rw [nE_len]; simp; omega) fun v' H5 g5 l5 n5 k5 _ => ?_
        simp (disch := first | omega | simp) [hiv]
        have hvN : ∀ j, j < M.nx → ∀ n, u ≠ .osl j 1 0 n := fun j hj n e => by
          have : M.nx ≤ j := jg.ge e
          omega
        have hnS : nE S ++ [[iv (c : Int)]] = nE (S ++ [(c : Int)]) := by unfold nE; rw [List.map_append]; rfl
        rw [hnS] at g5
        refine hk (v', S ++ [(c : Int)], i + 1) _ _ _ (.refl (by omega)) ⟨by omega, fun j h1 h2 => ?_, ?_, g5, List.nodup_append.2 ⟨jnd, by simp, fun a ha b hb => by simp at hb; subst hb; exact fun q => hcS (q ▸ ha)⟩, fun d => ?_, hil⟩ (by dsimp only; omega)
        · rw [k5 j (by omega) (hvN j h1), hZk j (by omega) h2]; exact jk j h1 h2
        · dsimp only; rw [k5 _ (by omega) hug0]; exact hZu
        · dsimp only
          rw [List.mem_append, jS d, List.take_add_one, ha, List.mem_singleton]
          constructor
          · rintro (⟨h1, x, hx, h2⟩ | rfl)
            · exact ⟨h1, x, by simp [hx], h2⟩
            · exact ⟨hc0i, a, by simp, hc⟩
          · rintro ⟨h1, x, hx, h2⟩
            rcases List.mem_append.1 hx with hx | hx
            · exact .inl ⟨h1, x, hx, h2⟩
            · have : x = a := by simpa using hx
              subst this
              exact .inr (by rw [← h2, hc])
    · have hc0i : ¬ (0 : Int) < (c : Int) := by omega
      simp (disch := first | omega | simp) [iv, hii, hb2, hc1, hag, hac3, hc, hc0, hiv]
      exact hskip (.inl hc0)
  · have hii : ¬ (i : Int) < (m.arcs.length : Int) := by omega
    have hie : i = m.arcs.length := by omega
    simp (disch := first | omega | simp) [iv, hii, hb2, hc1]
    rw [hie, List.take_length] at jS
    have hSm : ∀ c, c ∈ S ↔ 0 < c ∧ ∃ a ∈ m.arcs, a.out = c := jS
    refine loop_wf (fun x : Nat => [iv (allN S.length x : Int), iv (x : Int)]) (fun x H' => H2 = H' ∧ x ≤ lg ∧ allN S.length x ≤ 2000) (fun x => lg - x) 0 (.refl (by omega)) ⟨rfl, Nat.zero_le _, by show 1 ≤ 2000; omega⟩ ?_
    rintro x _ hn3 hw3 ⟨rfl, hx1, hx2⟩ k3 hk3
    have hHle : H.le H2 := fun j w hg => by
      have hjn := (hw _ _ hg).1
      rw [jk j (by omega) (by omega)]; exact hMl _ _ hg
    unfold S_wordhoardlaw_told_L6
    have hsv : ([u, AV.p (Value.int IntKind.i64 (i : Int))] : List AV).getD 0 .any = u := rfl
    rw [hsv]
    have hmul : allN S.length x * S.length ≤ 2000 * 60 := Nat.mul_le_mul hx2 hSl
    have hw1 : IntKind.i64.wrap ((allN S.length x : Int) * (S.length : Int)) = ((allN S.length x * S.length : Nat) : Int) := by rw [← Int.natCast_mul, IntKind.wrap_i64]; omega
    by_cases hxl : x < lg
    · have hxi : (x : Int) < (lg : Int) := by omega
      have hiv3 := ivn (i := x) (by omega)
      have hw2 : IntKind.i64.wrap (((allN S.length x * S.length : Nat) : Int) + 1) = ((allN S.length (x + 1) : Nat) : Int) := by
        rw [IntKind.wrap_i64]
        show _ = ((allN S.length x * S.length + 1 : Nat) : Int)
        omega
      simp (disch := first | omega | simp) [iv, hxi]
      rw [jg.len, nE_len]
      simp only [Int.natCast_mul] at hw1 hw2
      simp (disch := first | omega | simp) [hw1, hw2, hiv3]
      by_cases hbig : 2000 < allN S.length (x + 1)
      · have hbi : (2000 : Int) < (allN S.length (x + 1) : Int) := by omega
        simp (disch := first | omega | simp) [hbi]
        refine ⟨rt_one hw hHle (by repeat (first | exact Cl.p _ | exact Cl.dsl _ _ | exact Cl.any | refine Cl.tup ?_ | refine Cl.agg ?_ | exact Clo.nil | refine Clo.cons ?_ ?_)) ⟨rfl, rfl⟩, fun h => absurd h (by omega)⟩
      · have hbi : ¬ (2000 : Int) < (allN S.length (x + 1) : Int) := by omega
        simp (disch := first | omega | simp) [hbi]
        exact fun _ => hk3 (x + 1) _ _ _ (.refl (by omega)) ⟨rfl, hxl, by omega⟩ (by omega)
    · have hxi : ¬ (x : Int) < (lg : Int) := by omega
      have hxe : x = lg := by omega
      subst hxe
      simp (disch := first | omega | simp) [iv, hxi]
      have hcnt := cnt_outs hm jnd hSm x (I := I)
      have h5 := told_L5 (H := H) (H0 := H2) (H1 := ((H2.up 2).put H2.nx (.row 26 1 [[.p (.slice none 0 0)]])).put H2.nx (.row 26 1 [[wE []]])) (Hs := ((H2.up 2).put H2.nx (.row 26 1 [[.p (.slice none 0 0)]]))) (S := S) (I := I) (sv := u) (v0 := .osl H2.nx 1 0 1) (e := iv e) (l := l) (N00 := M.nx) (b := H.nx) (lg := x) (m := m) (vs := [u, iv (i : Int)]) (vs0 := [iv 0, .osl H2.nx 1 0 1, iv 0]) (Q := fun v H' => H' = H ∧ v = bv true) hm hI.1 hlg hb2 (by omega) hw2 jg (by omega) hx2 rfl ?_ (by simp only [put_nx, up_nx]; omega) (fun j hj => by rw [AH.get_put_ne (by omega), AH.get_put_ne (by omega), up_get]) ?_ ?_
      · exact h5
      · exact .row (Nat.le_refl _) (by simp only [put_nx, up_nx]; omega) (put_get _ _) (dt_wSs [[]]) rfl
      · refine .st ?_ (Nat.le_refl _)
        have h6 := Gst.last (P := Try.prog) (H := (H2.up 2).put H2.nx (.row 26 1 [[.p (.slice none 0 0)]])) (r := H2.nx) (t := 26) (es := []) (a := .p (.slice none 0 0)) (b := wE []) (put_get _ _) (.nil 1 0 (Nat.zero_le _))
        exact h6
      · intro H7 n7 k7 vs_47 k_46 e1 e2
        have hkle : H.le H7 := fun j w hg => by rw [k7 j (hw2 _ _ (hHle _ _ hg)).1]; exact hHle _ _ hg
        have hfin : Rt Try.prog H.nx (.p (.bool true)) (fun v H' => H' = H ∧ v = bv true) H7 := rt_one hw hkle (by repeat (first | exact Cl.p _ | exact Cl.dsl _ _ | exact Cl.any | refine Cl.tup ?_ | refine Cl.agg ?_ | exact Clo.nil | refine Clo.cons ?_ ?_)) ⟨rfl, rfl⟩
        have hxi2 : ¬ ((x + 1 : Nat) : Int) ≤ (x : Int) := by omega
        rw [hcnt] at e1
        unfold S_wordhoardlaw_told_L5
        rw [e1, e2]
        by_cases hle : (outsL m I x).length ≤ 500
        · rw [if_pos hle] at hl he
          subst hl he
          have hgi : ¬ (500 : Int) < ((outsL m I x).length : Int) := by omega
          simp (disch := first | omega | simp) [iv, hgi, wSs_len]
          exact ⟨fun h => absurd h (by omega), fun _ => hfin⟩
        · rw [if_neg hle] at hl he
          subst hl he
          have hgi : (500 : Int) < ((outsL m I x).length : Int) := by omega
          simp (disch := first | omega | simp) [iv, hgi]
          exact ⟨fun h => absurd h (by omega), fun _ => hfin⟩)
end Go.Proofs.Ytgkkilbeingleaa

/- Machines as they come in. -/
namespace Go.Proofs.Ytgkkilbeingleaa
open Go.RowKit Go.Maps Go.ChangeShapes Go.WideShapes
def rArc : Rep (Int × Int × Int × Int × Int) := rPair rInt (rPair rInt (rPair rInt (rPair rInt rInt)))
def rFin : Rep (Int × Int) := rPair rInt rInt
def rMac : Rep (Int × List (Int × Int × Int × Int × Int) × List (Int × Int)) := rPair rInt (rPair (rList rArc) (rList rFin))
def toA (x : Int × Int × Int × Int × Int) : Arc := ⟨x.1, x.2.1, x.2.2.1, x.2.2.2.1, x.2.2.2.2⟩
def toF (x : Int × Int) : Fin_ := ⟨x.1, x.2⟩
def toM (x : Int × List (Int × Int × Int × Int × Int) × List (Int × Int)) : Mac := ⟨x.1, x.2.1.map toA, x.2.2.map toF⟩
theorem avs_arc : AvsG rArc toA Arc.cs (fun _ => True) := (avs_int.pair (avs_int.pair (avs_int.pair (avs_int.pair avs_int)))).map (fun x => (⟨x.1, x.2.1, x.2.2.1, x.2.2.2.1, x.2.2.2.2⟩ : Arc)) Arc.cs (fun _ => True) (fun _ => rfl) (fun _ _ => trivial)
theorem avs_fin : AvsG rFin toF Fin_.cs (fun _ => True) := (avs_int.pair avs_int).map (fun x => (⟨x.1, x.2⟩ : Fin_)) Fin_.cs (fun _ => True) (fun _ => rfl) (fun _ _ => trivial)
theorem avs_mac : AvsG rMac toM Mac.cs (fun _ => True) := (avs_int.pair ((avs_arc.list (by decide)).pair (avs_fin.list (by decide)))).map (fun x => (⟨x.1, x.2.1, x.2.2⟩ : Mac)) Mac.cs (fun _ => True) (fun _ => rfl) (fun _ _ => trivial)
theorem opens_arc : Opens Try.prog 53 rArc :=
  opens_struct (l := [_, _, _, _, _]) Try.underlying53 rfl (opens_more rfl rfl (opens_int Try.underlying3) (opens_more rfl rfl (opens_int Try.underlying3) (opens_more rfl rfl (opens_int Try.underlying3) (opens_more rfl rfl (opens_int Try.underlying3) (opens_last rfl rfl (opens_int Try.underlying3))))))
theorem opens_fin : Opens Try.prog 56 rFin :=
  opens_struct (l := [_, _]) Try.underlying56 rfl (opens_more rfl rfl (opens_int Try.underlying3) (opens_last rfl rfl (opens_int Try.underlying3)))
theorem opens_mac : Opens Try.prog 25 rMac :=
  opens_struct (l := [_, _, _]) Try.underlying25 rfl (opens_more rfl rfl (opens_int Try.underlying3) (opens_more rfl rfl (opens_slice Try.underlying22 rfl (by decide) opens_arc) (opens_last rfl rfl (opens_slice Try.underlying23 rfl (by decide) opens_fin))))
theorem opens_nums : Opens Try.prog 26 (rList rInt) := opens_slice Try.underlying26 rfl (by decide) (opens_int Try.underlying3)
theorem law_pf {f : FuncId} {ps : List AV} (h : PF Try.prog f ps (bv true)) : Tri Try.prog f ps ⟨0, []⟩ (fun v _ => v = .p (.bool true)) := (h ⟨0, []⟩).mono fun _v _H' h => h.2
end Go.Proofs.Ytgkkilbeingleaa

/- Outs, the law's walk. -/
namespace Go.Proofs.Ytgkkilbeingleaa
open Go.RowKit Go.Maps
theorem w_MachineOuts' (m : Mac) (I : List Int) (long : Int) (hl : I64 long) : PF Try.prog 6 [m.av, .dsl 1 (nE I), iv long] (.p (.bool true)) :=
  w_MachineOuts m I long hl fun hf hm hI h1 h2 => by
    obtain ⟨lg, rfl⟩ := Int.eq_ofNat_of_zero_le h1
    rw [Int.toNat_natCast]
    exact c_told hf hm hI (by omega)
end Go.Proofs.Ytgkkilbeingleaa

namespace Go.Proofs.Ytgkkilbeingleaa.machineOuts
open Go.ChangeShapes Go.WideShapes Go.ChangeAt Go.RowKit
open Go.ChangeMaps (open_string shut_string)

set_option maxRecDepth 100000 in
theorem contract (H : Type) (enc : TypeId × Value → H) (W : World) (base : Nat) (args : Array Value) (ds gs : List (DataW H)) (before : List MemPlace)
    (hval : ∀ (j : Nat) t v, Try.f6.params[j]? = some t → args[j]? = some v → Value.okWide Try.prog W .any base t v)
    (hW : DataW.Whole enc Try.prog Try.f6.params.toList Rows.machineOutsSpec.vars false W args.toList ds gs before) :
    Calls Try.prog 6 args W fun e W' => ∃ v, e = .returned v ∧ Rows.machineOutsSpec.post enc Try.prog Try.f6 false true false false W args v W' := by
  have hW' := hW
  obtain ⟨p, q, hA0, hV, rfl, hfz, hnd⟩ := hW
  have hA : DataW.TrodAll enc Try.prog W 0 (fun _ => true) true Try.f6.params.toList args.toList ds p := hA0
  rw [Try.params6] at hA hval
  obtain ⟨v0, v1, v2, d0, d1, d2, p0, p1, p2, rfl, rfl, rfl, h0, h1, h2⟩ := trodAll_three hA
  obtain ⟨rfl, rfl⟩ := trodVars_none hV
  obtain ⟨cs0, x0, rfl, hs0, hb0⟩ := arg_struct opens_mac Try.underlying25 (hval 0 25 v0 rfl rfl) h0
  obtain ⟨A1, c1, x1, rfl, hs1, hb1⟩ := arg_slice opens_nums Try.underlying26 (hval 1 26 v1 rfl rfl) h1
  obtain ⟨c2, rfl, rfl, rfl, wc2⟩ := open_int Try.underlying3 (hval 2 3 v2 rfl rfl) h2
  obtain ⟨k0, r0⟩ := (avs_mac).agg (σ' := fun _ => none) hs0
  obtain ⟨k1, r1⟩ := (avs_int).sl (by decide) (σ' := fun _ => none) hs1
  have i2 : I64 c2 := by simp only [Lit.wf, Bool.and_eq_true, decide_eq_true_eq] at wc2; exact wc2
  have r2 : Rp W (fun b => b < W.heap.size) (fun _ => none) (.p (.int .i64 c2)) (.int .i64 c2) := .data _ _ (.p _ rfl)
  refine (law_calls (us := [.agg cs0, .slice A1 x1.length c1, .int .i64 c2]) (law_pf (w_MachineOuts' (toM x0) (x1.map id) c2 i2)) (.cons r0 (.cons r1 (.cons r2 .nil)))).mono fun e W' ⟨he, hg⟩ => ?_
  subst he
  exact ⟨_, rfl, post_true rfl Try.underlying4 rfl laidOut (by kernel_rfl) hW' rfl hg⟩

set_option maxRecDepth 100000 in
theorem lifted (os : Os) (started : os.Started) (H : Type) (enc : TypeId × Value → H) :
    ReturnsInHanded {} Try.checked os 6 .any (Rows.machineOutsSpec.pre6 enc Try.prog Try.f6 Rows.machineOutsRow.domain false) (Rows.machineOutsSpec.post enc Try.prog Try.f6 false true false false) := by
  refine returnsInHanded_of_change (C := Try.checked) own started (by kernel_rfl) Try.func6
    (ChangeSpec.witness6 (enc := enc) (C := Try.checked) false ⟨#[], #[.agg #[.int .i64 0,.slice none 0 0,.slice none 0 0], .slice none 0 0, .int .i64 0], []⟩ 8 (by kernel_rfl) (by kernel_rfl) (by kernel_rfl) (by kernel_rfl)) ?_
  intro W base args ds gs before hval hW _ _
  exact contract H enc W base args ds gs before hval hW

theorem proved : Rows.MachineOutsSaid :=
  OpenClaim.holds_of_wide 6 Try.f6 rfl rfl rfl rfl rfl rfl rfl ⟨rfl, rfl, rfl, rfl, rfl⟩ rfl rfl rfl rfl rfl (by kernel_rfl) Try.func6 (by kernel_rfl)
    (of_decide_eq_true (by kernel_rfl)) (by unfold Func.isWrapper; first | (rw [if_pos (by decide +kernel)]; kernel_rfl) | (rw [if_neg (by decide +kernel)]; exact ⟨rfl, rfl⟩))
    (fun os started H enc _ => lifted os started H enc)
end Go.Proofs.Ytgkkilbeingleaa.machineOuts
