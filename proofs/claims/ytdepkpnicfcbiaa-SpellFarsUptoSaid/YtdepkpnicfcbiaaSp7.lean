/- Spelling: the way from a text to another one: the walk of Way. -/
import Derived.Test.YtdepkpnicfcbiaaSp6
namespace Go.Proofs.Ytdepkpnicfcbiaa
open Go.RowKit

theorem edit_info : (Try.prog.info? 34).map (fun i => (i.zero, i.size, i.bytes)) = some (some (.agg #[.int .i64 0, .string ⟨#[]⟩]), 2, 24) := by kernel_rfl
theorem one2 (k : Int) (t : ByteArray) : ∀ u ∈ [Value.int .i64 k, .string t], u.oneCell' = true := by
  intro u hu
  rcases List.mem_cons.1 hu with rfl | hu
  · rfl
  · rcases List.mem_cons.1 hu with rfl | hu
    · rfl
    · cases hu
theorem way_mem (p q : List ByteArray) (hq : ∀ x ∈ q, x.size ≤ maxLen) (i j : Nat) : ∀ e ∈ wayI p q i j, I64 e.1 ∧ e.2.size ≤ maxLen := by
  have h0 : none_.size ≤ maxLen := by unfold maxLen; decide
  have hg : ∀ j, (q.getD j none_).size ≤ maxLen := fun j => by
    rw [List.getD_eq_getElem?_getD]
    cases h : q[j]? with
    | none => exact h0
    | some x => exact hq x (List.mem_of_getElem? h)
  fun_induction wayI p q i j with
  | case1 => simp
  | case2 j ih => intro e he; rcases List.mem_cons.1 he with rfl | he; exact ⟨i64_of (x := 4) (by decide) (by decide), hg _⟩; exact ih e he
  | case3 i ih => intro e he; rcases List.mem_cons.1 he with rfl | he; exact ⟨i64_of (x := 3) (by decide) (by decide), h0⟩; exact ih e he
  | case4 i j h ih => intro e he; rcases List.mem_cons.1 he with rfl | he; exact ⟨i64_of (x := 1) (by decide) (by decide), h0⟩; exact ih e he
  | case5 i j h h2 ih => intro e he; rcases List.mem_cons.1 he with rfl | he; exact ⟨i64_of (x := 2) (by decide) (by decide), hg _⟩; exact ih e he
  | case6 i j h h2 h3 ih => intro e he; rcases List.mem_cons.1 he with rfl | he; exact ⟨i64_of (x := 3) (by decide) (by decide), h0⟩; exact ih e he
  | case7 i j h h2 h3 ih => intro e he; rcases List.mem_cons.1 he with rfl | he; exact ⟨i64_of (x := 4) (by decide) (by decide), hg _⟩; exact ih e he
theorem app_step {L r : List Ed} {e : Ed} {W s : List Ed} (h : L ++ s = W) (hs : s = e :: r) : (L ++ [e]) ++ r = W := by
  subst hs; rw [← h]; simp

/-- what Way answers -/
def wayE (s t : ByteArray) : Int := if 200 < (txts s).length ∨ 200 < (txts t).length then 2 else 0
def wayL (s t : ByteArray) : List Ed := if 200 < (txts s).length ∨ 200 < (txts t).length then [] else wayOf s t

set_option maxRecDepth 100000 in
set_option maxHeartbeats 8000000 in
theorem way_any (s t : ByteArray) (hs : s.size ≤ 4294967296) (ht : t.size ≤ 4294967296) (w : World) :
    Calls Try.prog 5 #[.string s, .string t] w fun e w' => ∃ A c, e = .returned (.tuple #[.slice A (wayL s t).length c, .int .i64 (wayE s t)]) ∧ Sl rEd w' (fun b => b < w'.heap.size) A c (wayL s t) ∧ Below w.heap.size w w' := by
  have HF : Hid (wayE s t = if 200 < (txts s).length ∨ 200 < (txts t).length then (2 : Int) else 0) := Lib.hid rfl
  have HF2 : Hid (wayL s t = if 200 < (txts s).length ∨ 200 < (txts t).length then [] else (wayI (txts s) (txts t) (txts s).length (txts t).length).reverse) := Lib.hid rfl
  generalize wayE s t = we at *
  generalize wayL s t = wl at *
  have HMQ := Lib.hid (txts_mem t ht)
  obtain ⟨i0, hi0, hz0, hz1, hz2⟩ := info_parts edit_info
  go_enter Try.func5, Try.ntmps5
  go_wp2_with fail
  refine (units2_any s hs _).mono ?_
  rintro e w2 ⟨v, rfl, hown, hb2⟩
  obtain ⟨A, ca, rfl, hsl⟩ := txts_sl hs hown
  clear hown
  go_wp2_with fail
  refine (units2_any t ht _).mono ?_
  rintro e w3 ⟨v, rfl, hown, hb3⟩
  obtain ⟨B, cb, rfl, hsb⟩ := txts_sl ht hown
  clear hown
  have HP := Lib.hid ((hsl.below (fun _ h => h) hb3).more (fun b h => Nat.lt_of_lt_of_le h hb3.size))
  have HQ := Lib.hid hsb
  have HB := Lib.hid (hb2.trans (hb3.mono hb2.size))
  clear hsl hsb hb2 hb3
  generalize txts s = p at *
  generalize txts t = q at *
  by_cases hp : 200 < p.length
  · have hp1 : (decide ((200 : Int) < (p.length : Int))) = true := by simp; omega
    have HF := Lib.hid (HF.out.trans (if_pos (Or.inl hp)))
    have HF2 := Lib.hid (HF2.out.trans (if_pos (Or.inl hp)))
    go_wp2_with fail
    refine (long_any _ _ _ _).mono ?_
    rintro e w4 ⟨rfl, rfl⟩
    rw [hp1]
    go_wp2
    go_ret2
    rw [HF.out, HF2.out]
    exact ⟨none, 0, rfl, Sl.nil_, HB.out⟩
  · have hp1 : (decide ((200 : Int) < (p.length : Int))) = false := by simp; omega
    by_cases hq : 200 < q.length
    · have hq1 : (decide ((200 : Int) < (q.length : Int))) = true := by simp; omega
      have HF := Lib.hid (HF.out.trans (if_pos (Or.inr hq)))
      have HF2 := Lib.hid (HF2.out.trans (if_pos (Or.inr hq)))
      go_wp2_with fail
      refine (long_any _ _ _ _).mono ?_
      rintro e w4 ⟨rfl, rfl⟩
      rw [hp1]
      go_wp2_with fail
      refine (long_any _ _ _ _).mono ?_
      rintro e w4 ⟨rfl, rfl⟩
      rw [hq1]
      go_wp2
      go_ret2
      rw [HF.out, HF2.out]
      exact ⟨none, 0, rfl, Sl.nil_, HB.out⟩
    · have hq1 : (decide ((200 : Int) < (q.length : Int))) = false := by simp; omega
      have HF := Lib.hid (HF.out.trans (if_neg (fun h => Or.elim h hp hq)))
      have HF2 := Lib.hid (HF2.out.trans (if_neg (fun h => Or.elim h hp hq)))
      go_wp2_with fail
      refine (long_any _ _ _ _).mono ?_
      rintro e w4 ⟨rfl, rfl⟩
      rw [hp1]
      go_wp2_with fail
      refine (long_any _ _ _ _).mono ?_
      rintro e w4 ⟨rfl, rfl⟩
      rw [hq1]
      go_wp2_with fail
      refine (table_any _ _ _ _ _ _ _ _ HP.out HQ.out (fun _ h => h) (by omega) (by omega)).mono ?_
      rintro e w5 ⟨ob, G, f, rfl, hT, hW⟩
      have hb35 : Below w4.heap.size w4 w5 := hT.old
      have HC : Hid (∀ wr, Below w5.heap.size w5 wr → (∀ k, k ≤ p.length → wr.cell? ⟨ob, k, none⟩ = some (.slice (some ⟨G k, 0, none⟩) (q.length + 1) (q.length + 1))) ∧ ∀ k j, k ≤ p.length → j ≤ q.length → wr.cell? ⟨G k, j, none⟩ = some (.int .i64 (dpI p q k j : Nat))) := Lib.hid fun wr hb => by
        have hT2 := hT.below hb
        refine ⟨fun k hk => hT2.ocell (by omega) (by omega), fun k j hk hj => ?_⟩
        rw [← hW.1 k j (by omega) (by omega)]
        exact hT2.cell (by omega) (by omega)
      have HP5 := Lib.hid ((HP.out.below (fun _ h => h) hb35).more (fun b h => Nat.lt_of_lt_of_le h hb35.size))
      have HQ5 := Lib.hid ((HQ.out.below (fun _ h => h) hb35).more (fun b h => Nat.lt_of_lt_of_le h hb35.size))
      have HB5 := Lib.hid (HB.out.trans (hb35.mono HB.out.size))
      have hwl := Lib.hid (way_len p q p.length q.length)
      obtain ⟨W, hWW⟩ : ∃ W, W = wayI p q p.length q.length := ⟨_, rfl⟩
      have HWW := Lib.hid hWW
      have HL0 : Hid ([] ++ wayI p q p.length q.length = W) := Lib.hid hWW.symm
      have HS0 : Hid (w5.ownsRow w5.heap.size 34 2 (.slice none 0 0) ([] : List Ed).length (edC []) ∧ Below w5.heap.size w5 w5) := Lib.hid ⟨ownsRow_none _ _ _ _, Below.refl _ _⟩
      have hWl : W.length ≤ 400 := by rw [hWW]; have := hwl.out; omega
      clear hT hW hb35 HP HQ HB hWW hwl
      go_wp2
      go_loopw [9, 10, 11] (fun out iv jv wr => ∃ (L : List Ed) (i j : Nat), i ≤ p.length ∧ j ≤ q.length ∧ iv = .int .i64 (i : Int) ∧ jv = .int .i64 (j : Int) ∧ Hid (L ++ wayI p q i j = W) ∧ Hid (wr.ownsRow w5.heap.size 34 2 out L.length (edC L) ∧ Below w5.heap.size w5 wr)) (fun _ iv jv _ => (intOf iv).toNat + (intOf jv).toNat)
      case atStart => exact ⟨[], _, _, Nat.le_refl _, Nat.le_refl _, rfl, rfl, HL0, HS0⟩
      case round =>
        obtain ⟨L, i, j, hi, hj, rfl, rfl, HL, HS⟩ := hrel
        clear HL0 HS0
        have hLl : L.length ≤ 400 := by have := congrArg List.length HL.out; rw [List.length_append] at this; omega
        have hwij : IntKind.i64.wrap ((i : Int) + (j : Int)) = (i : Int) + (j : Int) := by rw [IntKind.wrap_i64]; omega
        obtain ⟨A2, c2, rfl⟩ := own_slice HS.out.1
        by_cases h0 : i + j = 0
        · have hpos : ¬ (0 : Int) < (i : Int) + (j : Int) := by omega
          have ei : i = 0 := by omega
          have ej : j = 0 := by omega
          have hLW : L = W := by have h := HL.out; rw [ei, ej, way_0, List.append_nil] at h; exact h
          subst hLW
          by_cases hl0 : L.length = 0
          · have hLn : L = [] := List.eq_nil_of_length_eq_zero hl0
            subst hLn
            have HB9 := Lib.hid (HB5.out.trans (HS.out.2.mono HB5.out.size))
            go_wp2_with fail
            refine (reverse_nil _ _ _).mono ?_
            rintro e w6 ⟨rfl, rfl⟩
            go_wp2
            go_ret2
            rw [HF.out, HF2.out, ← HWW.out]
            refine ⟨_, _, rfl, ⟨by simp, ?_, by simp⟩, HB9.out⟩
            rcases HS.out.1.2 with ⟨hv, _⟩ | ⟨g, cap, cur, hv, hB, hh, hn, hcap, _⟩
            · simp only [Value.slice.injEq] at hv; rw [hv.2.2]; exact Nat.zero_le _
            · simp only [Value.slice.injEq] at hv; omega
          · obtain ⟨g, rfl⟩ : ∃ g, A2 = some ⟨g, 0, none⟩ := by
              rcases HS.out.1.2 with ⟨_, h⟩ | ⟨g, cap, cur, hv, _⟩
              · exact absurd h hl0
              · simp only [Value.slice.injEq] at hv; exact ⟨g, hv.1⟩
            have HM : Hid (∀ e ∈ L, I64 e.1 ∧ e.2.size ≤ maxLen) := Lib.hid (by rw [HWW.out]; exact way_mem p q HMQ.out _ _)
            go_wp2_with fail
            refine (reverse_any L _ g c2 _ HS.out.1 (by omega) HM.out).mono ?_
            rintro e w6 ⟨rfl, hsl6, hb6⟩
            have HB9 := Lib.hid (HB5.out.trans ((HS.out.2.trans hb6).mono HB5.out.size))
            have HSL := Lib.hid hsl6
            clear hsl6 hb6
            go_wp2
            go_ret2
            rw [HF.out, HF2.out, ← HWW.out]
            exact ⟨some ⟨g, 0, none⟩, c2, by rw [List.length_reverse]; rfl, HSL.out, HB9.out⟩
        · have hpos : (0 : Int) < (i : Int) + (j : Int) := by omega
          go_wp2_with fail
          clear hpos hwij
          by_cases hip : 0 < i
          · obtain ⟨im, him⟩ : ∃ im, im + 1 = i := ⟨i - 1, by omega⟩
            have eim : (i : Int) - 1 = (im : Int) := by omega
            have hwim : IntKind.i64.wrap (im : Int) = (im : Int) := by rw [IntKind.wrap_i64]; omega
            have hgi : (0 : Int) < (i : Int) := by omega
            have hib : (i : Int) < (p.length : Int) + 1 := by omega
            have hib1 : (im : Int) < (p.length : Int) + 1 := by omega
            have hib2 : (im : Int) < (p.length : Int) := by omega
            have hjb : (j : Int) < (q.length : Int) + 1 := by omega
            by_cases hjp : 0 < j
            · obtain ⟨jm, hjm⟩ : ∃ jm, jm + 1 = j := ⟨j - 1, by omega⟩
              have ejm : (j : Int) - 1 = (jm : Int) := by omega
              have hwjm : IntKind.i64.wrap (jm : Int) = (jm : Int) := by rw [IntKind.wrap_i64]; omega
              have hgj : (0 : Int) < (j : Int) := by omega
              have hjb1 : (jm : Int) < (q.length : Int) + 1 := by omega
              have hjb2 : (jm : Int) < (q.length : Int) := by omega
              obtain ⟨ho, hc⟩ := HC.out wr HS.out.2
              have oi := ho i hi
              have om := ho im (by omega)
              have cij := hc i j hi hj
              have cmm := hc im jm (by omega) (by omega)
              have cmj := hc im j (by omega) hj
              clear ho hc
              obtain ⟨ap, rfl, _, _, ca0⟩ := str_at (HP5.out.below (fun b h => h) HS.out.2) (k := im) (by omega)
              obtain ⟨aq, rfl, _, _, cb0⟩ := str_at (HQ5.out.below (fun b h => h) HS.out.2) (k := jm) (by omega)
              have hpe : p[im]? = some (p[im]'(by omega)) := List.getElem?_eq_getElem (by omega)
              have hqe : q[jm]? = some (q[jm]'(by omega)) := List.getElem?_eq_getElem (by omega)
              have hqd : q.getD jm none_ = q[jm]'(by omega) := by rw [List.getD_eq_getElem?_getD, hqe]; rfl
              have bx := dpI_le p q i j
              have by_ := dpI_le p q im jm
              have bz := dpI_le p q im j
              generalize p[im]'(by omega) = sp at *
              generalize q[jm]'(by omega) = sq at *
              by_cases hsame : sp = sq
              · subst hsame
                have hdp := dp_same p q (hpe.trans hqe.symm)
                have HW := Lib.hid (way_keep p q (hpe.trans hqe.symm))
                rw [him, hjm] at hdp HW
                rw [hdp] at cij
                clear hdp hqd hpe hqe bx by_ bz cmj
                generalize dpI p q im jm = x at *
                go_quiet (fail)
                replace HS : Hid ((World.drewN wr nq).ownsRow w5.heap.size 34 2 (.slice A2 L.length c2) L.length (edC L) ∧ Below w5.heap.size w5 (World.drewN wr nq)) := Lib.hid ⟨HS.out.1, below_drewN HS.out.2 nq⟩
                skip
                generalize World.drewN wr nq = w6 at *
                clear oi om cij cmm ca0 cb0
                have hsz := HS.out.2.size
                have hown0 := Lib.hid HS.out.1
                have hold0 := Lib.hid HS.out.2
                go_wp2_with (at_builtin; refine wpList_append_own _ rfl _ _ 22 rfl w5.heap.size 34 i0 _ 2 24 Try.underlying22 hi0 hz0 hz1 hz2 rfl (by decide) _ _ _ rfl (hown0.out.alloc _) ⟨w6.heap.size, 0, none⟩ 1 1 [.int .i64 1, .string (⟨#[]⟩ : ByteArray)] rfl rfl (cells_new _ [_, _] _) (one2 _ _) (by unfold maxLen; omega) (by omega) (by simp; omega) ?_)
                intro v' w9 hown9 hg9 _
                have HS9 : Hid (w9.ownsRow w5.heap.size 34 2 v' (L ++ [(1, (⟨#[]⟩ : ByteArray))]).length (edC (L ++ [(1, (⟨#[]⟩ : ByteArray))])) ∧ Below w5.heap.size w5 w9) := Lib.hid ⟨by rw [edC_snoc, List.length_append]; exact hown9, (hold0.out.alloc hsz _).grown hg9 (by simp; omega) (fun k hk => own_ge hown0.out k hk)⟩
                have HL9 := Lib.hid (app_step HL.out HW.out)
                clear hown9 hg9 hown0 hold0 HS HL
                go_wp2
                go_roundw
                case rel => exact ⟨_, im, jm, by omega, by omega, by go_num, by go_num, HL9, HS9⟩
                case measure => simp [intOf]; omega
              · have hne : (sp.toList == sq.toList) = false := str_ne hsame
                have hn : ¬ p[im]? = q[jm]? := by rw [hpe, hqe]; exact fun e => hsame (Option.some.inj e)
                have hT := way_turn p q hn
                have hD := way_drop p q hn
                have hP := way_put p q hn
                rw [him, hjm] at hT hD hP
                rw [hqd] at hT hP
                have HWT := Lib.hid hT
                have HWD := Lib.hid hD
                have HWP := Lib.hid hP
                clear hn hT hD hP hqd hpe hqe
                generalize dpI p q i j = z at *
                generalize dpI p q im jm = x at *
                generalize dpI p q im j = y at *
                have hwx : IntKind.i64.wrap ((x : Int) + 1) = (x : Int) + 1 := by rw [IntKind.wrap_i64]; omega
                have hwy : IntKind.i64.wrap ((y : Int) + 1) = (y : Int) + 1 := by rw [IntKind.wrap_i64]; omega
                clear bx by_ bz
                by_cases h2 : z = x + 1
                · have HW := Lib.hid (HWT.out h2)
                  subst h2
                  rw [Int.natCast_add, Int.natCast_one] at cij
                  clear HWT HWD HWP hwy
                  go_wp2_with fail
                  go_quiet (fail)
                  replace HS : Hid ((World.drewN wr nq).ownsRow w5.heap.size 34 2 (.slice A2 L.length c2) L.length (edC L) ∧ Below w5.heap.size w5 (World.drewN wr nq)) := Lib.hid ⟨HS.out.1, below_drewN HS.out.2 nq⟩
                  try replace oi : (World.drewN wr nq).cell? ⟨ob, i, none⟩ = _ := oi
                  try replace om : (World.drewN wr nq).cell? ⟨ob, im, none⟩ = _ := om
                  try replace cij : (World.drewN wr nq).cell? ⟨G i, j, none⟩ = _ := cij
                  try replace cmm : (World.drewN wr nq).cell? ⟨G im, jm, none⟩ = _ := cmm
                  try replace cmj : (World.drewN wr nq).cell? ⟨G im, j, none⟩ = _ := cmj
                  try replace ca0 : (World.drewN wr nq).cell? (ap.add im) = _ := ca0
                  try replace cb0 : (World.drewN wr nq).cell? (aq.add jm) = _ := cb0
                  generalize World.drewN wr nq = w6 at *
                  go_wp2_with fail
                  go_quiet (fail)
                  replace HS : Hid ((World.drewN w6 nq).ownsRow w5.heap.size 34 2 (.slice A2 L.length c2) L.length (edC L) ∧ Below w5.heap.size w5 (World.drewN w6 nq)) := Lib.hid ⟨HS.out.1, below_drewN HS.out.2 nq⟩
                  try replace oi : (World.drewN w6 nq).cell? ⟨ob, i, none⟩ = _ := oi
                  try replace om : (World.drewN w6 nq).cell? ⟨ob, im, none⟩ = _ := om
                  try replace cij : (World.drewN w6 nq).cell? ⟨G i, j, none⟩ = _ := cij
                  try replace cmm : (World.drewN w6 nq).cell? ⟨G im, jm, none⟩ = _ := cmm
                  try replace cmj : (World.drewN w6 nq).cell? ⟨G im, j, none⟩ = _ := cmj
                  try replace ca0 : (World.drewN w6 nq).cell? (ap.add im) = _ := ca0
                  try replace cb0 : (World.drewN w6 nq).cell? (aq.add jm) = _ := cb0
                  generalize World.drewN w6 nq = w7 at *
                  clear oi om cij cmm cmj ca0 hwx
                  have hsz := HS.out.2.size
                  have hown0 := Lib.hid HS.out.1
                  have hold0 := Lib.hid HS.out.2
                  go_wp2_with (at_builtin; refine wpList_append_own _ rfl _ _ 22 rfl w5.heap.size 34 i0 _ 2 24 Try.underlying22 hi0 hz0 hz1 hz2 rfl (by decide) _ _ _ rfl (hown0.out.alloc _) ⟨w7.heap.size, 0, none⟩ 1 1 [.int .i64 2, .string sq] rfl rfl (cells_new _ [_, _] _) (one2 _ _) (by unfold maxLen; omega) (by omega) (by simp; omega) ?_)
                  intro v' w9 hown9 hg9 _
                  have HS9 : Hid (w9.ownsRow w5.heap.size 34 2 v' (L ++ [(2, sq)]).length (edC (L ++ [(2, sq)])) ∧ Below w5.heap.size w5 w9) := Lib.hid ⟨by rw [edC_snoc, List.length_append]; exact hown9, (hold0.out.alloc hsz _).grown hg9 (by simp; omega) (fun k hk => own_ge hown0.out k hk)⟩
                  have HL9 := Lib.hid (app_step HL.out HW.out)
                  clear hown9 hg9 hown0 hold0 HS HL
                  go_wp2
                  go_roundw
                  case rel => exact ⟨_, im, jm, by omega, by omega, by go_num, by go_num, HL9, HS9⟩
                  case measure => simp [intOf]; omega
                · have hz : ((z : Int) == (x : Int) + 1) = false := by simp; omega
                  by_cases h3 : z = y + 1
                  · have HW := Lib.hid (HWD.out h2 h3)
                    subst h3
                    rw [Int.natCast_add, Int.natCast_one] at cij
                    rw [Int.natCast_add, Int.natCast_one] at hz
                    clear HWT HWD HWP h2
                    go_wp2_with fail
                    go_quiet (fail)
                    replace HS : Hid ((World.drewN wr nq).ownsRow w5.heap.size 34 2 (.slice A2 L.length c2) L.length (edC L) ∧ Below w5.heap.size w5 (World.drewN wr nq)) := Lib.hid ⟨HS.out.1, below_drewN HS.out.2 nq⟩
                    try replace oi : (World.drewN wr nq).cell? ⟨ob, i, none⟩ = _ := oi
                    try replace om : (World.drewN wr nq).cell? ⟨ob, im, none⟩ = _ := om
                    try replace cij : (World.drewN wr nq).cell? ⟨G i, j, none⟩ = _ := cij
                    try replace cmm : (World.drewN wr nq).cell? ⟨G im, jm, none⟩ = _ := cmm
                    try replace cmj : (World.drewN wr nq).cell? ⟨G im, j, none⟩ = _ := cmj
                    try replace ca0 : (World.drewN wr nq).cell? (ap.add im) = _ := ca0
                    try replace cb0 : (World.drewN wr nq).cell? (aq.add jm) = _ := cb0
                    generalize World.drewN wr nq = w6 at *
                    go_wp2_with fail
                    go_quiet (fail)
                    replace HS : Hid ((World.drewN w6 nq).ownsRow w5.heap.size 34 2 (.slice A2 L.length c2) L.length (edC L) ∧ Below w5.heap.size w5 (World.drewN w6 nq)) := Lib.hid ⟨HS.out.1, below_drewN HS.out.2 nq⟩
                    try replace oi : (World.drewN w6 nq).cell? ⟨ob, i, none⟩ = _ := oi
                    try replace om : (World.drewN w6 nq).cell? ⟨ob, im, none⟩ = _ := om
                    try replace cij : (World.drewN w6 nq).cell? ⟨G i, j, none⟩ = _ := cij
                    try replace cmm : (World.drewN w6 nq).cell? ⟨G im, jm, none⟩ = _ := cmm
                    try replace cmj : (World.drewN w6 nq).cell? ⟨G im, j, none⟩ = _ := cmj
                    try replace ca0 : (World.drewN w6 nq).cell? (ap.add im) = _ := ca0
                    try replace cb0 : (World.drewN w6 nq).cell? (aq.add jm) = _ := cb0
                    generalize World.drewN w6 nq = w7 at *
                    go_wp2_with fail
                    go_quiet (fail)
                    replace HS : Hid ((World.drewN w7 nq).ownsRow w5.heap.size 34 2 (.slice A2 L.length c2) L.length (edC L) ∧ Below w5.heap.size w5 (World.drewN w7 nq)) := Lib.hid ⟨HS.out.1, below_drewN HS.out.2 nq⟩
                    try replace oi : (World.drewN w7 nq).cell? ⟨ob, i, none⟩ = _ := oi
                    try replace om : (World.drewN w7 nq).cell? ⟨ob, im, none⟩ = _ := om
                    try replace cij : (World.drewN w7 nq).cell? ⟨G i, j, none⟩ = _ := cij
                    try replace cmm : (World.drewN w7 nq).cell? ⟨G im, jm, none⟩ = _ := cmm
                    try replace cmj : (World.drewN w7 nq).cell? ⟨G im, j, none⟩ = _ := cmj
                    try replace ca0 : (World.drewN w7 nq).cell? (ap.add im) = _ := ca0
                    try replace cb0 : (World.drewN w7 nq).cell? (aq.add jm) = _ := cb0
                    generalize World.drewN w7 nq = w8 at *
                    clear oi om cij cmm cmj ca0 cb0 hwx hwy hz
                    have hsz := HS.out.2.size
                    have hown0 := Lib.hid HS.out.1
                    have hold0 := Lib.hid HS.out.2
                    go_wp2_with (at_builtin; refine wpList_append_own _ rfl _ _ 22 rfl w5.heap.size 34 i0 _ 2 24 Try.underlying22 hi0 hz0 hz1 hz2 rfl (by decide) _ _ _ rfl (hown0.out.alloc _) ⟨w8.heap.size, 0, none⟩ 1 1 [.int .i64 3, .string (⟨#[]⟩ : ByteArray)] rfl rfl (cells_new _ [_, _] _) (one2 _ _) (by unfold maxLen; omega) (by omega) (by simp; omega) ?_)
                    intro v' w9 hown9 hg9 _
                    have HS9 : Hid (w9.ownsRow w5.heap.size 34 2 v' (L ++ [(3, (⟨#[]⟩ : ByteArray))]).length (edC (L ++ [(3, (⟨#[]⟩ : ByteArray))])) ∧ Below w5.heap.size w5 w9) := Lib.hid ⟨by rw [edC_snoc, List.length_append]; exact hown9, (hold0.out.alloc hsz _).grown hg9 (by simp; omega) (fun k hk => own_ge hown0.out k hk)⟩
                    have HL9 := Lib.hid (app_step HL.out HW.out)
                    clear hown9 hg9 hown0 hold0 HS HL
                    go_wp2
                    go_roundw
                    case rel => exact ⟨_, im, j, by omega, by omega, by go_num, rfl, HL9, HS9⟩
                    case measure => simp [intOf]; omega
                  · have hz2 : ((z : Int) == (y : Int) + 1) = false := by simp; omega
                    have HW := Lib.hid (HWP.out h2 h3)
                    clear HWT HWD HWP h2 h3
                    go_wp2_with fail
                    go_quiet (fail)
                    replace HS : Hid ((World.drewN wr nq).ownsRow w5.heap.size 34 2 (.slice A2 L.length c2) L.length (edC L) ∧ Below w5.heap.size w5 (World.drewN wr nq)) := Lib.hid ⟨HS.out.1, below_drewN HS.out.2 nq⟩
                    try replace oi : (World.drewN wr nq).cell? ⟨ob, i, none⟩ = _ := oi
                    try replace om : (World.drewN wr nq).cell? ⟨ob, im, none⟩ = _ := om
                    try replace cij : (World.drewN wr nq).cell? ⟨G i, j, none⟩ = _ := cij
                    try replace cmm : (World.drewN wr nq).cell? ⟨G im, jm, none⟩ = _ := cmm
                    try replace cmj : (World.drewN wr nq).cell? ⟨G im, j, none⟩ = _ := cmj
                    try replace ca0 : (World.drewN wr nq).cell? (ap.add im) = _ := ca0
                    try replace cb0 : (World.drewN wr nq).cell? (aq.add jm) = _ := cb0
                    generalize World.drewN wr nq = w6 at *
                    go_wp2_with fail
                    go_quiet (fail)
                    replace HS : Hid ((World.drewN w6 nq).ownsRow w5.heap.size 34 2 (.slice A2 L.length c2) L.length (edC L) ∧ Below w5.heap.size w5 (World.drewN w6 nq)) := Lib.hid ⟨HS.out.1, below_drewN HS.out.2 nq⟩
                    try replace oi : (World.drewN w6 nq).cell? ⟨ob, i, none⟩ = _ := oi
                    try replace om : (World.drewN w6 nq).cell? ⟨ob, im, none⟩ = _ := om
                    try replace cij : (World.drewN w6 nq).cell? ⟨G i, j, none⟩ = _ := cij
                    try replace cmm : (World.drewN w6 nq).cell? ⟨G im, jm, none⟩ = _ := cmm
                    try replace cmj : (World.drewN w6 nq).cell? ⟨G im, j, none⟩ = _ := cmj
                    try replace ca0 : (World.drewN w6 nq).cell? (ap.add im) = _ := ca0
                    try replace cb0 : (World.drewN w6 nq).cell? (aq.add jm) = _ := cb0
                    generalize World.drewN w6 nq = w7 at *
                    go_wp2_with fail
                    go_quiet (fail)
                    replace HS : Hid ((World.drewN w7 nq).ownsRow w5.heap.size 34 2 (.slice A2 L.length c2) L.length (edC L) ∧ Below w5.heap.size w5 (World.drewN w7 nq)) := Lib.hid ⟨HS.out.1, below_drewN HS.out.2 nq⟩
                    try replace oi : (World.drewN w7 nq).cell? ⟨ob, i, none⟩ = _ := oi
                    try replace om : (World.drewN w7 nq).cell? ⟨ob, im, none⟩ = _ := om
                    try replace cij : (World.drewN w7 nq).cell? ⟨G i, j, none⟩ = _ := cij
                    try replace cmm : (World.drewN w7 nq).cell? ⟨G im, jm, none⟩ = _ := cmm
                    try replace cmj : (World.drewN w7 nq).cell? ⟨G im, j, none⟩ = _ := cmj
                    try replace ca0 : (World.drewN w7 nq).cell? (ap.add im) = _ := ca0
                    try replace cb0 : (World.drewN w7 nq).cell? (aq.add jm) = _ := cb0
                    generalize World.drewN w7 nq = w8 at *
                    clear oi om cij cmm cmj ca0 hwx hwy hz hz2
                    have hsz := HS.out.2.size
                    have hown0 := Lib.hid HS.out.1
                    have hold0 := Lib.hid HS.out.2
                    go_wp2_with (at_builtin; refine wpList_append_own _ rfl _ _ 22 rfl w5.heap.size 34 i0 _ 2 24 Try.underlying22 hi0 hz0 hz1 hz2 rfl (by decide) _ _ _ rfl (hown0.out.alloc _) ⟨w8.heap.size, 0, none⟩ 1 1 [.int .i64 4, .string sq] rfl rfl (cells_new _ [_, _] _) (one2 _ _) (by unfold maxLen; omega) (by omega) (by simp; omega) ?_)
                    intro v' w9 hown9 hg9 _
                    have HS9 : Hid (w9.ownsRow w5.heap.size 34 2 v' (L ++ [(4, sq)]).length (edC (L ++ [(4, sq)])) ∧ Below w5.heap.size w5 w9) := Lib.hid ⟨by rw [edC_snoc, List.length_append]; exact hown9, (hold0.out.alloc hsz _).grown hg9 (by simp; omega) (fun k hk => own_ge hown0.out k hk)⟩
                    have HL9 := Lib.hid (app_step HL.out HW.out)
                    clear hown9 hg9 hown0 hold0 HS HL
                    go_wp2
                    go_roundw
                    case rel => exact ⟨_, i, jm, by omega, by omega, rfl, by go_num, HL9, HS9⟩
                    case measure => simp [intOf]; omega
            · have ej : j = 0 := by omega
              have hgj : decide ((0 : Int) < (j : Int)) = false := by simp; omega
              have hT := way_l p q im
              rw [him, ← ej] at hT
              have HW := Lib.hid hT
              have hd1 : dpI p q i j = im + 1 := by rw [ej, dpI_left]; omega
              have hd2 : dpI p q im j = im := by rw [ej, dpI_left]
              clear hT ej
              obtain ⟨ho, hc⟩ := HC.out wr HS.out.2
              have oi := ho i hi
              have om := ho im (by omega)
              have cij := hc i j hi hj
              have cmj := hc im j (by omega) hj
              clear ho hc
              rw [hd1, Int.natCast_add, Int.natCast_one] at cij
              rw [hd2] at cmj
              clear hd1 hd2
              go_wp2_with fail
              go_quiet (fail)
              replace HS : Hid ((World.drewN wr nq).ownsRow w5.heap.size 34 2 (.slice A2 L.length c2) L.length (edC L) ∧ Below w5.heap.size w5 (World.drewN wr nq)) := Lib.hid ⟨HS.out.1, below_drewN HS.out.2 nq⟩
              try replace oi : (World.drewN wr nq).cell? ⟨ob, i, none⟩ = _ := oi
              try replace om : (World.drewN wr nq).cell? ⟨ob, im, none⟩ = _ := om
              try replace cij : (World.drewN wr nq).cell? ⟨G i, j, none⟩ = _ := cij
              try replace cmm : (World.drewN wr nq).cell? ⟨G im, jm, none⟩ = _ := cmm
              try replace cmj : (World.drewN wr nq).cell? ⟨G im, j, none⟩ = _ := cmj
              try replace ca0 : (World.drewN wr nq).cell? (ap.add im) = _ := ca0
              try replace cb0 : (World.drewN wr nq).cell? (aq.add jm) = _ := cb0
              generalize World.drewN wr nq = w6 at *
              go_wp2_with fail
              go_quiet (fail)
              replace HS : Hid ((World.drewN w6 nq).ownsRow w5.heap.size 34 2 (.slice A2 L.length c2) L.length (edC L) ∧ Below w5.heap.size w5 (World.drewN w6 nq)) := Lib.hid ⟨HS.out.1, below_drewN HS.out.2 nq⟩
              try replace oi : (World.drewN w6 nq).cell? ⟨ob, i, none⟩ = _ := oi
              try replace om : (World.drewN w6 nq).cell? ⟨ob, im, none⟩ = _ := om
              try replace cij : (World.drewN w6 nq).cell? ⟨G i, j, none⟩ = _ := cij
              try replace cmm : (World.drewN w6 nq).cell? ⟨G im, jm, none⟩ = _ := cmm
              try replace cmj : (World.drewN w6 nq).cell? ⟨G im, j, none⟩ = _ := cmj
              try replace ca0 : (World.drewN w6 nq).cell? (ap.add im) = _ := ca0
              try replace cb0 : (World.drewN w6 nq).cell? (aq.add jm) = _ := cb0
              generalize World.drewN w6 nq = w7 at *
              go_wp2_with fail
              go_quiet (fail)
              replace HS : Hid ((World.drewN w7 nq).ownsRow w5.heap.size 34 2 (.slice A2 L.length c2) L.length (edC L) ∧ Below w5.heap.size w5 (World.drewN w7 nq)) := Lib.hid ⟨HS.out.1, below_drewN HS.out.2 nq⟩
              try replace oi : (World.drewN w7 nq).cell? ⟨ob, i, none⟩ = _ := oi
              try replace om : (World.drewN w7 nq).cell? ⟨ob, im, none⟩ = _ := om
              try replace cij : (World.drewN w7 nq).cell? ⟨G i, j, none⟩ = _ := cij
              try replace cmm : (World.drewN w7 nq).cell? ⟨G im, jm, none⟩ = _ := cmm
              try replace cmj : (World.drewN w7 nq).cell? ⟨G im, j, none⟩ = _ := cmj
              try replace ca0 : (World.drewN w7 nq).cell? (ap.add im) = _ := ca0
              try replace cb0 : (World.drewN w7 nq).cell? (aq.add jm) = _ := cb0
              generalize World.drewN w7 nq = w8 at *
              clear oi om cij cmj
              have hsz := HS.out.2.size
              have hown0 := Lib.hid HS.out.1
              have hold0 := Lib.hid HS.out.2
              go_wp2_with (at_builtin; refine wpList_append_own _ rfl _ _ 22 rfl w5.heap.size 34 i0 _ 2 24 Try.underlying22 hi0 hz0 hz1 hz2 rfl (by decide) _ _ _ rfl (hown0.out.alloc _) ⟨w8.heap.size, 0, none⟩ 1 1 [.int .i64 3, .string (⟨#[]⟩ : ByteArray)] rfl rfl (cells_new _ [_, _] _) (one2 _ _) (by unfold maxLen; omega) (by omega) (by simp; omega) ?_)
              intro v' w9 hown9 hg9 _
              have HS9 : Hid (w9.ownsRow w5.heap.size 34 2 v' (L ++ [(3, (⟨#[]⟩ : ByteArray))]).length (edC (L ++ [(3, (⟨#[]⟩ : ByteArray))])) ∧ Below w5.heap.size w5 w9) := Lib.hid ⟨by rw [edC_snoc, List.length_append]; exact hown9, (hold0.out.alloc hsz _).grown hg9 (by simp; omega) (fun k hk => own_ge hown0.out k hk)⟩
              have HL9 := Lib.hid (app_step HL.out HW.out)
              clear hown9 hg9 hown0 hold0 HS HL
              go_wp2
              go_roundw
              case rel => exact ⟨_, im, j, by omega, by omega, by go_num, rfl, HL9, HS9⟩
              case measure => simp [intOf]; omega
          · have ei : i = 0 := by omega
            have hgi : decide ((0 : Int) < (i : Int)) = false := by simp; omega
            obtain ⟨jm, hjm⟩ : ∃ jm, jm + 1 = j := ⟨j - 1, by omega⟩
            have ejm : (j : Int) - 1 = (jm : Int) := by omega
            have hwjm : IntKind.i64.wrap (jm : Int) = (jm : Int) := by rw [IntKind.wrap_i64]; omega
            have hjb2 : (jm : Int) < (q.length : Int) := by omega
            have hT := way_r p q jm
            rw [hjm, ← ei] at hT
            obtain ⟨aq, rfl, _, _, cb0⟩ := str_at (HQ5.out.below (fun b h => h) HS.out.2) (k := jm) (by omega)
            have hqe : q[jm]? = some (q[jm]'(by omega)) := List.getElem?_eq_getElem (by omega)
            have hqd : q.getD jm none_ = q[jm]'(by omega) := by rw [List.getD_eq_getElem?_getD, hqe]; rfl
            rw [hqd] at hT
            have HW := Lib.hid hT
            clear hT ei hqe hqd
            generalize q[jm]'(by omega) = sq at *
            go_wp2_with fail
            go_quiet (fail)
            replace HS : Hid ((World.drewN wr nq).ownsRow w5.heap.size 34 2 (.slice A2 L.length c2) L.length (edC L) ∧ Below w5.heap.size w5 (World.drewN wr nq)) := Lib.hid ⟨HS.out.1, below_drewN HS.out.2 nq⟩
            try replace oi : (World.drewN wr nq).cell? ⟨ob, i, none⟩ = _ := oi
            try replace om : (World.drewN wr nq).cell? ⟨ob, im, none⟩ = _ := om
            try replace cij : (World.drewN wr nq).cell? ⟨G i, j, none⟩ = _ := cij
            try replace cmm : (World.drewN wr nq).cell? ⟨G im, jm, none⟩ = _ := cmm
            try replace cmj : (World.drewN wr nq).cell? ⟨G im, j, none⟩ = _ := cmj
            try replace ca0 : (World.drewN wr nq).cell? (ap.add im) = _ := ca0
            try replace cb0 : (World.drewN wr nq).cell? (aq.add jm) = _ := cb0
            generalize World.drewN wr nq = w6 at *
            go_wp2_with fail
            go_quiet (fail)
            replace HS : Hid ((World.drewN w6 nq).ownsRow w5.heap.size 34 2 (.slice A2 L.length c2) L.length (edC L) ∧ Below w5.heap.size w5 (World.drewN w6 nq)) := Lib.hid ⟨HS.out.1, below_drewN HS.out.2 nq⟩
            try replace oi : (World.drewN w6 nq).cell? ⟨ob, i, none⟩ = _ := oi
            try replace om : (World.drewN w6 nq).cell? ⟨ob, im, none⟩ = _ := om
            try replace cij : (World.drewN w6 nq).cell? ⟨G i, j, none⟩ = _ := cij
            try replace cmm : (World.drewN w6 nq).cell? ⟨G im, jm, none⟩ = _ := cmm
            try replace cmj : (World.drewN w6 nq).cell? ⟨G im, j, none⟩ = _ := cmj
            try replace ca0 : (World.drewN w6 nq).cell? (ap.add im) = _ := ca0
            try replace cb0 : (World.drewN w6 nq).cell? (aq.add jm) = _ := cb0
            generalize World.drewN w6 nq = w7 at *
            go_wp2_with fail
            go_quiet (fail)
            replace HS : Hid ((World.drewN w7 nq).ownsRow w5.heap.size 34 2 (.slice A2 L.length c2) L.length (edC L) ∧ Below w5.heap.size w5 (World.drewN w7 nq)) := Lib.hid ⟨HS.out.1, below_drewN HS.out.2 nq⟩
            try replace oi : (World.drewN w7 nq).cell? ⟨ob, i, none⟩ = _ := oi
            try replace om : (World.drewN w7 nq).cell? ⟨ob, im, none⟩ = _ := om
            try replace cij : (World.drewN w7 nq).cell? ⟨G i, j, none⟩ = _ := cij
            try replace cmm : (World.drewN w7 nq).cell? ⟨G im, jm, none⟩ = _ := cmm
            try replace cmj : (World.drewN w7 nq).cell? ⟨G im, j, none⟩ = _ := cmj
            try replace ca0 : (World.drewN w7 nq).cell? (ap.add im) = _ := ca0
            try replace cb0 : (World.drewN w7 nq).cell? (aq.add jm) = _ := cb0
            generalize World.drewN w7 nq = w8 at *
            have hsz := HS.out.2.size
            have hown0 := Lib.hid HS.out.1
            have hold0 := Lib.hid HS.out.2
            go_wp2_with (at_builtin; refine wpList_append_own _ rfl _ _ 22 rfl w5.heap.size 34 i0 _ 2 24 Try.underlying22 hi0 hz0 hz1 hz2 rfl (by decide) _ _ _ rfl (hown0.out.alloc _) ⟨w8.heap.size, 0, none⟩ 1 1 [.int .i64 4, .string sq] rfl rfl (cells_new _ [_, _] _) (one2 _ _) (by unfold maxLen; omega) (by omega) (by simp; omega) ?_)
            intro v' w9 hown9 hg9 _
            have HS9 : Hid (w9.ownsRow w5.heap.size 34 2 v' (L ++ [(4, sq)]).length (edC (L ++ [(4, sq)])) ∧ Below w5.heap.size w5 w9) := Lib.hid ⟨by rw [edC_snoc, List.length_append]; exact hown9, (hold0.out.alloc hsz _).grown hg9 (by simp; omega) (fun k hk => own_ge hown0.out k hk)⟩
            have HL9 := Lib.hid (app_step HL.out HW.out)
            clear hown9 hg9 hown0 hold0 HS HL
            go_wp2
            go_roundw
            case rel => exact ⟨_, i, jm, by omega, by omega, rfl, by go_num, HL9, HS9⟩
            case measure => simp [intOf]; omega
end Go.Proofs.Ytdepkpnicfcbiaa
