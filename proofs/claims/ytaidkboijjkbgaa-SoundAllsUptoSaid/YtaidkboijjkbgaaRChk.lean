/- The walk of R.CheckChange. -/
import Derived.Test.YtaidkboijjkbgaaChk
import Derived.Deep.RegionHeld3
import Derived.Deep.DeepCutAuto
namespace Go.Proofs.Ytaidkboijjkbgaa
open Go.RowKit

theorem own_empty (w : World) (t : TypeId) (size : Nat) : (w.alloc (.cells #[] t)).ownsRow w.heap.size t size (.slice (some ⟨w.heap.size, 0, none⟩) 0 0) 0 [] :=
  ⟨by simp, .inr ⟨w.heap.size, 0, #[], rfl, Nat.le_refl _, Blk.new w t #[], by omega, by simp [maxLen], by simp, by simp⟩⟩

set_option maxRecDepth 100000 in
set_option maxHeartbeats 4000000 in
theorem rCheck_any (S : Nat → Prop) (ks : Int) (f t : List Int) (l r : List (List Int × Bool)) (Af At Al Ar : Option Addr) (cf ct cl cr : Nat) (w : World) (hf : Sl rInt w S Af cf f) (ht : Sl rInt w S At ct t) (hl : Sl rSpot w S Al cl l) (hr : Sl rSpot w S Ar cr r)
    (hS : ∀ b, S b → b < w.heap.size) (hn : l.length + r.length ≤ 4294967296) :
    Calls Try.prog 11 #[.agg #[.int .i64 ks, .slice Af f.length cf, .slice At t.length ct, .slice Al l.length cl, .slice Ar r.length cr]] w fun e w' => e = .returned (.int .i64 (checkC ks f t l r)) ∧ Below w.heap.size w w' := by
  by_cases hk : ks < 1 ∨ 4 < ks
  · have HQ : Hid (checkC ks f t l r = 7) := Lib.hid (by unfold checkC; rw [if_pos hk])
    clear hf ht hl hr
    rcases hk with hk | hk
    · go_enter Try.func11, Try.ntmps11
      go_wp2
      go_ret
      exact ⟨by rw [HQ.out]; rfl, (Below.refl _ _).alloc (Nat.le_refl _) _⟩
    · have hk1 : ¬ ks < 1 := by omega
      go_enter Try.func11, Try.ntmps11
      go_wp2
      go_ret
      exact ⟨by rw [HQ.out]; rfl, (Below.refl _ _).alloc (Nat.le_refl _) _⟩
  · have hk1 : 1 ≤ ks := by omega
    have hk2 : ks ≤ 4 := by omega
    have HQ : Hid (checkC ks f t l r = if (lensB f t l r || (l ++ r).any bigS) = true then 2 else if ((l ++ r).any (farS ks) || f.any (outB ks) || t.any (outB ks)) = true then 3 else if formB l = true then 1 else 0) := Lib.hid (by unfold checkC; rw [if_neg hk])
    clear hk
    obtain ⟨i0, hi, hz0, hz1, hz2⟩ := info_parts infoSp
    have bf := hf.le; have bf' := hf.max; have bt := ht.le; have bt' := ht.max; have bl := hl.le; have bl' := hl.max; have br := hr.le; have br' := hr.max
    unfold maxLen at bf' bt' bl' br'
    obtain ⟨csl, hel, hrl⟩ := hl.reads (B := w.heap.size) hS
    obtain ⟨csr, her, hrr⟩ := hr.reads (B := w.heap.size) hS
    have HS0 := Lib.hid hS
    have HF := Lib.hid hf; have HT := Lib.hid ht; have HL := Lib.hid hl; have HEL := Lib.hid hel; have HER := Lib.hid her; have HRL := Lib.hid hrl; have HRR := Lib.hid hrr
    clear hf ht hl hr hS hel her hrl hrr
    go_enter Try.func11, Try.ntmps11
    go_wp2
    go_region_held3 (fun w' => w'.cell? ⟨w.heap.size, 3, none⟩ = some (.slice Al l.length cl) ∧ w'.cell? ⟨w.heap.size, 4, none⟩ = some (.slice Ar r.length cr))
      (first
        | go_keep
        | (rw [hb2.cell (by simp), hb2.cell (by simp)]; assumption)
        | (rw [hg1.cell_far _ (by simp; try omega) (by simp [Value.ownBlock]; try omega), hg1.cell_far _ (by simp; try omega) (by simp [Value.ownBlock]; try omega)]; go_keep))
      (first
        | ((refine step_append_any _ (by rfl) (.tmp 15) (.tmp 17) 23 (by rfl) (w.heap.size + 1) 60 i0 _ 2 32 Try.underlying23 hi hz0 hz1 hz2 rfl (by omega) (.slice (some ⟨w.heap.size + 1, 0, none⟩) 0 0) 0 [] (by rfl) (by have := own_empty (w.alloc (.cells #[.int .i64 ks, .slice Af f.length cf, .slice At t.length ct, .slice Al l.length cl, .slice Ar r.length cr] 25)) 60 2; simp only [World.size_alloc] at this; exact this) w.heap.size Al l.length cl csl (by rfl) (by exact ((HRL.out.alloc (Nat.le_refl _) _).alloc (by simp) _).drew) HEL.out.2.1 (by unfold maxLen; omega) (by omega) (by simp) ?_; intro v1 w1 hown1 hg1 hat1; have hb1 : Below w.heap.size w w1 := (((Below.refl _ _).alloc (Nat.le_refl _) _).alloc (by simp) _).drew.grown hg1 (by simp; try omega) (by simp [Value.ownBlock]; try omega)))
        | ((refine step_append_any _ (by rfl) (.tmp 18) (.tmp 20) 23 (by rfl) (w.heap.size + 1) 60 i0 _ 2 32 Try.underlying23 hi hz0 hz1 hz2 rfl (by omega) v1 (0 + l.length) ([] ++ csl) (by rfl) (by exact hown1) w.heap.size Ar r.length cr csr (by rfl) (by exact HRR.out.below hb1) HER.out.2.1 (by unfold maxLen; omega) (by omega) (by have h := hg1.size; simp at h; omega) ?_; intro v2 w2 hown2 hg2 hat2; have hb2 : Below (w.heap.size + 1) w1 w2 := (Below.refl _ _).grown hg2 (by have h := hg1.size; simp at h; omega) (own_ge hown1))))
    have hb0 : Below (w.heap.size + 1) (w.alloc (.cells #[.int .i64 ks, .slice Af f.length cf, .slice At t.length ct, .slice Al l.length cl, .slice Ar r.length cr] 25)) w2 :=
      (((Below.refl _ _).alloc (by simp) _).drew.grown hg1 (by simp; try omega) (by simp [Value.ownBlock]; try omega)).trans (hb2.mono (by simp))
    have hX2 : Below w.heap.size w w2 := ((Below.refl _ _).alloc (Nat.le_refl _) _).trans (hb0.mono (by omega))
    have hB := (Blk.new w 25 #[.int .i64 ks, .slice Af f.length cf, .slice At t.length ct, .slice Al l.length cl, .slice Ar r.length cr]).below hb0 (by omega)
    have hss : ∃ Asp csp, v2 = .slice Asp (l ++ r).length csp ∧ Sl rSpot w2 (fun b => b < w2.heap.size) Asp csp (l ++ r) := by
      have e : 0 + l.length + r.length = (l ++ r).length := by rw [List.length_append]; omega
      rw [e] at hown2
      have hlt := own_lt hown2
      obtain ⟨Asp, csp, rfl⟩ := own_slice hown2
      exact ⟨Asp, csp, rfl, Sl.of_own (ρ := rSpot) hown2 (((HEL.out.below_ HS0.out hX2).app (HER.out.below_ HS0.out hX2)).more fun b hb => Nat.lt_of_lt_of_le (HS0.out b hb) hX2.size) hlt⟩
    obtain ⟨Asp, csp, rfl, hss⟩ := hss
    have bs := hss.le
    have bs' := hss.max
    unfold maxLen at bs'
    have hF := Lib.hid (HF.out.below HS0.out hX2)
    have hT := Lib.hid (HT.out.below HS0.out hX2)
    have hL := Lib.hid (HL.out.below HS0.out hX2)
    obtain ⟨e0, e1, e2, e3, e4⟩ := blk5 hB
    have HSS := Lib.hid hss
    have HX2 := Lib.hid hX2
    have hlf : formB l = true ↔ ∃ h : 1 < l.length, l.length = 2 ∧ (l[1]'h).2 = true := by
      unfold formB
      match l with
      | [] => simp
      | [_] => simp
      | [_, _] => simp
      | _ :: _ :: _ :: _ => simp
    have HLF := Lib.hid hlf
    clear hown1 hg1 hat1 hb1 hown2 hg2 hat2 hb2 hb0 hX2 hB hss HF HT HL HEL HER HRL HRR HS0 hlf
    generalize l ++ r = ss at *
    go_upto_region 4 with fail
    go_cut [4] (fun s wx => s = .bool (lensB f t l r) ∧ w2 = wx)
    case first =>
      cases hz : ((f.length : Int) == 0)
      all_goals
        have z1 : ((f.length : Int) < 1 ↔ ((f.length : Int) == 0) = true) := by rw [beq_iff_eq]; omega
        rw [hz] at z1
        have Z := Lib.hid z1
        clear z1
        go_wp2_with fail
        all_goals
          go_meet
          refine ⟨congrArg Value.bool ?_, rfl⟩
          have z1 := Z.out
          simp only [Bool.false_eq_true, iff_true, iff_false] at z1
          unfold lensB
          rw [Bool.eq_iff_iff]
          simp only [Bool.or_eq_true, decide_eq_true_eq, Bool.false_eq_true, hz, true_iff, false_or, true_or]
          omega
    case rest =>
      obtain ⟨rfl, rfl⟩ := hcut
      go_upto_region 5 with fail
      go_cut [5] (fun s wx => s = .bool (f.any (outB ks) || t.any (outB ks)) ∧ w2 = wx)
      case first =>
        go_wp2_with fail
        refine (within_any S Af cf f ks _ hF.out).mono ?_
        rintro e w' ⟨rfl, rfl⟩
        cases hfq : f.any (outB ks)
        all_goals
          have HFQ := Lib.hid hfq
          clear hfq
        · go_wp2_with fail
          refine (within_any S At ct t ks _ hT.out).mono ?_
          rintro e w' ⟨rfl, rfl⟩
          go_wp2_with fail
          go_meet
          exact ⟨congrArg Value.bool (by rw [HFQ.out]; cases t.any (outB ks) <;> rfl), rfl⟩
        · go_wp2_with fail
          go_meet
          exact ⟨congrArg Value.bool (by rw [HFQ.out]; rfl), rfl⟩
      case rest =>
        obtain ⟨rfl, rfl⟩ := hcut
        generalize hb0 : lensB f t l r = b0 at *
        generalize hc0 : (f.any (outB ks) || t.any (outB ks)) = c0 at *
        have HV : Hid (checkC ks f t l r = if (b0 || ss.any bigS) = true then 2 else if (c0 || ss.any (farS ks)) = true then 3 else if formB l = true then 1 else 0) := Lib.hid (by
          rw [HQ.out]
          have : (ss.any (farS ks) || f.any (outB ks) || t.any (outB ks)) = (c0 || ss.any (farS ks)) := by rw [← hc0]; cases ss.any (farS ks) <;> simp
          rw [this])
        clear hb0 hc0 HQ
        go_wp2
        go_loopw [4, 5, 6] (fun a b i wr => ∃ k n : Nat, k ≤ ss.length ∧ i = .int .i64 (k : Int) ∧ a = .bool (b0 || (ss.take k).any bigS) ∧ b = .bool (c0 || (ss.take k).any (farS ks)) ∧ wr = w2.drewN n) (fun _ _ i _ => ss.length - (intOf i).toNat)
        case atStart => exact ⟨0, 0, by omega, rfl, by simp, by simp, rfl⟩
        case round =>
          obtain ⟨k, n, hk, rfl, rfl, rfl, rfl⟩ := hrel
          by_cases hlt : k < ss.length
          · obtain ⟨ad, A1, c1, hA, _, hsl, hc0, hc1⟩ := spot_at HSS.out hlt
            subst hA
            have HY := Lib.hid (any_take_succ bigS ss k hlt)
            have HH := Lib.hid (any_take_succ (farS ks) ss k hlt)
            generalize ss[k]'hlt = x at *
            generalize (ss.take k).any bigS = B at *
            generalize (ss.take k).any (farS ks) = C at *
            have HB : Hid ((b0 || (ss.take (k + 1)).any bigS) = ((b0 || B) || bigS x)) := Lib.hid (by rw [HY.out, Bool.or_assoc])
            have HC : Hid ((c0 || (ss.take (k + 1)).any (farS ks)) = ((c0 || C) || farS ks x)) := Lib.hid (by rw [HH.out, Bool.or_assoc])
            clear HY HH
            generalize (b0 || B) = B1 at *
            generalize (c0 || C) = C1 at *
            have b1 := hsl.le
            have b1' := hsl.max
            unfold maxLen at b1'
            have HBX : Hid (bigS x = decide (4 < (x.1.length : Int))) := Lib.hid rfl
            have HFX : Hid (farS ks x = x.1.any (outB ks)) := Lib.hid rfl
            have HSL := Lib.hid hsl
            clear hsl
            go_upto_region 9 with fail
            go_cut [4] (fun s wx => s = .bool (B1 || bigS x) ∧ w2.drewN n = wx)
            case first =>
              cases B1
              · go_wp2_with fail
                all_goals
                  go_meet
                  exact ⟨congrArg Value.bool (by rw [HBX.out]; rfl), rfl⟩
              · go_wp2_with fail
                go_meet
                exact ⟨congrArg Value.bool (by rfl), rfl⟩
            case rest =>
              obtain ⟨rfl, rfl⟩ := hcut
              cases hC1 : C1
              · subst hC1
                go_wp2
                go_quiet ((go_at_call 25; exact quiet_add_left (within_any (fun b => b < w2.heap.size) A1 c1 x.1 ks _ (by exact HSL.out))))
                go_wp2
                go_roundw
                case rel => exact ⟨k + 1, n + nq, by omega, by go_num, by rw [HB.out], by rw [HC.out, HFX.out]; simp, by simp⟩
                case measure => simp [intOf]; omega
              · subst hC1
                go_wp2
                go_quiet (fail)
                go_wp2
                go_roundw
                case rel => exact ⟨k + 1, n + nq, by omega, by go_num, by rw [HB.out], by rw [HC.out]; rfl, by simp⟩
                case measure => simp [intOf]; omega
          · have HE : Hid ((ss.take k).any bigS = ss.any bigS ∧ (ss.take k).any (farS ks) = ss.any (farS ks)) := Lib.hid (by rw [List.take_of_length_le (by omega)]; exact ⟨rfl, rfl⟩)
            rw [HE.out.1, HE.out.2]
            have HZ : Hid (Below w.heap.size w (w2.drewN n)) := Lib.hid (below_drewN HX2.out n)
            have HL2 : Hid (Sl rSpot (w2.drewN n) S Al cl l) := hL
            generalize (b0 || ss.any bigS) = B at *
            generalize (c0 || ss.any (farS ks)) = C at *
            cases B with
            | true =>
              have HW : Hid (checkC ks f t l r = 2) := Lib.hid (by rw [HV.out]; rfl)
              go_wp2
              go_ret
              exact ⟨by rw [HW.out]; rfl, HZ.out⟩
            | false =>
              cases C with
              | true =>
                have HW : Hid (checkC ks f t l r = 3) := Lib.hid (by rw [HV.out]; rfl)
                go_wp2
                go_ret
                exact ⟨by rw [HW.out]; rfl, HZ.out⟩
              | false =>
                have HV3 : Hid (checkC ks f t l r = if formB l = true then 1 else 0) := Lib.hid (by rw [HV.out]; rfl)
                by_cases h2 : l.length = 2
                · have h2' : ((l.length : Int) == 2) = true := by simp; omega
                  have h2'' : 1 < l.length := by omega
                  obtain ⟨ad, A1, c1, hA, _, _, _, hc1⟩ := spot_at HL2.out h2''
                  subst hA
                  replace hc1 : (w2.drewN n).cell? ⟨ad.block, ad.off + 2 + 1, none⟩ = some (.bool (l[1]'h2'').2) := hc1
                  have HLQ : Hid (formB l = (l[1]'h2'').2) := Lib.hid (by
                    have := HLF.out
                    cases hq : (l[1]'h2'').2 with
                    | true => exact this.2 ⟨h2'', h2, hq⟩
                    | false => simp only [Bool.eq_false_iff, ne_eq, this]; rintro ⟨h, _, h3⟩; rw [hq] at h3; simp at h3)
                  generalize l[1]'h2'' = x at *
                  clear h2
                  cases hq : x.2 with
                  | true =>
                    rw [hq] at hc1
                    have HW : Hid (checkC ks f t l r = 1) := Lib.hid (by rw [HV3.out, HLQ.out, hq]; rfl)
                    clear hq
                    go_wp2
                    go_ret
                    exact ⟨by rw [HW.out]; rfl, HZ.out⟩
                  | false =>
                    rw [hq] at hc1
                    have HW : Hid (checkC ks f t l r = 0) := Lib.hid (by rw [HV3.out, HLQ.out, hq]; rfl)
                    clear hq
                    go_wp2
                    go_ret
                    exact ⟨by rw [HW.out]; rfl, HZ.out⟩
                · have h2' : ((l.length : Int) == 2) = false := by simp; omega
                  have HW : Hid (checkC ks f t l r = 0) := Lib.hid (by
                    rw [HV3.out, if_neg]; rw [HLF.out]; rintro ⟨_, h, _⟩; exact h2 h)
                  clear h2
                  go_wp2
                  go_ret
                  exact ⟨by rw [HW.out]; rfl, HZ.out⟩
end Go.Proofs.Ytaidkboijjkbgaa
