/- The walk of sound.Check. -/
import Derived.Test.YtaidkboijjkbgaaChg
namespace Go.Proofs.Ytaidkboijjkbgaa
open Go.RowKit

def lensB (f t : List Int) (l r : List (List Int × Bool)) : Bool := decide ((f.length : Int) < 1) || decide (2 < (f.length : Int)) || decide (2 < (t.length : Int)) || decide (2 < (l.length : Int)) || decide (1 < (r.length : Int))
def farS (k : Int) (s : List Int × Bool) : Bool := s.1.any (outB k)
def formB (l : List (List Int × Bool)) : Bool := match l with
  | [_, s] => s.2
  | _ => false
def checkC (k : Int) (f t : List Int) (l r : List (List Int × Bool)) : Int :=
  if k < 1 ∨ 4 < k then 7 else if (lensB f t l r || (l ++ r).any bigS) = true then 2 else if ((l ++ r).any (farS k) || f.any (outB k) || t.any (outB k)) = true then 3 else if formB l = true then 1 else 0
theorem blk5 {w : World} {g t : Nat} {a b c d e : Value} (h : Blk w g t #[a, b, c, d, e]) : w.cell? ⟨g, 0, none⟩ = some a ∧ w.cell? ⟨g, 1, none⟩ = some b ∧ w.cell? ⟨g, 2, none⟩ = some c ∧ w.cell? ⟨g, 3, none⟩ = some d ∧ w.cell? ⟨g, 4, none⟩ = some e :=
  ⟨h.cell 0, h.cell 1, h.cell 2, h.cell 3, h.cell 4⟩
/-- two slices side by side in a block -/
theorem Sl.two {α : Type} {ρ : Rep α} {w : World} {S : Nat → Prop} {g t c1 c2 : Nat} {A1 A2 : Option Addr} {xs ys : List α} (h : Blk w g t #[.slice A1 xs.length c1, .slice A2 ys.length c2]) (hg : S g) (h1 : Sl ρ w S A1 c1 xs) (h2 : Sl ρ w S A2 c2 ys) : Sl (rList ρ) w S (some ⟨g, 0, none⟩) 2 [xs, ys] := by
  refine ⟨by simp, by simp [maxLen], fun i x hx => ?_⟩
  match i with
  | 0 =>
    simp at hx; subst hx
    exact ⟨_, _, rfl, hg, ⟨A1, c1, rfl, h1⟩, fun j z hz => by
      have : j = 0 := by have := (List.getElem?_eq_some_iff.1 hz).1; simpa using this
      subst this
      simp at hz; subst hz; exact h.cell 0⟩
  | 1 =>
    simp at hx; subst hx
    exact ⟨_, _, rfl, hg, ⟨A2, c2, rfl, h2⟩, fun j z hz => by
      have : j = 0 := by have := (List.getElem?_eq_some_iff.1 hz).1; simpa using this
      subst this
      simp at hz; subst hz; exact h.cell 1⟩
  | i + 2 => simp at hx

set_option maxRecDepth 100000 in
set_option maxHeartbeats 4000000 in
theorem check_any (S : Nat → Prop) (ks : Int) (f t : List Int) (l r : List (List Int × Bool)) (Af At Al Ar : Option Addr) (cf ct cl cr : Nat) (w : World) (hf : Sl rInt w S Af cf f) (ht : Sl rInt w S At ct t) (hl : Sl rSpot w S Al cl l) (hr : Sl rSpot w S Ar cr r)
    (hS : ∀ b, S b → b < w.heap.size) (hn : l.length + r.length ≤ 4294967296) :
    Calls Try.prog 10 #[.agg #[.int .i64 ks, .slice Af f.length cf, .slice At t.length ct, .slice Al l.length cl, .slice Ar r.length cr]] w fun e w' => e = .returned (.int .i64 (checkC ks f t l r)) ∧ Below w.heap.size w w' := by
  by_cases hk : ks < 1 ∨ 4 < ks
  · have HQ : Hid (checkC ks f t l r = 7) := Lib.hid (by unfold checkC; rw [if_pos hk])
    clear hf ht hl hr
    rcases hk with hk | hk
    · go_enter Try.func10, Try.ntmps10
      go_wp2
      go_ret
      exact ⟨by rw [HQ.out]; rfl, (Below.refl _ _).alloc (Nat.le_refl _) _⟩
    · have hk1 : ¬ ks < 1 := by omega
      go_enter Try.func10, Try.ntmps10
      go_wp2
      go_ret
      exact ⟨by rw [HQ.out]; rfl, (Below.refl _ _).alloc (Nat.le_refl _) _⟩
  · have hk1 : 1 ≤ ks := by omega
    have hk2 : ks ≤ 4 := by omega
    have HQ : Hid (checkC ks f t l r = if (lensB f t l r || (l ++ r).any bigS) = true then 2 else if ((l ++ r).any (farS ks) || f.any (outB ks) || t.any (outB ks)) = true then 3 else if formB l = true then 1 else 0) := Lib.hid (by unfold checkC; rw [if_neg hk])
    clear hk
    have bf := hf.le; have bf' := hf.max; have bt := ht.le; have bt' := ht.max; have bl := hl.le; have bl' := hl.max; have br := hr.le; have br' := hr.max
    unfold maxLen at bf' bt' bl' br'
    -- the world behind the box and the two slices
    have hX0 : Below w.heap.size w ((w.alloc (.cells #[.int .i64 ks, .slice Af f.length cf, .slice At t.length ct, .slice Al l.length cl, .slice Ar r.length cr] 25)).alloc (.cells #[.slice Al l.length cl, .slice Ar r.length cr] 23)) :=
      ((Below.refl _ _).alloc (Nat.le_refl _) _).alloc (by simp) _
    have hbox : Blk ((w.alloc (.cells #[.int .i64 ks, .slice Af f.length cf, .slice At t.length ct, .slice Al l.length cl, .slice Ar r.length cr] 25)).alloc (.cells #[.slice Al l.length cl, .slice Ar r.length cr] 23)) w.heap.size 25 #[.int .i64 ks, .slice Af f.length cf, .slice At t.length ct, .slice Al l.length cl, .slice Ar r.length cr] := (Blk.new _ _ _).alloc _
    have hS1 : ∀ b, (fun b => S b ∨ b = w.heap.size + 1) b → b < ((w.alloc (.cells #[.int .i64 ks, .slice Af f.length cf, .slice At t.length ct, .slice Al l.length cl, .slice Ar r.length cr] 25)).alloc (.cells #[.slice Al l.length cl, .slice Ar r.length cr] 23)).heap.size := by
      rintro b (hb | rfl)
      · have := hS b hb; simp; omega
      · simp
    have hsl : Sl (rList rSpot) ((w.alloc (.cells #[.int .i64 ks, .slice Af f.length cf, .slice At t.length ct, .slice Al l.length cl, .slice Ar r.length cr] 25)).alloc (.cells #[.slice Al l.length cl, .slice Ar r.length cr] 23)) (fun b => S b ∨ b = w.heap.size + 1) (some ⟨w.heap.size + 1, 0, none⟩) 2 [l, r] :=
      Sl.two (t := 23) (by have := Blk.new (w.alloc (.cells #[.int .i64 ks, .slice Af f.length cf, .slice At t.length ct, .slice Al l.length cl, .slice Ar r.length cr] 25)) 23 #[.slice Al l.length cl, .slice Ar r.length cr]; simpa using this) (.inr rfl) ((hl.below hS hX0).more fun _ h => .inl h) ((hr.below hS hX0).more fun _ h => .inl h)
    have HF := Lib.hid (hf.below hS hX0); have HT := Lib.hid (ht.below hS hX0); have HL := Lib.hid (hl.below hS hX0); have HR := Lib.hid (hr.below hS hX0)
    have HSL := Lib.hid hsl
    have HBX := Lib.hid hbox
    have HX0 := Lib.hid hX0
    have HS0 := Lib.hid hS
    have HS1 := Lib.hid hS1
    have hfl : [l, r].flatten = l ++ r := by simp
    have HFL := Lib.hid hfl
    clear hf ht hl hr hsl hbox hX0 hS1 hS hfl
    go_enter Try.func10, Try.ntmps10
    go_wp2_with fail
    refine (concatSp_any (ρ := rSpot) rfl _ 2 [l, r] _ HSL.out HS1.out (by rw [HFL.out, List.length_append]; exact hn)).mono ?_
    rintro e w1 ⟨⟨v, cs, rfl, hown, hel⟩, hb1⟩
    rw [HFL.out] at hown hel
    obtain ⟨Asp, csp, rfl⟩ := own_slice hown
    have hX1 : Below w.heap.size w w1 := HX0.out.trans (hb1.mono HX0.out.size)
    have hS0' : ∀ b, S b → b < w1.heap.size := fun b hb => Nat.lt_of_lt_of_le (HS0.out b hb) hX1.size
    have hF := Lib.hid (HF.out.below (fun b hb => HS1.out b (.inl hb)) hb1)
    have hT := Lib.hid (HT.out.below (fun b hb => HS1.out b (.inl hb)) hb1)
    have hL := Lib.hid (HL.out.below (fun b hb => HS1.out b (.inl hb)) hb1)
    have hB := HBX.out.below hb1 (by simp; omega)
    have hlt := own_lt hown
    have hss : Sl rSpot w1 (fun b => b < w1.heap.size) Asp csp (l ++ r) := Sl.of_own (ρ := rSpot) hown (hel.more fun b hb => Nat.lt_of_lt_of_le (HS1.out b hb) hb1.size) (fun g hg => hlt g hg)
    have bs := hss.le
    have bs' := hss.max
    unfold maxLen at bs'
    have HSS := Lib.hid hss
    obtain ⟨e0, e1, e2, e3, e4⟩ := blk5 hB
    have HX1 := Lib.hid hX1
    have HS := Lib.hid hS0'
    have HB := Lib.hid hB
    have hlf : formB l = true ↔ ∃ h : 1 < l.length, l.length = 2 ∧ (l[1]'h).2 = true := by
      unfold formB
      match l with
      | [] => simp
      | [_] => simp
      | [_, _] => simp
      | _ :: _ :: _ :: _ => simp
    have HLF := Lib.hid hlf
    have HSZ : Hid ((l ++ r).length = l.length + r.length) := Lib.hid List.length_append
    clear hown hel hss hX1 hb1 HF HT HL HR HBX HX0 HSL HFL HS0 HS1 hlt hlf hS0' hB
    generalize l ++ r = ss at *
    by_cases p : lensB f t l r = true
    · have HV : Hid (checkC ks f t l r = 2) := Lib.hid (by rw [HQ.out, p]; rfl)
      have q : (f.length : Int) < 1 ∨ (1 ≤ (f.length : Int) ∧ 2 < (f.length : Int)) ∨ ((1 ≤ (f.length : Int) ∧ (f.length : Int) ≤ 2) ∧ 2 < (t.length : Int)) ∨ ((1 ≤ (f.length : Int) ∧ (f.length : Int) ≤ 2) ∧ (t.length : Int) ≤ 2 ∧ 2 < (l.length : Int)) ∨
          ((1 ≤ (f.length : Int) ∧ (f.length : Int) ≤ 2) ∧ (t.length : Int) ≤ 2 ∧ (l.length : Int) ≤ 2 ∧ 1 < (r.length : Int)) := by
        unfold lensB at p; simp only [Bool.or_eq_true, decide_eq_true_eq] at p; omega
      clear p
      rcases q with q | ⟨q1, q⟩ | ⟨⟨q1, q2⟩, q⟩ | ⟨⟨q1, q2⟩, q3, q⟩ | ⟨⟨q1, q2⟩, q3, q4, q⟩
      all_goals
        go_wp2
        go_ret
        exact ⟨by rw [HV.out]; rfl, HX1.out⟩
    · have q : (1 ≤ (f.length : Int) ∧ (f.length : Int) ≤ 2) ∧ (t.length : Int) ≤ 2 ∧ (l.length : Int) ≤ 2 ∧ (r.length : Int) ≤ 1 := by
        unfold lensB at p; simp only [Bool.or_eq_true, decide_eq_true_eq] at p; omega
      replace p : lensB f t l r = false := by simpa using p
      have HP := Lib.hid p
      clear p
      obtain ⟨⟨q1, q2⟩, q3, q4, q5⟩ := q
      go_wp2_with fail
      refine (containsFuncS_any 32 #[] (enters_of Try.func32 (by kernel_rfl) rfl) bigS _ Asp csp ss _ HSS.out (fun b h => h) (check1_tells _ _)).mono ?_
      rintro e w2 ⟨rfl, hb2⟩
      have HSS2 := Lib.hid (HSS.out.below (fun b h => h) hb2)
      have HF2 := Lib.hid (hF.out.below HS.out hb2)
      have HT2 := Lib.hid (hT.out.below HS.out hb2)
      have HL2 := Lib.hid (hL.out.below HS.out hb2)
      have HS2 := Lib.hid (in_below HS.out hb2)
      have hB2 := HB.out.below hb2 HB.out.lt
      obtain ⟨d0, d1, d2, d3, d4⟩ := blk5 hB2
      have HB2 := Lib.hid hB2
      have HX2 := Lib.hid (HX1.out.trans (hb2.mono HX1.out.size))
      have HI2 : Hid (∀ b, (fun b => b < w1.heap.size) b → b < w2.heap.size) := Lib.hid (fun b h => Nat.lt_of_lt_of_le h hb2.size)
      clear hb2 hB2 e0 e1 e2 e3 e4 HB HX1 HS hL hT hF HSS
      cases hbig : ss.any bigS with
      | true =>
        have HV : Hid (checkC ks f t l r = 2) := Lib.hid (by rw [HQ.out, HP.out, hbig]; rfl)
        clear hbig
        go_wp2
        go_ret
        exact ⟨by rw [HV.out]; rfl, HX2.out⟩
      | false =>
        have HV : Hid (checkC ks f t l r = if (ss.any (farS ks) || f.any (outB ks) || t.any (outB ks)) = true then 3 else if formB l = true then 1 else 0) := Lib.hid (by rw [HQ.out, HP.out, hbig]; rfl)
        clear hbig HQ HP
        go_wp2
        go_loopw [5, 54] (fun _ i wr => ∃ k : Nat, k ≤ ss.length ∧ i = .int .i64 (k : Int) ∧ Hid ((ss.take k).any (farS ks) = false) ∧ Hid (Below w2.heap.size w2 wr)) (fun _ i _ => ss.length - (intOf i).toNat)
        case atStart => exact ⟨0, by omega, rfl, Lib.hid (by simp), Lib.hid (Below.refl _ _)⟩
        case round =>
          obtain ⟨k, hk, rfl, HN, HX⟩ := hrel
          have HXW := Lib.hid (HX2.out.trans (HX.out.mono HX2.out.size))
          have hB3 := HB2.out.below HX.out HB2.out.lt
          obtain ⟨g0, g1, g2, g3, g4⟩ := blk5 hB3
          have hzb := hB3.lt
          clear d0 d1 d2 d3 d4
          have hz3 := HX.out.size
          by_cases hlt : k < ss.length
          · have hI3 : ∀ b, (fun b => b < w1.heap.size) b → b < wr.heap.size := fun b h => Nat.lt_of_lt_of_le (HI2.out b h) hz3
            obtain ⟨ad, A1, c1, hA, _, hsl, hc0, hc1⟩ := spot_at (HSS2.out.below HI2.out HX.out) hlt
            subst hA
            have HY := Lib.hid (fun h => any_next (p := farS ks) HN.out hlt h)
            have HH := Lib.hid (fun h => any_hit (p := farS ks) hlt h)
            generalize ss[k]'hlt = x at *
            have b1 := hsl.le
            have b1' := hsl.max
            unfold maxLen at b1'
            have hX3 : Below wr.heap.size wr (wr.alloc (.cells #[.slice A1 x.1.length c1, .bool x.2] 60)) := (Below.refl _ _).alloc (Nat.le_refl _) _
            have HC := Lib.hid (right_any _ A1 c1 x.1 ks _ (hsl.below hI3 hX3) (in_below hI3 hX3))
            have HX3 := Lib.hid hX3
            have HFQ : Hid (farS ks x = x.1.any (outB ks)) := Lib.hid rfl
            clear hsl hX3 hI3
            go_wp2_with fail
            refine HC.out.mono ?_
            rintro e w3 ⟨rfl, hb3⟩
            have HX4 : Hid (Below w2.heap.size w2 w3) := Lib.hid (HX.out.trans ((HX3.out.trans (hb3.mono HX3.out.size)).mono hz3))
            clear hb3 HC HX3
            cases hq : x.1.any (outB ks) with
            | true =>
              have HW : Hid (checkC ks f t l r = 3) := Lib.hid (by rw [HV.out, HH.out (by rw [HFQ.out, hq])]; rfl)
              clear hq
              go_wp2
              go_ret
              exact ⟨by rw [HW.out]; rfl, HX2.out.trans (HX4.out.mono HX2.out.size)⟩
            | false =>
              have HQ := Lib.hid (HY.out (by rw [HFQ.out, hq]))
              clear hq
              go_wp2
              go_roundw
              case rel => exact ⟨k + 1, by omega, by go_num, HQ, HX4⟩
              case measure => simp [intOf]; omega
          · have HE := Lib.hid (any_none HN.out (by omega))
            have hX5 := HX.out
            have HF5 := Lib.hid (HF2.out.below HS2.out hX5)
            have HT5 := Lib.hid (HT2.out.below HS2.out hX5)
            have HL5 := Lib.hid (HL2.out.below HS2.out hX5)
            have HS5 := Lib.hid (in_below HS2.out hX5)
            have HB5 := Lib.hid hB3
            clear hX5 HN hB3
            go_wp2_with fail
            refine (right_any S Af cf f ks _ HF5.out HS5.out).mono ?_
            rintro e w6 ⟨rfl, hb6⟩
            have HT6 := Lib.hid (HT5.out.below HS5.out hb6)
            have HL6 := Lib.hid (HL5.out.below HS5.out hb6)
            have HS6 := Lib.hid (in_below HS5.out hb6)
            have hB6 := HB5.out.below hb6 HB5.out.lt
            have HX6 := Lib.hid (HXW.out.trans (hb6.mono HXW.out.size))
            clear g0 g1 g2 g3 g4
            obtain ⟨g0, g1, g2, g3, g4⟩ := blk5 hB6
            have HB6 := Lib.hid hB6
            clear hb6 hB6 HF5 HT5 HL5 HS5 HB5
            cases hq : f.any (outB ks) with
            | true =>
              have HW : Hid (checkC ks f t l r = 3) := Lib.hid (by rw [HV.out, HE.out, hq]; rfl)
              clear hq
              go_wp2
              go_ret
              exact ⟨by rw [HW.out]; rfl, HX6.out⟩
            | false =>
              have HV2 : Hid (checkC ks f t l r = if (t.any (outB ks)) = true then 3 else if formB l = true then 1 else 0) := Lib.hid (by rw [HV.out, HE.out, hq]; rfl)
              clear hq HV
              go_wp2_with fail
              refine (right_any S At ct t ks _ HT6.out HS6.out).mono ?_
              rintro e w7 ⟨rfl, hb7⟩
              have HL7 := Lib.hid (HL6.out.below HS6.out hb7)
              have hB7 := HB6.out.below hb7 HB6.out.lt
              have HX7 := Lib.hid (HX6.out.trans (hb7.mono HX6.out.size))
              clear g0 g1 g2 g3 g4
              obtain ⟨g0, g1, g2, g3, g4⟩ := blk5 hB7
              clear hb7 hB7 HL6 HS6 HB6 HT6
              cases hq : t.any (outB ks) with
              | true =>
                have HW : Hid (checkC ks f t l r = 3) := Lib.hid (by rw [HV2.out, hq]; rfl)
                clear hq
                go_wp2
                go_ret
                exact ⟨by rw [HW.out]; rfl, HX7.out⟩
              | false =>
                have HV3 : Hid (checkC ks f t l r = if formB l = true then 1 else 0) := Lib.hid (by rw [HV2.out, hq]; rfl)
                clear hq HV2
                by_cases h2 : l.length = 2
                · have h2' : ((l.length : Int) == 2) = true := by simp; omega
                  have h2'' : 1 < l.length := by omega
                  obtain ⟨ad, A1, c1, hA, _, _, _, hc1⟩ := spot_at HL7.out h2''
                  subst hA
                  replace hc1 : w7.cell? ⟨ad.block, ad.off + 2 + 1, none⟩ = some (.bool (l[1]'h2'').2) := hc1
                  have HLQ : Hid (formB l = (l[1]'h2'').2) := Lib.hid (by
                    have := HLF.out
                    cases hq : (l[1]'h2'').2 with
                    | true => exact this.2 ⟨h2'', h2, hq⟩
                    | false => simp only [Bool.eq_false_iff, ne_eq, this]; rintro ⟨h, _, h3⟩; rw [hq] at h3; simp at h3)
                  generalize l[1]'h2'' = x at *
                  have HZ := Lib.hid h2
                  clear h2
                  cases hq : x.2 with
                  | true =>
                    rw [hq] at hc1
                    have HW : Hid (checkC ks f t l r = 1) := Lib.hid (by rw [HV3.out, HLQ.out, hq]; rfl)
                    clear hq
                    go_wp2
                    go_ret
                    exact ⟨by rw [HW.out]; rfl, HX7.out⟩
                  | false =>
                    rw [hq] at hc1
                    have HW : Hid (checkC ks f t l r = 0) := Lib.hid (by rw [HV3.out, HLQ.out, hq]; rfl)
                    clear hq
                    go_wp2
                    go_ret
                    exact ⟨by rw [HW.out]; rfl, HX7.out⟩
                · have h2' : ((l.length : Int) == 2) = false := by simp; omega
                  have HW : Hid (checkC ks f t l r = 0) := Lib.hid (by
                    rw [HV3.out, if_neg]; rw [HLF.out]; rintro ⟨_, h, _⟩; exact h2 h)
                  clear h2
                  go_wp2
                  go_ret
                  exact ⟨by rw [HW.out]; rfl, HX7.out⟩
end Go.Proofs.Ytaidkboijjkbgaa
