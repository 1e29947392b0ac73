/- The walk of R.here. -/
import Derived.Test.YtaidkboijjkbgaaApp
import Derived.Deep.DeepCutAuto
namespace Go.Proofs.Ytaidkboijjkbgaa
open Go.RowKit

theorem fromB_iff {f inn : List Int} : fromB f inn = true ↔ ∀ i (h : i < f.length), ∃ h' : i < inn.length, inn[i] = f[i] := by
  unfold fromB
  simp only [Bool.and_eq_true, decide_eq_true_eq]
  constructor
  · rintro ⟨h1, h2⟩ i hi
    refine ⟨by omega, ?_⟩
    have : (inn.take f.length)[i]? = f[i]? := by rw [h2]
    rw [List.getElem?_take, if_pos hi, List.getElem?_eq_getElem (by omega), List.getElem?_eq_getElem hi] at this
    simpa using this
  · intro h
    have hl : f.length ≤ inn.length := by
      by_cases h0 : f.length = 0
      · omega
      · obtain ⟨h', _⟩ := h (f.length - 1) (by omega); omega
    refine ⟨hl, List.ext_getElem? fun i => ?_⟩
    rw [List.getElem?_take]
    split
    · rename_i hi
      obtain ⟨h', e⟩ := h i hi
      rw [List.getElem?_eq_getElem h', List.getElem?_eq_getElem hi, e]
    · rw [List.getElem?_eq_none (by omega)]
theorem matchS_low {x : List Int × Bool} {out : List Int} {k : Int} (h : k < -1) (hl : 0 ≤ (out.length : Int)) : matchS x out k = false := by
  unfold matchS
  rw [if_pos (by omega), beq_eq_false_iff_ne.2 (by omega), beq_eq_false_iff_ne.2 (by omega)]; simp
theorem matchS_edge {x : List Int × Bool} {out : List Int} : matchS x out (-1) = x.2 := by
  unfold matchS
  rw [if_pos (by omega)]; simp
theorem matchS_end {x : List Int × Bool} {out : List Int} : matchS x out (out.length : Int) = x.2 := by
  unfold matchS
  rw [if_pos (by omega)]; simp
theorem matchS_in {x : List Int × Bool} {out : List Int} {k : Nat} (h : k < out.length) : matchS x out (k : Int) = x.1.any fun y => y == out[k] := by
  unfold matchS
  rw [if_neg (by omega), Int.toNat_natCast]
  have : out.getD k 0 = out[k] := by rw [List.getD_eq_getElem?_getD, List.getElem?_eq_getElem h]; rfl
  rw [this]

set_option maxRecDepth 100000 in
set_option maxHeartbeats 4000000 in
theorem here_any (S : Nat → Prop) (ks : Int) (f t : List Int) (l r : List (List Int × Bool)) (Af At Al Ar : Option Addr) (cf ct cl cr : Nat) (out text : List Int) (Ao Ai : Option Addr) (co ci a : Nat) (w : World) (hf : Sl rInt w S Af cf f) (hl : Sl rSpot w S Al cl l) (hr : Sl rSpot w S Ar cr r)
    (ho : Sl rInt w S Ao co out) (hin : Sl rInt w S Ai ci text) (hS : ∀ b, S b → b < w.heap.size) (hr1 : r.length ≤ 1) (ha : a ≤ text.length) (hn : text.length ≤ 100000) (hf2 : f.length ≤ 100000) :
    Calls Try.prog 46 #[.agg #[.int .i64 ks, .slice Af f.length cf, .slice At t.length ct, .slice Al l.length cl, .slice Ar r.length cr], .slice Ao out.length co, .slice Ai text.length ci, .int .i64 (a : Int)] w fun e w' => e = .returned (.bool (turnsC f l r out (text.drop a))) ∧ Below w.heap.size w w' := by
  have bf := hf.le; have bf' := hf.max; have bl := hl.le; have bl' := hl.max; have br := hr.le; have br' := hr.max; have bo := ho.le; have bo' := ho.max; have bi := hin.le; have bi' := hin.max
  unfold maxLen at bf' bl' br' bo' bi'
  have hX : Below w.heap.size w (w.alloc (.cells #[.int .i64 ks, .slice Af f.length cf, .slice At t.length ct, .slice Al l.length cl, .slice Ar r.length cr] 25)) := (Below.refl _ _).alloc (Nat.le_refl _) _
  have hB : Blk (w.alloc (.cells #[.int .i64 ks, .slice Af f.length cf, .slice At t.length ct, .slice Al l.length cl, .slice Ar r.length cr] 25)) w.heap.size 25 #[.int .i64 ks, .slice Af f.length cf, .slice At t.length ct, .slice Al l.length cl, .slice Ar r.length cr] := Blk.new _ _ _
  have HF := Lib.hid (hf.below hS hX); have HL := Lib.hid (hl.below hS hX); have HR := Lib.hid (hr.below hS hX); have HO := Lib.hid (ho.below hS hX); have HI := Lib.hid (hin.below hS hX)
  have HX := Lib.hid hX
  have HQ : Hid (turnsC f l r out (text.drop a) = (fromB f (text.drop a) && (leftB l ((out.length : Int) - (l.length : Int)) out && rightB r (text.drop a) f.length))) := Lib.hid rfl
  obtain ⟨e0, e1, e2, e3, e4⟩ := blk5 hB
  clear hf hl hr ho hin hS hX hB
  go_enter Try.func46, Try.ntmps46
  -- the world behind the box, by a name
  go_wp2
  generalize w.alloc (.cells #[.int .i64 ks, .slice Af f.length cf, .slice At t.length ct, .slice Al l.length cl, .slice Ar r.length cr] 25) = w1 at *
  go_loopw [9] (fun i wr => ∃ k n : Nat, k ≤ f.length ∧ i = .int .i64 (k : Int) ∧ Hid (∀ i (h : i < f.length), i < k → ∃ h' : i < (text.drop a).length, (text.drop a)[i] = f[i]) ∧ wr = w1.drewN n) (fun i _ => f.length - (intOf i).toNat)
  case atStart => exact ⟨0, 0, by omega, rfl, Lib.hid (fun i _ h => by omega), rfl⟩
  case round =>
    obtain ⟨k, n, hk, rfl, HN, rfl⟩ := hrel
    by_cases hlt : k < f.length
    · obtain ⟨ad, rfl, _, _, hc⟩ := HF.out.int_at hlt
      by_cases hin : a + k < text.length
      · obtain ⟨ad2, rfl, _, _, hc2⟩ := HI.out.int_at hin
        have HG : Hid (∃ h' : k < (text.drop a).length, (text.drop a)[k] = text[a + k]) := Lib.hid ⟨by rw [List.length_drop]; omega, by rw [List.getElem_drop]⟩
        have HFE : Hid (f[k] = f[k]) := Lib.hid rfl
        by_cases hxy : text[a + k] = f[k]
        · have HS : Hid (∀ i (h : i < f.length), i < k + 1 → ∃ h' : i < (text.drop a).length, (text.drop a)[i] = f[i]) := Lib.hid (fun i h hi => by
            by_cases e : i = k
            · subst e; obtain ⟨h', e'⟩ := HG.out; exact ⟨h', e'.trans hxy⟩
            · exact HN.out i h (by omega))
          have hx1 : (text[a + k] != f[k]) = false := by simp [hxy]
          clear HG hxy HFE
          generalize text[a + k] = x at *
          generalize f[k] = y at *
          have s1 : IntKind.i64.wrap ((a : Int) + (k : Int)) = (a : Int) + (k : Int) := IntWalk.i64_in _ (by omega)
          have s2 : 0 ≤ (a : Int) + (k : Int) := by omega
          have s3 : ((a : Int) + (k : Int)).toNat = a + k := by omega
          have s4 : (a : Int) + (k : Int) < (text.length : Int) := by omega
          have d1 : decide ((text.length : Int) ≤ (a : Int) + (k : Int)) = false := by simp; omega
          have d2 : decide (text.length ≤ a + k) = false := by simp; omega
          go_wp2
          go_quiet (fail)
          clear s1 s3
          go_wp2
          go_roundw
          case rel => exact ⟨k + 1, n + nq, by omega, by go_num, HS, by simp⟩
          case measure => simp [intOf]; omega
        · have HV : Hid (turnsC f l r out (text.drop a) = false) := Lib.hid (by
            have : fromB f (text.drop a) = false := by
              rw [← Bool.not_eq_true, fromB_iff]
              intro hh
              obtain ⟨h', e'⟩ := hh k hlt
              obtain ⟨h'', e''⟩ := HG.out
              exact hxy (e''.symm.trans e')
            rw [HQ.out, this]; rfl)
          have hx1 : (text[a + k] != f[k]) = true := by simp [hxy]
          clear HG hxy HFE
          generalize text[a + k] = x at *
          generalize f[k] = y at *
          have s1 : IntKind.i64.wrap ((a : Int) + (k : Int)) = (a : Int) + (k : Int) := IntWalk.i64_in _ (by omega)
          have s2 : 0 ≤ (a : Int) + (k : Int) := by omega
          have s3 : ((a : Int) + (k : Int)).toNat = a + k := by omega
          have s4 : (a : Int) + (k : Int) < (text.length : Int) := by omega
          have d1 : decide ((text.length : Int) ≤ (a : Int) + (k : Int)) = false := by simp; omega
          have d2 : decide (text.length ≤ a + k) = false := by simp; omega
          go_wp2
          go_quiet (fail)
          go_wp2
          go_ret
          exact ⟨by rw [HV.out]; rfl, by first | exact below_drewN HX.out _ | exact below_drewN (below_drewN HX.out _) _⟩
      · have HV : Hid (turnsC f l r out (text.drop a) = false) := Lib.hid (by
          have : fromB f (text.drop a) = false := by
            rw [← Bool.not_eq_true, fromB_iff]
            intro hh
            obtain ⟨h', _⟩ := hh k hlt
            rw [List.length_drop] at h'; omega
          rw [HQ.out, this]; rfl)
        have s1 : IntKind.i64.wrap ((a : Int) + (k : Int)) = (a : Int) + (k : Int) := IntWalk.i64_in _ (by omega)
        have d1 : decide ((text.length : Int) ≤ (a : Int) + (k : Int)) = true := by simp; omega
        have d2 : decide (text.length ≤ a + k) = true := by simp; omega
        go_wp2
        go_quiet (fail)
        go_wp2
        go_ret
        exact ⟨by rw [HV.out]; rfl, by first | exact below_drewN HX.out _ | exact below_drewN (below_drewN HX.out _) _⟩
    · have hfb : fromB f (text.drop a) = true := fromB_iff.2 fun i h => HN.out i h (by omega)
      have hfl := fromB_le hfb
      rw [List.length_drop] at hfl
      have HV : Hid (turnsC f l r out (text.drop a) = (leftB l ((out.length : Int) - (l.length : Int)) out && rightB r (text.drop a) f.length)) := Lib.hid (by rw [HQ.out, hfb]; rfl)
      clear hfb HN HQ
      go_wp2
      go_loopw [10, 11] (fun i _ wr => ∃ k n : Nat, k ≤ l.length ∧ i = .int .i64 (k : Int) ∧ Hid (leftB l ((out.length : Int) - (l.length : Int)) out = leftB (l.drop k) ((out.length : Int) - (l.length : Int) + (k : Int)) out) ∧ wr = w1.drewN n) (fun i _ _ => l.length - (intOf i).toNat)
      case atStart => exact ⟨0, n, by omega, rfl, Lib.hid (by simp), rfl⟩
      case round =>
        obtain ⟨k, n, hk, rfl, HN, rfl⟩ := hrel
        by_cases hlt : k < l.length
        · obtain ⟨ad, A1, c1, hA, _, hsl, hc0, hc1⟩ := spot_at HL.out hlt
          subst hA
          have HST := Lib.hid (leftB_step (out := out) (k0 := (out.length : Int) - (l.length : Int)) hlt)
          generalize l[k]'hlt = x at *
          have b1 := hsl.le
          have b1' := hsl.max
          unfold maxLen at b1'
          have HSL := Lib.hid hsl
          obtain ⟨K, hK⟩ : ∃ K : Int, K = (out.length : Int) - (l.length : Int) + (k : Int) := ⟨_, rfl⟩
          have hK1 : K < (out.length : Int) := by omega
          have hK0 : -9223372036854775807 ≤ K := by omega
          have HK := Lib.hid hK
          have HM : Hid (leftB l ((out.length : Int) - (l.length : Int)) out = (matchS x out K && leftB (l.drop (k + 1)) ((out.length : Int) - (l.length : Int) + ((k + 1 : Nat) : Int)) out)) := Lib.hid (by rw [HN.out, HST.out, hK])
          clear hK hsl HST HN
          go_upto_region 9 with fail
          go_cut [11] (fun s wx => s = .int .i64 K ∧ w1.drewN n = wx)
          case first =>
            go_wp2_with fail
            go_meet
            exact ⟨by rw [HK.out], rfl⟩
          case rest =>
            obtain ⟨rfl, rfl⟩ := hcut
            clear HK
            by_cases h1 : K < -1
            · have HW : Hid (turnsC f l r out (text.drop a) = false) := Lib.hid (by rw [HV.out, HM.out, matchS_low h1 (by omega)]; rfl)
              have d1 : decide (K < -1) = true := by simp; omega
              go_wp2
              go_quiet (fail)
              go_wp2
              go_ret
              exact ⟨by rw [HW.out]; rfl, by first | exact below_drewN HX.out _ | exact below_drewN (below_drewN HX.out _) _⟩
            · by_cases h2 : K = -1
              · subst h2
                cases hx2 : x.2 with
                | false =>
                  have HW : Hid (turnsC f l r out (text.drop a) = false) := Lib.hid (by rw [HV.out, HM.out, matchS_edge, hx2]; rfl)
                  rw [hx2] at hc1
                  clear hx2
                  go_wp2
                  go_quiet (fail)
                  go_wp2
                  go_ret
                  exact ⟨by rw [HW.out]; rfl, by first | exact below_drewN HX.out _ | exact below_drewN (below_drewN HX.out _) _⟩
                | true =>
                  have HN2 : Hid (leftB l ((out.length : Int) - (l.length : Int)) out = leftB (l.drop (k + 1)) ((out.length : Int) - (l.length : Int) + ((k + 1 : Nat) : Int)) out) := Lib.hid (by rw [HM.out, matchS_edge, hx2, Bool.true_and])
                  rw [hx2] at hc1
                  clear hx2
                  go_wp2
                  go_quiet (fail)
                  go_wp2
                  go_roundw
                  case rel => exact ⟨k + 1, n + nq, by omega, by go_num, HN2, by simp⟩
                  case measure => simp [intOf]; omega
              · obtain ⟨j, rfl⟩ := Int.eq_ofNat_of_zero_le (show 0 ≤ K by omega)
                have hj : j < out.length := by omega
                obtain ⟨ad2, rfl, _, _, hc2⟩ := HO.out.int_at hj
                have HY := Lib.hid (matchS_in (x := x) hj)
                generalize out[j]'hj = y at *
                have d1 : decide ((j : Int) < -1) = false := decide_eq_false (by omega)
                have d2 : ((j : Int) == -1) = false := by rw [beq_eq_false_iff_ne]; omega
                have d3 : (0 : Int) ≤ (j : Int) := by omega
                have HC := Lib.hid (fun W (h : Sl rInt W S A1 c1 x.1) => among_any S A1 c1 x.1 y W h)
                cases hq : (x.1.any fun z => z == y) with
                | true =>
                  have HN2 : Hid (leftB l ((out.length : Int) - (l.length : Int)) out = leftB (l.drop (k + 1)) ((out.length : Int) - (l.length : Int) + ((k + 1 : Nat) : Int)) out) := Lib.hid (by rw [HM.out, HY.out, hq, Bool.true_and])
                  simp only [hq] at HC
                  clear hq h1 h2
                  go_wp2
                  go_quiet ((go_at_call 55; exact quiet_add_left (HC.out _ (by exact HSL.out))))
                  go_wp2
                  go_roundw
                  case rel => exact ⟨k + 1, n + nq, by omega, by go_num, HN2, by simp⟩
                  case measure => simp [intOf]; omega
                | false =>
                  have HW : Hid (turnsC f l r out (text.drop a) = false) := Lib.hid (by rw [HV.out, HM.out, HY.out, hq]; rfl)
                  simp only [hq] at HC
                  clear hq h1 h2
                  go_wp2
                  go_quiet ((go_at_call 55; exact quiet_add_left (HC.out _ (by exact HSL.out))))
                  go_wp2
                  go_ret
                  exact ⟨by rw [HW.out]; rfl, by first | exact below_drewN HX.out _ | exact below_drewN (below_drewN HX.out _) _⟩
        · have HV2 : Hid (turnsC f l r out (text.drop a) = rightB r (text.drop a) f.length) := Lib.hid (by rw [HV.out, HN.out, leftB_end (l := l) (k := k) (by omega)]; rfl)
          have HXR := Lib.hid (below_drewN HX.out n)
          by_cases hr0 : r.length = 0
          · have hr0' : ((r.length : Int) == 0) = true := by rw [beq_iff_eq]; omega
            have hr0'' : (r.length == 0) = true := by rw [beq_iff_eq]; omega
            have HW : Hid (turnsC f l r out (text.drop a) = true) := Lib.hid (by rw [HV2.out, List.eq_nil_of_length_eq_zero hr0]; rfl)
            clear hr0
            go_wp2
            go_ret
            exact ⟨by rw [HW.out]; rfl, HXR.out⟩
          · have hr0' : ((r.length : Int) == 0) = false := by rw [beq_eq_false_iff_ne]; omega
            have hr0'' : (r.length == 0) = false := by rw [beq_eq_false_iff_ne]; omega
            have hr2 : 0 < r.length := by omega
            have hr3 : (0 : Int) < (r.length : Int) := by omega
            obtain ⟨ad, A1, c1, hA, had, hsl, hc0, hc1⟩ := spot_at HR.out hr2
            subst hA
            have HW : Hid (turnsC f l r out (text.drop a) = matchS (r[0]'hr2) (text.drop a) f.length) := Lib.hid (by
              rw [HV2.out]
              match r, hr2 with
              | s :: _, _ => rfl)
            generalize r[0]'hr2 = x at *
            replace hc0 : w1.cell? ad = some (.slice A1 x.1.length c1) := hc0
            replace hc1 : w1.cell? ⟨ad.block, ad.off + 1, none⟩ = some (.bool x.2) := hc1
            have HSL := Lib.hid hsl
            clear hsl had hr0
            by_cases he : a + f.length = text.length
            · have HE : Hid (turnsC f l r out (text.drop a) = x.2) := Lib.hid (by
                rw [HW.out]
                have : (f.length : Int) = ((text.drop a).length : Int) := by rw [List.length_drop]; omega
                rw [this, matchS_end])
              have q1 : ((a : Int) + (f.length : Int) == (text.length : Int)) = true := by rw [beq_iff_eq]; omega
              have q2 : (a + f.length == text.length) = true := by rw [beq_iff_eq]; omega
              clear he
              go_wp2
              go_ret
              exact ⟨by rw [HE.out]; rfl, HXR.out⟩
            · have hin : a + f.length < text.length := by omega
              obtain ⟨ad2, rfl, _, _, hc2⟩ := HI.out.int_at hin
              have HE : Hid (turnsC f l r out (text.drop a) = x.1.any fun y => y == text[a + f.length]) := Lib.hid (by
                rw [HW.out, matchS_in (by rw [List.length_drop]; omega)]
                simp only [List.getElem_drop])
              generalize text[a + f.length]'hin = y at *
              have q1 : ((a : Int) + (f.length : Int) == (text.length : Int)) = false := by rw [beq_eq_false_iff_ne]; omega
              have q2 : (a + f.length == text.length) = false := by rw [beq_eq_false_iff_ne]; omega
              have hin' : (a : Int) + (f.length : Int) < (text.length : Int) := by omega
              have hge : 0 ≤ (a : Int) + (f.length : Int) := by omega
              have htn : ((a : Int) + (f.length : Int)).toNat = a + f.length := by omega
              clear he
              go_wp2
              go_quiet ((go_at_call 55; exact quiet_add_left (among_any S A1 c1 x.1 y _ (by exact HSL.out))))
              go_wp2
              go_ret
              exact ⟨by rw [HE.out]; rfl, by first | exact below_drewN HX.out _ | exact below_drewN (below_drewN HX.out _) _⟩
end Go.Proofs.Ytaidkboijjkbgaa
