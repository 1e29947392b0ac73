/- The walks of sound.checkAll, R.CheckChanges, sound.All, R.All. -/
import Derived.Test.YtaidkboijjkbgaaAllD
import Derived.Deep.DeepCutAuto
namespace Go.Proofs.Ytaidkboijjkbgaa
open Go.RowKit

set_option maxRecDepth 100000 in
set_option maxHeartbeats 2000000 in
theorem checkAll_any (S : Nat → Prop) (A : Option Addr) (c : Nat) (cs : List Chg) (w : World) (h : Sl rChg w S A c cs) (hS : ∀ b, S b → b < w.heap.size) (hn : ∀ x ∈ cs, x.2.2.2.1.length + x.2.2.2.2.length ≤ 4294967296) :
    Calls Try.prog 33 #[.slice A cs.length c] w fun e w' => e = .returned (.int .i64 (checksE cs)) ∧ Below w.heap.size w w' := by
  have hl := h.le
  have hm := h.max
  unfold maxLen at hm
  have hX : Below w.heap.size w (w.alloc (.cells #[.slice A cs.length c] 33)) := (Below.refl _ _).alloc (Nat.le_refl _) _
  have hB : Blk (w.alloc (.cells #[.slice A cs.length c] 33)) w.heap.size 33 #[.slice A cs.length c] := Blk.new _ _ _
  have HL := Lib.hid (h.below hS hX)
  have HS := Lib.hid (in_below hS hX)
  have HX := Lib.hid hX
  have HB := Lib.hid hB
  have HN := Lib.hid hn
  have HQ : Hid (checksE cs = if 3 < cs.length then 7 else if firstE cs = 0 then (if cs.any (difB (kindsOf cs)) = true then 7 else 0) else firstE cs) := Lib.hid rfl
  clear h hS hX hB hn
  by_cases h3 : 3 < cs.length
  · have HV : Hid (checksE cs = 7) := Lib.hid (by rw [HQ.out, if_pos h3])
    have h3' : (3 : Int) < (cs.length : Int) := by omega
    go_enter Try.func33, Try.ntmps33
    go_wp2
    go_ret
    exact ⟨by rw [HV.out]; rfl, HX.out⟩
  · have h3' : (cs.length : Int) ≤ 3 := by omega
    have HV : Hid (checksE cs = if firstE cs = 0 then (if cs.any (difB (kindsOf cs)) = true then 7 else 0) else firstE cs) := Lib.hid (by rw [HQ.out, if_neg h3])
    clear h3 HQ
    go_enter Try.func33, Try.ntmps33
    go_wp2
    generalize w.alloc (.cells #[.slice A cs.length c] 33) = w1 at *
    go_loopw [4, 5, 11] (fun _ _ i wr => ∃ k : Nat, k ≤ cs.length ∧ i = .int .i64 (k : Int) ∧ Hid (firstE cs = firstE (cs.drop k)) ∧ Hid (Below w1.heap.size w1 wr)) (fun _ _ i _ => cs.length - (intOf i).toNat)
    case atStart => exact ⟨0, by omega, rfl, Lib.hid rfl, Lib.hid (Below.refl _ _)⟩
    case round =>
      obtain ⟨k, hk, rfl, HF, HXR⟩ := hrel
      have hz3 := HXR.out.size
      have hBr := HB.out.below HXR.out HB.out.lt
      have hzb := hBr.lt
      have hbx := hBr.cell 0
      have HSR := Lib.hid (in_below HS.out HXR.out)
      have HXW := Lib.hid (HX.out.trans (HXR.out.mono HX.out.size))
      by_cases hlt : k < cs.length
      · obtain ⟨ad, Af, cf, At, ct, Al, cl, Ar, cr, hA, _, ⟨sf, st, sl, sr⟩, hc0, hc1, hc2, hc3, hc4, _⟩ := chg_at (HL.out.below HS.out HXR.out) hlt
        subst hA
        have hnx := HN.out _ (List.getElem_mem hlt)
        have HST := Lib.hid (firstE_step hlt)
        have HCE : Hid (changeE (cs[k]'hlt) = checkC (cs[k]'hlt).1 (cs[k]'hlt).2.1 (cs[k]'hlt).2.2.1 (cs[k]'hlt).2.2.2.1 (cs[k]'hlt).2.2.2.2) := Lib.hid rfl
        generalize cs[k]'hlt = x at *
        have hX3 : Below wr.heap.size wr (wr.alloc (.cells #[.int .i64 x.1, .slice Af x.2.1.length cf, .slice At x.2.2.1.length ct, .slice Al x.2.2.2.1.length cl, .slice Ar x.2.2.2.2.length cr] 25)) := (Below.refl _ _).alloc (Nat.le_refl _) _
        have HC := Lib.hid (check_any S x.1 x.2.1 x.2.2.1 x.2.2.2.1 x.2.2.2.2 Af At Al Ar cf ct cl cr _ (sf.below HSR.out hX3) (st.below HSR.out hX3) (sl.below HSR.out hX3) (sr.below HSR.out hX3) (in_below HSR.out hX3) hnx)
        have HX3 := Lib.hid hX3
        clear sf st sl sr hX3 hnx hBr
        go_wp2_with fail
        refine HC.out.mono ?_
        rintro e w3 ⟨rfl, hb3⟩
        have HX4 : Hid (Below w1.heap.size w1 w3) := Lib.hid (HXR.out.trans ((HX3.out.trans (hb3.mono HX3.out.size)).mono hz3))
        rw [← HCE.out]
        clear hb3 HC HX3
        generalize changeE x = E at *
        by_cases h0 : E = 0
        · subst h0
          have HF2 : Hid (firstE cs = firstE (cs.drop (k + 1))) := Lib.hid (by rw [HF.out, HST.out, if_pos rfl])
          go_wp2
          go_roundw
          case rel => exact ⟨k + 1, by omega, by go_num, HF2, HX4⟩
          case measure => simp [intOf]; omega
        · have h0' : (E != 0) = true := by simp [h0]
          have HW : Hid (checksE cs = E) := Lib.hid (by
            have : firstE cs = E := by rw [HF.out, HST.out, if_neg h0]
            rw [HV.out, this, if_neg h0])
          clear h0
          go_wp2
          go_ret
          exact ⟨by rw [HW.out]; rfl, HX.out.trans (HX4.out.mono HX.out.size)⟩
      · have HV2 : Hid (checksE cs = if cs.any (difB (kindsOf cs)) = true then 7 else 0) := Lib.hid (by
          have : firstE cs = 0 := by rw [HF.out, List.drop_eq_nil_iff.2 (by omega)]; rfl
          rw [HV.out, this, if_pos rfl])
        have HC := Lib.hid (containsFuncC_any 50 #[.pointer (some ⟨w.heap.size, 0, none⟩)] (enters_of Try.func50 (by kernel_rfl) rfl) (fun k => k != kindsOf cs) S A c cs wr (HL.out.below HS.out HXR.out) HSR.out (fun h0 => by
          obtain ⟨ad, Af, cf, At, ct, Al, cl, Ar, cr, hA, _, _, hc0, _⟩ := chg_at (HL.out.below HS.out HXR.out) h0
          subst hA
          rw [kindsOf_zero h0]
          exact checkAll1_tells wr w.heap.size ad cs.length c _ h0 hzb hbx hc0))
        have HDB : Hid (cs.any (fun x => x.1 != kindsOf cs) = cs.any (difB (kindsOf cs))) := Lib.hid rfl
        clear hBr
        go_wp2_with fail
        refine HC.out.mono ?_
        rintro e w3 ⟨rfl, hb3⟩
        have HX4 := Lib.hid (HXW.out.trans (hb3.mono HXW.out.size))
        rw [HDB.out]
        clear hb3 HC
        cases hq : cs.any (difB (kindsOf cs)) with
        | true =>
          have HW : Hid (checksE cs = 7) := Lib.hid (by rw [HV2.out, hq]; rfl)
          clear hq
          go_wp2
          go_ret
          exact ⟨by rw [HW.out]; rfl, HX4.out⟩
        | false =>
          have HW : Hid (checksE cs = 0) := Lib.hid (by rw [HV2.out, hq]; rfl)
          clear hq
          go_wp2
          go_ret
          exact ⟨by rw [HW.out]; rfl, HX4.out⟩

set_option maxRecDepth 100000 in
set_option maxHeartbeats 2000000 in
theorem rCheckAll_any (S : Nat → Prop) (A : Option Addr) (c : Nat) (cs : List Chg) (w : World) (h : Sl rChg w S A c cs) (hS : ∀ b, S b → b < w.heap.size) (hn : ∀ x ∈ cs, x.2.2.2.1.length + x.2.2.2.2.length ≤ 4294967296) :
    Calls Try.prog 35 #[.slice A cs.length c] w fun e w' => e = .returned (.int .i64 (checksE cs)) ∧ Below w.heap.size w w' := by
  have hl := h.le
  have hm := h.max
  unfold maxLen at hm
  have HL := Lib.hid h
  have HS := Lib.hid hS
  have HN := Lib.hid hn
  have HQ : Hid (checksE cs = if 3 < cs.length then 7 else if firstE cs = 0 then (if cs.any (difB (kindsOf cs)) = true then 7 else 0) else firstE cs) := Lib.hid rfl
  clear h hS hn
  by_cases h3 : 3 < cs.length
  · have HV : Hid (checksE cs = 7) := Lib.hid (by rw [HQ.out, if_pos h3])
    have h3' : (3 : Int) < (cs.length : Int) := by omega
    go_enter Try.func35, Try.ntmps35
    go_wp2
    go_ret
    exact ⟨by rw [HV.out]; rfl, Below.refl _ _⟩
  · have h3' : (cs.length : Int) ≤ 3 := by omega
    have HV : Hid (checksE cs = if firstE cs = 0 then (if cs.any (difB (kindsOf cs)) = true then 7 else 0) else firstE cs) := Lib.hid (by rw [HQ.out, if_neg h3])
    clear h3 HQ
    go_enter Try.func35, Try.ntmps35
    go_wp2
    go_loopw [3, 4] (fun i _ wr => ∃ k : Nat, k ≤ cs.length ∧ i = .int .i64 (k : Int) ∧ Hid (firstE cs = firstE (cs.drop k)) ∧ Hid (Below w.heap.size w wr)) (fun i _ _ => cs.length - (intOf i).toNat)
    case atStart => exact ⟨0, by omega, rfl, Lib.hid rfl, Lib.hid (Below.refl _ _)⟩
    case round =>
      obtain ⟨k, hk, rfl, HF, HXR⟩ := hrel
      have hz3 := HXR.out.size
      have HSR := Lib.hid (in_below HS.out HXR.out)
      by_cases hlt : k < cs.length
      · obtain ⟨ad, Af, cf, At, ct, Al, cl, Ar, cr, hA, _, ⟨sf, st, sl, sr⟩, hc0, hc1, hc2, hc3, hc4, _⟩ := chg_at (HL.out.below HS.out HXR.out) hlt
        subst hA
        have hnx := HN.out _ (List.getElem_mem hlt)
        have HST := Lib.hid (firstE_step hlt)
        have HCE : Hid (changeE (cs[k]'hlt) = checkC (cs[k]'hlt).1 (cs[k]'hlt).2.1 (cs[k]'hlt).2.2.1 (cs[k]'hlt).2.2.2.1 (cs[k]'hlt).2.2.2.2) := Lib.hid rfl
        generalize cs[k]'hlt = x at *
        have HC := Lib.hid (rCheck_any S x.1 x.2.1 x.2.2.1 x.2.2.2.1 x.2.2.2.2 Af At Al Ar cf ct cl cr wr sf st sl sr HSR.out hnx)
        clear sf st sl sr hnx
        go_wp2_with fail
        refine HC.out.mono ?_
        rintro e w3 ⟨rfl, hb3⟩
        have HX4 : Hid (Below w.heap.size w w3) := Lib.hid (HXR.out.trans (hb3.mono hz3))
        rw [← HCE.out]
        clear hb3 HC
        generalize changeE x = E at *
        by_cases h0 : E = 0
        · subst h0
          have HF2 : Hid (firstE cs = firstE (cs.drop (k + 1))) := Lib.hid (by rw [HF.out, HST.out, if_pos rfl])
          go_wp2
          go_roundw
          case rel => exact ⟨k + 1, by omega, by go_num, HF2, HX4⟩
          case measure => simp [intOf]; omega
        · have h0' : (E != 0) = true := by simp [h0]
          have HW : Hid (checksE cs = E) := Lib.hid (by
            have : firstE cs = E := by rw [HF.out, HST.out, if_neg h0]
            rw [HV.out, this, if_neg h0])
          clear h0
          go_wp2
          go_ret
          exact ⟨by rw [HW.out]; rfl, HX4.out⟩
      · have HV2 : Hid (checksE cs = if cs.any (difB (kindsOf cs)) = true then 7 else 0) := Lib.hid (by
          have : firstE cs = 0 := by rw [HF.out, List.drop_eq_nil_iff.2 (by omega)]; rfl
          rw [HV.out, this, if_pos rfl])
        have HL2 := Lib.hid (HL.out.below HS.out HXR.out)
        obtain ⟨w2, hw2⟩ : ∃ w2, w2 = wr := ⟨_, rfl⟩
        subst hw2
        go_wp2
        go_loopw [5] (fun i wq => ∃ k n : Nat, k ≤ cs.length ∧ i = .int .i64 (k : Int) ∧ Hid ((cs.take k).any (difB (kindsOf cs)) = false) ∧ wq = w2.drewN n) (fun i _ => cs.length - (intOf i).toNat)
        case atStart => exact ⟨0, 0, by omega, rfl, Lib.hid (by simp), rfl⟩
        case round =>
          obtain ⟨j, n, hj, rfl, HN2, rfl⟩ := hrel
          by_cases hlt2 : j < cs.length
          · have h0 : 0 < cs.length := by omega
            obtain ⟨ad, Af, cf, At, ct, Al, cl, Ar, cr, hA, _, _, hc0, _⟩ := chg_at HL2.out hlt2
            obtain ⟨ad', _, _, _, _, _, _, _, _, hA', _, _, hd0, _⟩ := chg_at HL2.out h0
            subst hA
            obtain rfl : ad = ad' := by simpa using hA'
            replace hd0 : w2.cell? ad = some (.int .i64 (cs[0]'h0).1) := hd0
            rw [← kindsOf_zero h0] at hd0
            have HY := Lib.hid (fun h => any_next (p := difB (kindsOf cs)) HN2.out hlt2 h)
            have HH := Lib.hid (fun h => any_hit (p := difB (kindsOf cs)) hlt2 h)
            have HD : Hid (difB (kindsOf cs) (cs[j]'hlt2) = ((cs[j]'hlt2).1 != kindsOf cs)) := Lib.hid rfl
            have h0' : (0 : Int) < (cs.length : Int) := by omega
            clear hA'
            generalize cs[j]'hlt2 = x at *
            generalize kindsOf cs = K at *
            cases hq : (x.1 != K) with
            | true =>
              have HW : Hid (checksE cs = 7) := Lib.hid (by rw [HV2.out, HH.out (by rw [HD.out, hq])]; rfl)
              go_wp2
              go_quiet (fail)
              go_wp2
              go_ret
              exact ⟨by rw [HW.out]; rfl, by first | exact below_drewN HXR.out _ | exact below_drewN (below_drewN HXR.out _) _⟩
            | false =>
              have HQ2 := Lib.hid (HY.out (by rw [HD.out, hq]))
              go_wp2
              go_quiet (fail)
              go_wp2
              go_roundw
              case rel => exact ⟨j + 1, n + nq, by omega, by go_num, HQ2, by simp⟩
              case measure => simp [intOf]; omega
          · have HW : Hid (checksE cs = 0) := Lib.hid (by rw [HV2.out, any_none HN2.out (by omega)]; rfl)
            go_wp2
            go_ret
            exact ⟨by rw [HW.out]; rfl, below_drewN HXR.out _⟩

set_option maxRecDepth 100000 in
set_option maxHeartbeats 4000000 in
theorem sAll_any (S : Nat → Prop) (A Ai : Option Addr) (c ci : Nat) (cs : List Chg) (text : List Int) (w : World) (h : Sl rChg w S A c cs) (hin : Sl rInt w S Ai ci text) (hS : ∀ b, S b → b < w.heap.size) (hn : ∀ x ∈ cs, x.2.2.2.1.length + x.2.2.2.2.length ≤ 4294967296) :
    Calls Try.prog 13 #[.slice A cs.length c, .slice Ai text.length ci] w fun e w' =>
      (∃ A' c', e = .returned (.tuple #[.slice A' (allC cs text).2.length c', .int .i64 (allC cs text).1]) ∧ Sl rInt w' (fun b => b < w'.heap.size) A' c' (allC cs text).2) ∧ Below w.heap.size w w' := by
  have hl := h.le
  have hm := h.max
  have bi := hin.le; have bi' := hin.max
  unfold maxLen at hm bi'
  have HL := Lib.hid h
  have HI := Lib.hid hin
  have HS := Lib.hid hS
  have HA : Hid (allC cs text = if checksE cs = 0 then (if 60 < text.length then (2, []) else if text.any (outB (kindsOf cs)) = true then (3, []) else allL cs text) else (checksE cs, [])) := Lib.hid rfl
  have HOK : Hid (checksE cs = 0 → firstE cs = 0 ∧ cs.length ≤ 3) := Lib.hid (fun h => by
    unfold checksE at h
    split at h
    · omega
    split at h
    · exact ⟨by assumption, by omega⟩
    · rename_i h1 h2; exact absurd h h2)
  have HC := Lib.hid (checkAll_any S A c cs w h hS hn)
  clear h hin hS hn
  go_enter Try.func13, Try.ntmps13
  go_wp2_with fail
  refine HC.out.mono ?_
  rintro e w1 ⟨rfl, hb1⟩
  have HX1 := Lib.hid hb1
  clear hb1 HC
  generalize checksE cs = E at *
  by_cases h0 : E = 0
  · subst h0
    obtain ⟨hfirst, hlen⟩ := HOK.out rfl
    have HFI := Lib.hid (firstE_ok hfirst)
    have HA2 : Hid (allC cs text = if 60 < text.length then (2, []) else if text.any (outB (kindsOf cs)) = true then (3, []) else allL cs text) := Lib.hid (by rw [HA.out, if_pos rfl])
    clear hfirst HOK HA
    have HKZ := Lib.hid (@kindsOf_zero cs)
    have HKN : Hid (cs.length = 0 → kindsOf cs = 60) := Lib.hid (fun h => by rw [List.eq_nil_of_length_eq_zero h]; rfl)
    go_upto_if 17 with fail
    go_cut [7] (fun s wx => s = .int .i64 (kindsOf cs) ∧ w1 = wx)
    case first =>
      by_cases hz : 0 < cs.length
      · obtain ⟨ad, _, _, _, _, _, _, _, _, hA, _, _, hd0, _⟩ := chg_at (HL.out.below HS.out HX1.out) hz
        subst hA
        replace hd0 : w1.cell? ad = some (.int .i64 (cs[0]'hz).1) := hd0
        rw [← HKZ.out hz] at hd0
        have hz' : (0 : Int) < (cs.length : Int) := by omega
        go_wp2_with fail
        all_goals
          go_meet
          exact ⟨rfl, rfl⟩
      · have HK := Lib.hid (HKN.out (by omega))
        have hz' : ¬ (0 : Int) < (cs.length : Int) := by omega
        go_wp2_with fail
        all_goals
          go_meet
          exact ⟨by rw [HK.out], rfl⟩
    case rest =>
      obtain ⟨rfl, rfl⟩ := hcut
      clear HKZ HKN
      by_cases h60 : 60 < text.length
      · have HV : Hid (allC cs text = (2, [])) := Lib.hid (by rw [HA2.out, if_pos h60])
        have h60' : (60 : Int) < (text.length : Int) := by omega
        go_wp2
        go_ret2
        rw [HV.out]
        exact ⟨⟨none, 0, rfl, Sl.nil_⟩, HX1.out⟩
      · have h60' : (text.length : Int) ≤ 60 := by omega
        have HIT := Lib.hid (HI.out.below HS.out HX1.out)
        have HR1 := Lib.hid (right_any S Ai ci text (kindsOf cs) w1 HIT.out (in_below HS.out HX1.out))
        go_wp2_with fail
        refine HR1.out.mono ?_
        rintro e w2 ⟨rfl, hb2⟩
        have HX2 := Lib.hid (HX1.out.trans (hb2.mono HX1.out.size))
        clear hb2 HR1 HIT
        cases hq : text.any (outB (kindsOf cs)) with
        | true =>
          have HV : Hid (allC cs text = (3, [])) := Lib.hid (by rw [HA2.out, if_neg h60, hq]; rfl)
          clear hq
          go_wp2
          go_ret2
          rw [HV.out]
          exact ⟨⟨none, 0, rfl, Sl.nil_⟩, HX2.out⟩
        | false =>
          have HV : Hid (allC cs text = allL cs text) := Lib.hid (by rw [HA2.out, if_neg h60, hq]; rfl)
          clear hq h60 HA2
          have HCL := Lib.hid (cloneI_any S Ai ci text w2 (HI.out.below HS.out HX2.out) (in_below HS.out HX2.out) (by omega))
          have HMI := Lib.hid (HI.out.int_mem)
          go_wp2_with fail
          refine HCL.out.mono ?_
          rintro e w3 ⟨⟨v, rfl, hown⟩, hb3⟩
          obtain ⟨A3, c3, rfl⟩ := own_slice hown
          have HS3 : Hid (Sl rInt w3 (fun b => b < w3.heap.size) A3 c3 text) := Lib.hid (Sl.of_own (ρ := rInt) hown (I64s HMI.out) (own_lt hown))
          have HX3 := Lib.hid (HX2.out.trans (hb3.mono HX2.out.size))
          clear hown hb3 HCL
          have hm3 := HS3.out.max
          go_wp2
          go_loopw [1, 9, 33] (fun tx _ i wr => ∃ (k : Nat) (A4 : Option Addr) (c4 : Nat) (tl : List Int), k ≤ cs.length ∧ i = .int .i64 (k : Int) ∧ tx = .slice A4 tl.length c4 ∧ tl.length ≤ 100000 ∧ Hid (Sl rInt wr (fun b => b < wr.heap.size) A4 c4 tl) ∧ Hid (allL cs text = allL (cs.drop k) tl) ∧ Hid (Below w.heap.size w wr)) (fun _ _ i _ => cs.length - (intOf i).toNat)
          case atStart => exact ⟨0, A3, c3, text, by omega, rfl, rfl, by omega, HS3, Lib.hid rfl, HX3⟩
          case round =>
            obtain ⟨k, A4, c4, tl, hk, rfl, rfl, htl, HS4, HE, HXR⟩ := hrel
            have hz3 := HXR.out.size
            have b4 := HS4.out.le
            have b4' := HS4.out.max
            unfold maxLen at b4'
            by_cases hlt : k < cs.length
            · obtain ⟨ad, Af, cf, At, ct, Al, cl, Ar, cr, hA, _, ⟨sf, st, sl, sr⟩, hc0, hc1, hc2, hc3, hc4, _⟩ := chg_at (HL.out.below HS.out HXR.out) hlt
              subst hA
              have HST := Lib.hid (allL_step (t := tl) hlt)
              have hok := checkC_ok (HFI.out _ (List.getElem_mem hlt))
              obtain ⟨_, ⟨f1, f2⟩, t2, _, r1⟩ := hok
              have hup : ∀ b, S b → (fun b => b < wr.heap.size) b := in_below HS.out HXR.out
              have HCE : Hid (chg (cs[k]'hlt) tl = changeC (cs[k]'hlt).2.1 (cs[k]'hlt).2.2.1 (cs[k]'hlt).2.2.2.1 (cs[k]'hlt).2.2.2.2 tl) := Lib.hid rfl
              have HLN : Hid ((chg (cs[k]'hlt) tl).length ≤ 2 * tl.length) := Lib.hid (by
                rw [HCE.out]
                have := applyC_len (l := (cs[k]'hlt).2.2.2.1) (r := (cs[k]'hlt).2.2.2.2) f1 t2 tl.length [] tl
                simpa [changeC] using this)
              generalize cs[k]'hlt = x at *
              have hX3 : Below wr.heap.size wr (wr.alloc (.cells #[.int .i64 x.1, .slice Af x.2.1.length cf, .slice At x.2.2.1.length ct, .slice Al x.2.2.2.1.length cl, .slice Ar x.2.2.2.2.length cr] 25)) := (Below.refl _ _).alloc (Nat.le_refl _) _
              by_cases h6 : 60 < tl.length
              · have HW : Hid (allC cs text = (2, [])) := Lib.hid (by rw [HV.out, HE.out, HST.out, if_pos h6])
                have h6' : (60 : Int) < (tl.length : Int) := by omega
                have HZ := Lib.hid (HXR.out.trans (hX3.mono hz3))
                clear sf st sl sr hX3
                go_wp2
                go_ret2
                rw [HW.out]
                exact ⟨⟨none, 0, rfl, Sl.nil_⟩, HZ.out⟩
              · have h6' : (tl.length : Int) ≤ 60 := by omega
                have HC2 := Lib.hid (apply_any (fun b => b < wr.heap.size) x.1 x.2.1 x.2.2.1 x.2.2.2.1 x.2.2.2.2 Af At Al Ar cf ct cl cr tl A4 c4 _ ((sf.more hup).below (fun b h => h) hX3) ((st.more hup).below (fun b h => h) hX3) ((sl.more hup).below (fun b h => h) hX3) ((sr.more hup).below (fun b h => h) hX3) (HS4.out.below (fun b h => h) hX3) (in_below (fun b h => h) hX3) r1 f1 t2 htl)
                have HX3' := Lib.hid hX3
                clear sf st sl sr hX3 hup
                go_wp2_with fail
                refine HC2.out.mono ?_
                rintro e w5 ⟨⟨v5, rfl, hown, hm5⟩, hb5⟩
                rw [← HCE.out] at hown hm5
                obtain ⟨A5, c5, rfl⟩ := own_slice hown
                have HS5 : Hid (Sl rInt w5 (fun b => b < w5.heap.size) A5 c5 (chg x tl)) := Lib.hid (Sl.of_own (ρ := rInt) hown (I64s hm5) (own_lt hown))
                have HE5 : Hid (allL cs text = allL (cs.drop (k + 1)) (chg x tl)) := Lib.hid (by rw [HE.out, HST.out, if_neg h6])
                have HX5 : Hid (Below w.heap.size w w5) := Lib.hid (HXR.out.trans ((HX3'.out.trans (hb5.mono HX3'.out.size)).mono hz3))
                have hl5 := HLN.out
                clear hown hm5 hb5 HC2 HX3' h6
                go_wp2
                refine ⟨⟨k + 1, A5, c5, chg x tl, by omega, by go_num, rfl, by omega, HS5, HE5, HX5⟩, by simp [intOf]; omega⟩
            · have HW : Hid (allC cs text = (0, tl)) := Lib.hid (by rw [HV.out, HE.out, List.drop_eq_nil_iff.2 (by omega)]; rfl)
              go_wp2
              go_ret2
              rw [HW.out]
              exact ⟨⟨A4, c4, rfl, HS4.out⟩, HXR.out⟩
  · have h0' : (E != 0) = true := by simp [h0]
    have HV : Hid (allC cs text = (E, [])) := Lib.hid (by rw [HA.out, if_neg h0])
    clear h0
    go_wp2
    go_ret2
    rw [HV.out]
    exact ⟨⟨none, 0, rfl, Sl.nil_⟩, HX1.out⟩

set_option maxRecDepth 100000 in
set_option maxHeartbeats 4000000 in
theorem rAll_any (S : Nat → Prop) (A Ai : Option Addr) (c ci : Nat) (cs : List Chg) (text : List Int) (w : World) (h : Sl rChg w S A c cs) (hin : Sl rInt w S Ai ci text) (hS : ∀ b, S b → b < w.heap.size) (hn : ∀ x ∈ cs, x.2.2.2.1.length + x.2.2.2.2.length ≤ 4294967296) :
    Calls Try.prog 14 #[.slice A cs.length c, .slice Ai text.length ci] w fun e w' =>
      (∃ A' c', e = .returned (.tuple #[.slice A' (allC cs text).2.length c', .int .i64 (allC cs text).1]) ∧ Sl rInt w' (fun b => b < w'.heap.size) A' c' (allC cs text).2) ∧ Below w.heap.size w w' := by
  have hl := h.le
  have hm := h.max
  have bi := hin.le; have bi' := hin.max
  unfold maxLen at hm bi'
  have HL := Lib.hid h
  have HI := Lib.hid hin
  have HS := Lib.hid hS
  have HA : Hid (allC cs text = if checksE cs = 0 then (if 60 < text.length then (2, []) else if text.any (outB (kindsOf cs)) = true then (3, []) else allL cs text) else (checksE cs, [])) := Lib.hid rfl
  have HOK : Hid (checksE cs = 0 → firstE cs = 0 ∧ cs.length ≤ 3) := Lib.hid (fun h => by
    unfold checksE at h
    split at h
    · omega
    split at h
    · exact ⟨by assumption, by omega⟩
    · rename_i h1 h2; exact absurd h h2)
  have HC := Lib.hid (rCheckAll_any S A c cs w h hS hn)
  clear h hin hS hn
  go_enter Try.func14, Try.ntmps14
  go_wp2_with fail
  refine HC.out.mono ?_
  rintro e w1 ⟨rfl, hb1⟩
  have HX1 := Lib.hid hb1
  clear hb1 HC
  generalize checksE cs = E at *
  by_cases h0 : E = 0
  · subst h0
    obtain ⟨hfirst, hlen⟩ := HOK.out rfl
    have HFI := Lib.hid (firstE_ok hfirst)
    have HA2 : Hid (allC cs text = if 60 < text.length then (2, []) else if text.any (outB (kindsOf cs)) = true then (3, []) else allL cs text) := Lib.hid (by rw [HA.out, if_pos rfl])
    clear hfirst HOK HA
    have HKZ := Lib.hid (@kindsOf_zero cs)
    have HKN : Hid (cs.length = 0 → kindsOf cs = 60) := Lib.hid (fun h => by rw [List.eq_nil_of_length_eq_zero h]; rfl)
    go_upto_if 16 with fail
    go_cut [7] (fun s wx => s = .int .i64 (kindsOf cs) ∧ w1 = wx)
    case first =>
      by_cases hz : 0 < cs.length
      · obtain ⟨ad, _, _, _, _, _, _, _, _, hA, _, _, hd0, _⟩ := chg_at (HL.out.below HS.out HX1.out) hz
        subst hA
        replace hd0 : w1.cell? ad = some (.int .i64 (cs[0]'hz).1) := hd0
        rw [← HKZ.out hz] at hd0
        have hz' : (0 : Int) < (cs.length : Int) := by omega
        go_wp2_with fail
        all_goals
          go_meet
          exact ⟨rfl, rfl⟩
      · have HK := Lib.hid (HKN.out (by omega))
        have hz' : ¬ (0 : Int) < (cs.length : Int) := by omega
        go_wp2_with fail
        all_goals
          go_meet
          exact ⟨by rw [HK.out], rfl⟩
    case rest =>
      obtain ⟨rfl, rfl⟩ := hcut
      clear HKZ HKN
      by_cases h60 : 60 < text.length
      · have HV : Hid (allC cs text = (2, [])) := Lib.hid (by rw [HA2.out, if_pos h60])
        have h60' : (60 : Int) < (text.length : Int) := by omega
        go_wp2
        go_ret2
        rw [HV.out]
        exact ⟨⟨none, 0, rfl, Sl.nil_⟩, HX1.out⟩
      · have h60' : (text.length : Int) ≤ 60 := by omega
        have HIT := Lib.hid (HI.out.below HS.out HX1.out)
        have HR1 := Lib.hid (within_any S Ai ci text (kindsOf cs) w1 HIT.out)
        obtain ⟨w2, rfl⟩ : ∃ w2, w2 = w1 := ⟨_, rfl⟩
        have HX2 := HX1
        go_wp2_with fail
        refine HR1.out.mono ?_
        rintro e w2 ⟨rfl, rfl⟩
        clear HR1 HIT
        cases hq : text.any (outB (kindsOf cs)) with
        | true =>
          have HV : Hid (allC cs text = (3, [])) := Lib.hid (by rw [HA2.out, if_neg h60, hq]; rfl)
          clear hq
          go_wp2
          go_ret2
          rw [HV.out]
          exact ⟨⟨none, 0, rfl, Sl.nil_⟩, HX2.out⟩
        | false =>
          have HV : Hid (allC cs text = allL cs text) := Lib.hid (by rw [HA2.out, if_neg h60, hq]; rfl)
          clear hq h60 HA2
          have HS3 : Hid (Sl rInt w2 (fun b => b < w2.heap.size) Ai ci text) := Lib.hid ((HI.out.below HS.out HX2.out).more (in_below HS.out HX2.out))
          have HX3 := HX2
          obtain ⟨w3, rfl⟩ : ∃ w3, w3 = w2 := ⟨_, rfl⟩
          obtain ⟨A3, hA3⟩ : ∃ A3, A3 = Ai := ⟨_, rfl⟩
          subst hA3
          obtain ⟨c3, hc3⟩ : ∃ c3, c3 = ci := ⟨_, rfl⟩
          subst hc3
          have hm3 := HS3.out.max
          go_wp2
          go_loopw [1, 8] (fun tx i wr => ∃ (k : Nat) (A4 : Option Addr) (c4 : Nat) (tl : List Int), k ≤ cs.length ∧ i = .int .i64 (k : Int) ∧ tx = .slice A4 tl.length c4 ∧ tl.length ≤ 100000 ∧ Hid (Sl rInt wr (fun b => b < wr.heap.size) A4 c4 tl) ∧ Hid (allL cs text = allL (cs.drop k) tl) ∧ Hid (Below w.heap.size w wr)) (fun _ i _ => cs.length - (intOf i).toNat)
          case atStart => exact ⟨0, A3, c3, text, by omega, rfl, rfl, by omega, HS3, Lib.hid rfl, HX3⟩
          case round =>
            obtain ⟨k, A4, c4, tl, hk, rfl, rfl, htl, HS4, HE, HXR⟩ := hrel
            have hz3 := HXR.out.size
            have b4 := HS4.out.le
            have b4' := HS4.out.max
            unfold maxLen at b4'
            by_cases hlt : k < cs.length
            · obtain ⟨ad, Af, cf, At, ct, Al, cl, Ar, cr, hA, _, ⟨sf, st, sl, sr⟩, hc0, hc1, hc2, hc3, hc4, _⟩ := chg_at (HL.out.below HS.out HXR.out) hlt
              subst hA
              have HST := Lib.hid (allL_step (t := tl) hlt)
              have hok := checkC_ok (HFI.out _ (List.getElem_mem hlt))
              obtain ⟨_, ⟨f1, f2⟩, t2, _, r1⟩ := hok
              have hup : ∀ b, S b → (fun b => b < wr.heap.size) b := in_below HS.out HXR.out
              have HCE : Hid (chg (cs[k]'hlt) tl = changeC (cs[k]'hlt).2.1 (cs[k]'hlt).2.2.1 (cs[k]'hlt).2.2.2.1 (cs[k]'hlt).2.2.2.2 tl) := Lib.hid rfl
              have HLN : Hid ((chg (cs[k]'hlt) tl).length ≤ 2 * tl.length) := Lib.hid (by
                rw [HCE.out]
                have := applyC_len (l := (cs[k]'hlt).2.2.2.1) (r := (cs[k]'hlt).2.2.2.2) f1 t2 tl.length [] tl
                simpa [changeC] using this)
              generalize cs[k]'hlt = x at *
              by_cases h6 : 60 < tl.length
              · have HW : Hid (allC cs text = (2, [])) := Lib.hid (by rw [HV.out, HE.out, HST.out, if_pos h6])
                have h6' : (60 : Int) < (tl.length : Int) := by omega
                clear sf st sl sr
                go_wp2
                go_ret2
                rw [HW.out]
                exact ⟨⟨none, 0, rfl, Sl.nil_⟩, HXR.out⟩
              · have h6' : (tl.length : Int) ≤ 60 := by omega
                have HC2 := Lib.hid (rChange_any (fun b => b < wr.heap.size) x.1 x.2.1 x.2.2.1 x.2.2.2.1 x.2.2.2.2 Af At Al Ar cf ct cl cr tl A4 c4 wr (sf.more hup) (st.more hup) (sl.more hup) (sr.more hup) HS4.out (fun b h => h) r1 f1 (by omega) t2 htl)
                clear sf st sl sr hup
                go_wp2_with fail
                refine HC2.out.mono ?_
                rintro e w5 ⟨⟨v5, rfl, hown, hm5⟩, hb5⟩
                rw [← HCE.out] at hown hm5
                obtain ⟨A5, c5, rfl⟩ := own_slice hown
                have HS5 : Hid (Sl rInt w5 (fun b => b < w5.heap.size) A5 c5 (chg x tl)) := Lib.hid (Sl.of_own (ρ := rInt) hown (I64s hm5) (own_lt hown))
                have HE5 : Hid (allL cs text = allL (cs.drop (k + 1)) (chg x tl)) := Lib.hid (by rw [HE.out, HST.out, if_neg h6])
                have HX5 : Hid (Below w.heap.size w w5) := Lib.hid (HXR.out.trans (hb5.mono hz3))
                have hl5 := HLN.out
                clear hown hm5 hb5 HC2 h6
                go_wp2
                refine ⟨⟨k + 1, A5, c5, chg x tl, by omega, by go_num, rfl, by omega, HS5, HE5, HX5⟩, by simp [intOf]; omega⟩
            · have HW : Hid (allC cs text = (0, tl)) := Lib.hid (by rw [HV.out, HE.out, List.drop_eq_nil_iff.2 (by omega)]; rfl)
              go_wp2
              go_ret2
              rw [HW.out]
              exact ⟨⟨A4, c4, rfl, HS4.out⟩, HXR.out⟩
  · have h0' : (E != 0) = true := by simp [h0]
    have HV : Hid (allC cs text = (E, [])) := Lib.hid (by rw [HA.out, if_neg h0])
    clear h0
    go_wp2
    go_ret2
    rw [HV.out]
    exact ⟨⟨none, 0, rfl, Sl.nil_⟩, HX1.out⟩
end Go.Proofs.Ytaidkboijjkbgaa
