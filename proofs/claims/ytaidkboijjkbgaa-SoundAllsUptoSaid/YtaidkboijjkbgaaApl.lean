/- The walks of sound.Apply and R.Apply. -/
import Derived.Test.YtaidkboijjkbgaaRCh
namespace Go.Proofs.Ytaidkboijjkbgaa
open Go.RowKit

def applyE (ks : Int) (f t : List Int) (l r : List (List Int × Bool)) (text : List Int) : Int := if checkC ks f t l r ≠ 0 then checkC ks f t l r else if 60 < text.length then 2 else if text.any (outB ks) = true then 3 else 0
def applyR (ks : Int) (f t : List Int) (l r : List (List Int × Bool)) (text : List Int) : List Int := if applyE ks f t l r text = 0 then changeC f t l r text else []
theorem checkC_ok {ks : Int} {f t : List Int} {l r : List (List Int × Bool)} (h : checkC ks f t l r = 0) : (1 ≤ ks ∧ ks ≤ 4) ∧ (1 ≤ f.length ∧ f.length ≤ 2) ∧ t.length ≤ 2 ∧ l.length ≤ 2 ∧ r.length ≤ 1 := by
  unfold checkC at h
  split at h
  · omega
  split at h
  · omega
  rename_i h1 h2
  simp only [Bool.or_eq_true, not_or] at h2
  have h3 := h2.1
  unfold lensB at h3
  simp only [Bool.or_eq_true, decide_eq_true_eq] at h3
  omega

set_option maxRecDepth 100000 in
set_option maxHeartbeats 2000000 in
theorem sApply_any (S : Nat → Prop) (ks : Int) (f t : List Int) (l r : List (List Int × Bool)) (Af At Al Ar : Option Addr) (cf ct cl cr : Nat) (text : List Int) (Ai : Option Addr) (ci : Nat) (w : World) (hf : Sl rInt w S Af cf f) (ht : Sl rInt w S At ct t) (hl : Sl rSpot w S Al cl l) (hr : Sl rSpot w S Ar cr r)
    (hin : Sl rInt w S Ai ci text) (hS : ∀ b, S b → b < w.heap.size) (hn : l.length + r.length ≤ 4294967296) :
    Calls Try.prog 7 #[.agg #[.int .i64 ks, .slice Af f.length cf, .slice At t.length ct, .slice Al l.length cl, .slice Ar r.length cr], .slice Ai text.length ci] w fun e w' =>
      (∃ v, e = .returned (.tuple #[v, .int .i64 (applyE ks f t l r text)]) ∧ w'.ownsRow w.heap.size 3 1 v (applyR ks f t l r text).length (ints (applyR ks f t l r text)) ∧ ∀ x ∈ applyR ks f t l r text, I64 x) ∧ Below w.heap.size w w' := by
  have bi := hin.le; have bi' := hin.max
  unfold maxLen at bi'
  have hX : Below w.heap.size w (w.alloc (.cells #[.int .i64 ks, .slice Af f.length cf, .slice At t.length ct, .slice Al l.length cl, .slice Ar r.length cr] 25)) := (Below.refl _ _).alloc (Nat.le_refl _) _
  have hB : Blk (w.alloc (.cells #[.int .i64 ks, .slice Af f.length cf, .slice At t.length ct, .slice Al l.length cl, .slice Ar r.length cr] 25)) w.heap.size 25 #[.int .i64 ks, .slice Af f.length cf, .slice At t.length ct, .slice Al l.length cl, .slice Ar r.length cr] := Blk.new _ _ _
  have HC := Lib.hid (check_any S ks f t l r Af At Al Ar cf ct cl cr _ (hf.below hS hX) (ht.below hS hX) (hl.below hS hX) (hr.below hS hX) (in_below hS hX) hn)
  have HF := Lib.hid hf; have HT := Lib.hid ht; have HL := Lib.hid hl; have HR := Lib.hid hr; have HI := Lib.hid hin
  have HS := Lib.hid hS
  have HX := Lib.hid hX
  have HB := Lib.hid hB
  have HE : Hid (applyE ks f t l r text = if checkC ks f t l r ≠ 0 then checkC ks f t l r else if 60 < text.length then 2 else if text.any (outB ks) = true then 3 else 0) := Lib.hid rfl
  have HA : Hid (applyR ks f t l r text = if applyE ks f t l r text = 0 then changeC f t l r text else []) := Lib.hid rfl
  have HOK := Lib.hid (@checkC_ok ks f t l r)
  clear hf ht hl hr hin hS hX hB
  go_enter Try.func7, Try.ntmps7
  go_wp2_with fail
  refine HC.out.mono ?_
  rintro e w1 ⟨rfl, hb⟩
  have hB1 := HB.out.below hb HB.out.lt
  have HX1 := Lib.hid (HX.out.trans (hb.mono HX.out.size))
  obtain ⟨e0, e1, e2, e3, e4⟩ := blk5 hB1
  have HB1 := Lib.hid hB1
  clear hb hB1 HC HB HX
  generalize checkC ks f t l r = E at *
  by_cases h0 : E = 0
  · subst h0
    obtain ⟨⟨k1, k2⟩, ⟨f1, f2⟩, t2, l2, r1⟩ := HOK.out rfl
    have HE2 : Hid (applyE ks f t l r text = if 60 < text.length then 2 else if text.any (outB ks) = true then 3 else 0) := Lib.hid (by rw [HE.out, if_neg (by simp)])
    clear HE HOK
    by_cases h60 : 60 < text.length
    · have HV : Hid (applyE ks f t l r text = 2) := Lib.hid (by rw [HE2.out, if_pos h60])
      have HW : Hid (applyR ks f t l r text = []) := Lib.hid (by rw [HA.out, HV.out, if_neg (by decide)])
      have h60' : (60 : Int) < (text.length : Int) := by omega
      go_wp2
      go_ret2
      rw [HV.out, HW.out]
      exact ⟨⟨_, rfl, ownsRow_none _ _ _ _, by simp⟩, HX1.out⟩
    · have h60' : (text.length : Int) ≤ 60 := by omega
      have HR1 := Lib.hid (right_any S Ai ci text ks w1 (HI.out.below HS.out HX1.out) (in_below HS.out HX1.out))
      go_wp2_with fail
      refine HR1.out.mono ?_
      rintro e w2 ⟨rfl, hb2⟩
      have hX2 := HX1.out.trans (hb2.mono HX1.out.size)
      have hB2 := HB1.out.below hb2 HB1.out.lt
      clear e0 e1 e2 e3 e4
      obtain ⟨e0, e1, e2, e3, e4⟩ := blk5 hB2
      have HX2 := Lib.hid hX2
      clear hb2 hX2 hB2 HB1 HR1
      cases hq : text.any (outB ks) with
      | true =>
        have HV : Hid (applyE ks f t l r text = 3) := Lib.hid (by rw [HE2.out, if_neg h60, hq]; rfl)
        have HW : Hid (applyR ks f t l r text = []) := Lib.hid (by rw [HA.out, HV.out, if_neg (by decide)])
        clear hq
        go_wp2
        go_ret2
        rw [HV.out, HW.out]
        exact ⟨⟨_, rfl, ownsRow_none _ _ _ _, by simp⟩, HX2.out⟩
      | false =>
        have HV : Hid (applyE ks f t l r text = 0) := Lib.hid (by rw [HE2.out, if_neg h60, hq]; rfl)
        have HW : Hid (applyR ks f t l r text = changeC f t l r text) := Lib.hid (by rw [HA.out, HV.out, if_pos rfl])
        have HAP := Lib.hid (apply_any S ks f t l r Af At Al Ar cf ct cl cr text Ai ci w2 (HF.out.below HS.out HX2.out) (HT.out.below HS.out HX2.out) (HL.out.below HS.out HX2.out) (HR.out.below HS.out HX2.out) (HI.out.below HS.out HX2.out) (in_below HS.out HX2.out) r1 f1 t2 (by omega))
        clear hq h60
        go_wp2_with fail
        refine HAP.out.mono ?_
        rintro e w3 ⟨⟨v, rfl, hown, hm⟩, hb3⟩
        have HO := Lib.hid (own_base hown HX2.out.size)
        have HM := Lib.hid hm
        have HX3 := Lib.hid (HX2.out.trans (hb3.mono HX2.out.size))
        clear hown hm hb3 HAP
        go_wp2
        go_ret2
        rw [HV.out, HW.out]
        exact ⟨⟨_, rfl, HO.out, HM.out⟩, HX3.out⟩
  · have h0' : (E != 0) = true := by simp [h0]
    have HV : Hid (applyE ks f t l r text = E) := Lib.hid (by rw [HE.out, if_pos h0])
    have HW : Hid (applyR ks f t l r text = []) := Lib.hid (by rw [HA.out, HV.out, if_neg h0])
    clear h0
    go_wp2
    go_ret2
    rw [HV.out, HW.out]
    exact ⟨⟨_, rfl, ownsRow_none _ _ _ _, by simp⟩, HX1.out⟩

set_option maxRecDepth 100000 in
set_option maxHeartbeats 2000000 in
theorem rApply_any (S : Nat → Prop) (ks : Int) (f t : List Int) (l r : List (List Int × Bool)) (Af At Al Ar : Option Addr) (cf ct cl cr : Nat) (text : List Int) (Ai : Option Addr) (ci : Nat) (w : World) (hf : Sl rInt w S Af cf f) (ht : Sl rInt w S At ct t) (hl : Sl rSpot w S Al cl l) (hr : Sl rSpot w S Ar cr r)
    (hin : Sl rInt w S Ai ci text) (hS : ∀ b, S b → b < w.heap.size) (hn : l.length + r.length ≤ 4294967296) :
    Calls Try.prog 8 #[.agg #[.int .i64 ks, .slice Af f.length cf, .slice At t.length ct, .slice Al l.length cl, .slice Ar r.length cr], .slice Ai text.length ci] w fun e w' =>
      (∃ v, e = .returned (.tuple #[v, .int .i64 (applyE ks f t l r text)]) ∧ w'.ownsRow w.heap.size 3 1 v (applyR ks f t l r text).length (ints (applyR ks f t l r text)) ∧ ∀ x ∈ applyR ks f t l r text, I64 x) ∧ Below w.heap.size w w' := by
  have bi := hin.le; have bi' := hin.max
  unfold maxLen at bi'
  have hX : Below w.heap.size w (w.alloc (.cells #[.int .i64 ks, .slice Af f.length cf, .slice At t.length ct, .slice Al l.length cl, .slice Ar r.length cr] 25)) := (Below.refl _ _).alloc (Nat.le_refl _) _
  have hB : Blk (w.alloc (.cells #[.int .i64 ks, .slice Af f.length cf, .slice At t.length ct, .slice Al l.length cl, .slice Ar r.length cr] 25)) w.heap.size 25 #[.int .i64 ks, .slice Af f.length cf, .slice At t.length ct, .slice Al l.length cl, .slice Ar r.length cr] := Blk.new _ _ _
  have HC := Lib.hid (rCheck_any S ks f t l r Af At Al Ar cf ct cl cr _ (hf.below hS hX) (ht.below hS hX) (hl.below hS hX) (hr.below hS hX) (in_below hS hX) hn)
  have HF := Lib.hid hf; have HT := Lib.hid ht; have HL := Lib.hid hl; have HR := Lib.hid hr; have HI := Lib.hid hin
  have HS := Lib.hid hS
  have HX := Lib.hid hX
  have HB := Lib.hid hB
  have HE : Hid (applyE ks f t l r text = if checkC ks f t l r ≠ 0 then checkC ks f t l r else if 60 < text.length then 2 else if text.any (outB ks) = true then 3 else 0) := Lib.hid rfl
  have HA : Hid (applyR ks f t l r text = if applyE ks f t l r text = 0 then changeC f t l r text else []) := Lib.hid rfl
  have HOK := Lib.hid (@checkC_ok ks f t l r)
  clear hf ht hl hr hin hS hX hB
  go_enter Try.func8, Try.ntmps8
  go_wp2_with fail
  refine HC.out.mono ?_
  rintro e w1 ⟨rfl, hb⟩
  have hB1 := HB.out.below hb HB.out.lt
  have HX1 := Lib.hid (HX.out.trans (hb.mono HX.out.size))
  obtain ⟨e0, e1, e2, e3, e4⟩ := blk5 hB1
  clear hb hB1 HC HB HX
  generalize checkC ks f t l r = E at *
  by_cases h0 : E = 0
  · subst h0
    obtain ⟨⟨k1, k2⟩, ⟨f1, f2⟩, t2, l2, r1⟩ := HOK.out rfl
    have HE2 : Hid (applyE ks f t l r text = if 60 < text.length then 2 else if text.any (outB ks) = true then 3 else 0) := Lib.hid (by rw [HE.out, if_neg (by simp)])
    clear HE HOK
    by_cases h60 : 60 < text.length
    · have HV : Hid (applyE ks f t l r text = 2) := Lib.hid (by rw [HE2.out, if_pos h60])
      have HW : Hid (applyR ks f t l r text = []) := Lib.hid (by rw [HA.out, HV.out, if_neg (by decide)])
      have h60' : (60 : Int) < (text.length : Int) := by omega
      go_wp2
      go_ret2
      rw [HV.out, HW.out]
      exact ⟨⟨_, rfl, ownsRow_none _ _ _ _, by simp⟩, HX1.out⟩
    · have h60' : (text.length : Int) ≤ 60 := by omega
      have HR1 := Lib.hid (within_any S Ai ci text ks w1 (HI.out.below HS.out HX1.out))
      go_wp2_with fail
      refine HR1.out.mono ?_
      rintro e w2 ⟨rfl, rfl⟩
      clear HR1
      cases hq : text.any (outB ks) with
      | true =>
        have HV : Hid (applyE ks f t l r text = 3) := Lib.hid (by rw [HE2.out, if_neg h60, hq]; rfl)
        have HW : Hid (applyR ks f t l r text = []) := Lib.hid (by rw [HA.out, HV.out, if_neg (by decide)])
        clear hq
        go_wp2
        go_ret2
        rw [HV.out, HW.out]
        exact ⟨⟨_, rfl, ownsRow_none _ _ _ _, by simp⟩, HX1.out⟩
      | false =>
        have HV : Hid (applyE ks f t l r text = 0) := Lib.hid (by rw [HE2.out, if_neg h60, hq]; rfl)
        have HW : Hid (applyR ks f t l r text = changeC f t l r text) := Lib.hid (by rw [HA.out, HV.out, if_pos rfl])
        have HAP := Lib.hid (rChange_any S ks f t l r Af At Al Ar cf ct cl cr text Ai ci w1 (HF.out.below HS.out HX1.out) (HT.out.below HS.out HX1.out) (HL.out.below HS.out HX1.out) (HR.out.below HS.out HX1.out) (HI.out.below HS.out HX1.out) (in_below HS.out HX1.out) r1 f1 (by omega) t2 (by omega))
        clear hq h60
        go_wp2_with fail
        refine HAP.out.mono ?_
        rintro e w3 ⟨⟨v, rfl, hown, hm⟩, hb3⟩
        have HO := Lib.hid (own_base hown HX1.out.size)
        have HM := Lib.hid hm
        have HX3 := Lib.hid (HX1.out.trans (hb3.mono HX1.out.size))
        clear hown hm hb3 HAP
        go_wp2
        go_ret2
        rw [HV.out, HW.out]
        exact ⟨⟨_, rfl, HO.out, HM.out⟩, HX3.out⟩
  · have h0' : (E != 0) = true := by simp [h0]
    have h0'' : (E == 0) = false := by simp [h0]
    have HV : Hid (applyE ks f t l r text = E) := Lib.hid (by rw [HE.out, if_pos h0])
    have HW : Hid (applyR ks f t l r text = []) := Lib.hid (by rw [HA.out, HV.out, if_neg h0])
    clear h0
    go_wp2
    go_ret2
    rw [HV.out, HW.out]
    exact ⟨⟨_, rfl, ownsRow_none _ _ _ _, by simp⟩, HX1.out⟩
end Go.Proofs.Ytaidkboijjkbgaa
