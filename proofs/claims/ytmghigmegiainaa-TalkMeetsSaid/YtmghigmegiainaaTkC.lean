/- Walks: Say, of the program and of the reference. -/
import Derived.Test.YtmghigmegiainaaTkB
namespace Go.Proofs.Ytmghigmegiainaa
open Go.RowKit

theorem verAt_at {es : List Ent} {i : Nat} (hi : i < es.length) : verAt es i = (es[i]'hi).t.ver := by
  unfold verAt; rw [List.getElem?_eq_getElem hi]; rfl
theorem Slots.seven (w : World) {et gs c : Nat} {es : List Ent} (h : Slots w et gs c es) {i : Nat} (hi : i < es.length) :
    w.cell? ⟨gs, i * 7, none⟩ = some (.int .i64 (es[i]'hi).t.slot) ∧ w.cell? ⟨gs, i * 7 + 1, none⟩ = some (.int .i64 (es[i]'hi).t.ver) ∧ w.cell? ⟨gs, i * 7 + 2, none⟩ = some (.int .i64 (es[i]'hi).t.who) ∧
    w.cell? ⟨gs, i * 7 + 3, none⟩ = some (.string (es[i]'hi).t.val) ∧ w.cell? ⟨gs, i * 7 + 4, none⟩ = some (.bool (es[i]'hi).t.opn) ∧ w.cell? ⟨gs, i * 7 + 5, none⟩ = some (.bool (es[i]'hi).known) ∧ w.cell? ⟨gs, i * 7 + 6, none⟩ = some (.bool (es[i]'hi).owed) :=
  ⟨h.at_ hi 0 _ rfl, h.at_ hi 1 _ rfl, h.at_ hi 2 _ rfl, h.at_ hi 3 _ rfl, h.at_ hi 4 _ rfl, h.at_ hi 5 _ rfl, h.at_ hi 6 _ rfl⟩
theorem blk2 {w : World} {g t : Nat} {a b : Value} (h : Blk w g t #[a, b]) : w.cell? ⟨g, 0, none⟩ = some a ∧ w.cell? ⟨g, 1, none⟩ = some b := by
  refine ⟨?_, ?_⟩ <;> rw [h.cell] <;> rfl

theorem grown_set7 {a w : World} {g : Nat} (h : a.grownBy w (some g)) (n0 n1 n2 n3 n4 n5 n6 : Nat) (v0 v1 v2 v3 v4 v5 v6 : Value) :
    a.grownBy (((((((w.setCell ⟨g, n0, none⟩ v0).setCell ⟨g, n1, none⟩ v1).setCell ⟨g, n2, none⟩ v2).setCell ⟨g, n3, none⟩ v3).setCell ⟨g, n4, none⟩ v4).setCell ⟨g, n5, none⟩ v5).setCell ⟨g, n6, none⟩ v6) (some g) :=
  only_setCell (only_setCell (only_setCell (only_setCell (only_setCell (only_setCell (only_setCell h (.inl rfl) _) (.inl rfl) _) (.inl rfl) _) (.inl rfl) _) (.inl rfl) _) (.inl rfl) _) (.inl rfl) _

set_option maxHeartbeats 2000000 in
theorem say_any (g gs c : Nat) (who : Int) (es : List Ent) (slot : Int) (v : ByteArray) (w : World) (h : Tk w 54 56 g gs c who es) (hok : EsOk es) (hw : I64 who) (hi : I64 slot) (hv : v.size ≤ maxLen) (hlen : es.length ≤ 20) :
    Calls Try.prog 9 #[.pointer (some ⟨g, 0, none⟩), .int .i64 slot, .string v] w fun e w' => e = .returned (.int .i64 (sayE es slot v)) ∧ w.grownBy w' (some gs) ∧ Slots w' 56 gs c (sayS who es slot v) := by
  obtain ⟨c0, c1⟩ := blk2 h.head
  have hle := h.row.le
  unfold maxLen at hle hv
  have HT := Lib.hid h
  have HE : Hid (sayE es slot v = if slot < 0 ∨ (es.length : Int) ≤ slot then 5 else if 100 < v.size then 2 else if verAt es slot.toNat = 1000000 then 7 else 0) := Lib.hid rfl
  have HSS : Hid (sayS who es slot v = if sayE es slot v = 0 then es.set slot.toNat ⟨⟨slot, verAt es slot.toNat + 1, who, v, false⟩, false, false⟩ else es) := Lib.hid rfl
  generalize sayE es slot v = er at *
  generalize sayS who es slot v = es' at *
  clear h
  go_enter Try.func9, Try.ntmps9
  by_cases h1 : slot < 0
  · have HE1 : Hid (er = 5) := Lib.hid (by rw [HE.out]; simp [h1])
    go_wp2
    go_ret
    refine ⟨by rw [HE1.out]; rfl, only_of_below (Below.refl _ _) _, by rw [HSS.out, HE1.out]; exact HT.out.row⟩
  · by_cases h2 : (es.length : Int) ≤ slot
    · have HE1 : Hid (er = 5) := Lib.hid (by rw [HE.out]; simp [h2])
      go_wp2
      go_ret
      refine ⟨by rw [HE1.out]; rfl, only_of_below (Below.refl _ _) _, by rw [HSS.out, HE1.out]; exact HT.out.row⟩
    · by_cases h3 : 100 < v.size
      · have HE1 : Hid (er = 2) := Lib.hid (by rw [HE.out]; simp [h1, h2, h3])
        go_wp2
        go_ret
        refine ⟨by rw [HE1.out]; rfl, only_of_below (Below.refl _ _) _, by rw [HSS.out, HE1.out]; exact HT.out.row⟩
      · obtain ⟨k, rfl⟩ : ∃ k : Nat, slot = k := ⟨slot.toNat, by omega⟩
        have hk : k < es.length := by omega
        obtain ⟨d0, d1, d2, d3, d4, d5, d6⟩ := HT.out.row.seven _ hk
        have HV := Lib.hid (verAt_at hk)
        have HK := Lib.hid (hok k _ (List.getElem?_eq_getElem hk))
        generalize hx : es[k]'hk = x at *
        have hb1 := HK.out.2.1
        have hb2 := HK.out.2.2.1
        by_cases h4 : x.t.ver = 1000000
        · have HE1 : Hid (er = 7) := Lib.hid (by rw [HE.out]; simp [h1, h2, h3, HV.out, h4])
          go_wp2
          go_ret
          refine ⟨by rw [HE1.out]; rfl, only_of_below (Below.refl _ _) _, by rw [HSS.out, HE1.out]; exact HT.out.row⟩
        · go_wp2
          refine wp_region_still_tail 24 (by kernel_rfl) (by kernel_rfl) ?_
          simp only [List.take_succ_cons, List.take_zero, List.drop_succ_cons, List.drop_zero]
          repeat still_step
          refine wpStill_nil ?_
          change wpList _ _ _ _ _ w.drew
          have hb2 : Below w.heap.size w w.drew := (Below.refl _ _).drew
          generalize w.drew = w2 at *
          have hR := HT.out.row.below hb2
          have f0 := hR.frozen (k * 7)
          have f1 := hR.frozen (k * 7 + 1)
          have f2 := hR.frozen (k * 7 + 2)
          have f3 := hR.frozen (k * 7 + 3)
          have f4 := hR.frozen (k * 7 + 4)
          have f5 := hR.frozen (k * 7 + 5)
          have f6 := hR.frozen (k * 7 + 6)
          obtain ⟨d0, d1, d2, d3, d4, d5, d6⟩ := hR.seven _ hk
          have HB := Lib.hid hb2
          have HR := Lib.hid hR
          clear hb2 hR
          go_wp2
          go_ret
          have HF : Hid (I64 (x.t.ver + 1)) := Lib.hid (i64_of (by omega) (by omega))
          have hf : Told.fits ⟨(k : Int), x.t.ver + 1, who, v, false⟩ := ⟨hi, HF.out, hw, hv⟩
          refine ⟨by rw [HE.out, if_neg (by omega), if_neg (by omega), if_neg (by rw [Int.toNat_natCast, HV.out]; exact h4)]; rfl, grown_set7 (only_of_below HB.out _) _ _ _ _ _ _ _ _ _ _ _ _ _ _, ?_⟩
          rw [HSS.out, if_pos (by rw [HE.out, if_neg (by omega), if_neg (by omega), if_neg (by rw [Int.toNat_natCast, HV.out]; exact h4)]), Int.toNat_natCast, HV.out]
          exact HR.out.set7 (e' := ⟨⟨(k : Int), x.t.ver + 1, who, v, false⟩, false, false⟩) hk hf

set_option maxHeartbeats 2000000 in
theorem rSay_any (g gs c : Nat) (who : Int) (es : List Ent) (slot : Int) (v : ByteArray) (w : World) (h : Tk w 59 61 g gs c who es) (hok : EsOk es) (hw : I64 who) (hi : I64 slot) (hv : v.size ≤ maxLen) (hlen : es.length ≤ 20) :
    Calls Try.prog 10 #[.pointer (some ⟨g, 0, none⟩), .int .i64 slot, .string v] w fun e w' => e = .returned (.int .i64 (sayE es slot v)) ∧ w.grownBy w' (some gs) ∧ Slots w' 61 gs c (sayS who es slot v) := by
  obtain ⟨c0, c1⟩ := blk2 h.head
  have hle := h.row.le
  unfold maxLen at hle hv
  have HT := Lib.hid h
  have HE : Hid (sayE es slot v = if slot < 0 ∨ (es.length : Int) ≤ slot then 5 else if 100 < v.size then 2 else if verAt es slot.toNat = 1000000 then 7 else 0) := Lib.hid rfl
  have HSS : Hid (sayS who es slot v = if sayE es slot v = 0 then es.set slot.toNat ⟨⟨slot, verAt es slot.toNat + 1, who, v, false⟩, false, false⟩ else es) := Lib.hid rfl
  generalize sayE es slot v = er at *
  generalize sayS who es slot v = es' at *
  clear h
  go_enter Try.func10, Try.ntmps10
  by_cases h1 : slot < 0
  · have HE1 : Hid (er = 5) := Lib.hid (by rw [HE.out]; simp [h1])
    go_wp2
    go_ret
    refine ⟨by rw [HE1.out]; rfl, only_of_below (Below.refl _ _) _, by rw [HSS.out, HE1.out]; exact HT.out.row⟩
  · by_cases h2 : (es.length : Int) ≤ slot
    · have HE1 : Hid (er = 5) := Lib.hid (by rw [HE.out]; simp [h2])
      go_wp2
      go_ret
      refine ⟨by rw [HE1.out]; rfl, only_of_below (Below.refl _ _) _, by rw [HSS.out, HE1.out]; exact HT.out.row⟩
    · by_cases h3 : 100 < v.size
      · have HE1 : Hid (er = 2) := Lib.hid (by rw [HE.out]; simp [h1, h2, h3])
        go_wp2
        go_ret
        refine ⟨by rw [HE1.out]; rfl, only_of_below (Below.refl _ _) _, by rw [HSS.out, HE1.out]; exact HT.out.row⟩
      · obtain ⟨k, rfl⟩ : ∃ k : Nat, slot = k := ⟨slot.toNat, by omega⟩
        have hk : k < es.length := by omega
        obtain ⟨d0, d1, d2, d3, d4, d5, d6⟩ := HT.out.row.seven _ hk
        have HV := Lib.hid (verAt_at hk)
        have HK := Lib.hid (hok k _ (List.getElem?_eq_getElem hk))
        generalize hx : es[k]'hk = x at *
        have hb1 := HK.out.2.1
        have hb2 := HK.out.2.2.1
        by_cases h4 : x.t.ver = 1000000
        · have HE1 : Hid (er = 7) := Lib.hid (by rw [HE.out]; simp [h1, h2, h3, HV.out, h4])
          go_wp2
          go_ret
          refine ⟨by rw [HE1.out]; rfl, only_of_below (Below.refl _ _) _, by rw [HSS.out, HE1.out]; exact HT.out.row⟩
        · go_wp2
          refine wp_region_still_tail 15 (by kernel_rfl) (by kernel_rfl) ?_
          simp only [List.take_succ_cons, List.take_zero, List.drop_succ_cons, List.drop_zero]
          repeat still_step
          refine wpStill_nil ?_
          change wpList _ _ _ _ _ w.drew
          have hb2 : Below w.heap.size w w.drew := (Below.refl _ _).drew
          generalize w.drew = w2 at *
          have hR := HT.out.row.below hb2
          have f0 := hR.frozen (k * 7)
          have f1 := hR.frozen (k * 7 + 1)
          have f2 := hR.frozen (k * 7 + 2)
          have f3 := hR.frozen (k * 7 + 3)
          have f4 := hR.frozen (k * 7 + 4)
          have f5 := hR.frozen (k * 7 + 5)
          have f6 := hR.frozen (k * 7 + 6)
          obtain ⟨d0, d1, d2, d3, d4, d5, d6⟩ := hR.seven _ hk
          have HB := Lib.hid hb2
          have HR := Lib.hid hR
          clear hb2 hR
          go_wp2
          go_ret
          have HF : Hid (I64 (x.t.ver + 1)) := Lib.hid (i64_of (by omega) (by omega))
          have hf : Told.fits ⟨(k : Int), x.t.ver + 1, who, v, false⟩ := ⟨hi, HF.out, hw, hv⟩
          refine ⟨by rw [HE.out, if_neg (by omega), if_neg (by omega), if_neg (by rw [Int.toNat_natCast, HV.out]; exact h4)]; rfl, grown_set7 (only_of_below HB.out _) _ _ _ _ _ _ _ _ _ _ _ _ _ _, ?_⟩
          rw [HSS.out, if_pos (by rw [HE.out, if_neg (by omega), if_neg (by omega), if_neg (by rw [Int.toNat_natCast, HV.out]; exact h4)]), Int.toNat_natCast, HV.out]
          exact HR.out.set7 (e' := ⟨⟨(k : Int), x.t.ver + 1, who, v, false⟩, false, false⟩) hk hf
end Go.Proofs.Ytmghigmegiainaa
