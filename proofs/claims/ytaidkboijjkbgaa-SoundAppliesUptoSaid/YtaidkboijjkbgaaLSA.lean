/- The walk of the law SoundApplies. -/
import Derived.Test.YtaidkboijjkbgaaSBeg
namespace Go.Proofs.Ytaidkboijjkbgaa
open Go.RowKit

set_option maxRecDepth 100000 in
set_option maxHeartbeats 4000000 in
theorem lawApplies_any (S : Nat → Prop) (ks : Int) (f t : List Int) (l r : List (List Int × Bool)) (Af At Al Ar : Option Addr) (cf ct cl cr : Nat) (text : List Int) (Ai : Option Addr) (ci : Nat) (w : World) (hf : Sl rInt w S Af cf f) (ht : Sl rInt w S At ct t) (hl : Sl rSpot w S Al cl l) (hr : Sl rSpot w S Ar cr r)
    (hin : Sl rInt w S Ai ci text) (hS : ∀ b, S b → b < w.heap.size) (hn : l.length + r.length ≤ 4294967296) :
    Calls Try.prog 3 #[.agg #[.int .i64 ks, .slice Af f.length cf, .slice At t.length ct, .slice Al l.length cl, .slice Ar r.length cr], .slice Ai text.length ci] w fun e w' => e = .returned (.bool true) ∧ Below w.heap.size w w' := by
  have bi := hin.le; have bi' := hin.max
  unfold maxLen at bi'
  have hX : Below w.heap.size w (w.alloc (.cells #[.int .i64 ks, .slice Af f.length cf, .slice At t.length ct, .slice Al l.length cl, .slice Ar r.length cr] 25)) := (Below.refl _ _).alloc (Nat.le_refl _) _
  have hB : Blk (w.alloc (.cells #[.int .i64 ks, .slice Af f.length cf, .slice At t.length ct, .slice Al l.length cl, .slice Ar r.length cr] 25)) w.heap.size 25 #[.int .i64 ks, .slice Af f.length cf, .slice At t.length ct, .slice Al l.length cl, .slice Ar r.length cr] := Blk.new _ _ _
  have HF := Lib.hid hf; have HT := Lib.hid ht; have HL := Lib.hid hl; have HR := Lib.hid hr; have HI := Lib.hid hin
  have HS := Lib.hid hS
  have HX := Lib.hid hX
  have HB := Lib.hid hB
  have HC := Lib.hid (sApply_any S ks f t l r Af At Al Ar cf ct cl cr text Ai ci _ (hf.below hS hX) (ht.below hS hX) (hl.below hS hX) (hr.below hS hX) (hin.below hS hX) (in_below hS hX) hn)
  clear hf ht hl hr hin hS hX hB
  go_enter Try.func3, Try.ntmps3
  go_wp2_with fail
  refine HC.out.mono ?_
  rintro e w1 ⟨⟨v1, rfl, hown, hm⟩, hb⟩
  obtain ⟨A1, c1, rfl⟩ := own_slice hown
  have HX1 := Lib.hid (HX.out.trans (hb.mono HX.out.size))
  have HR1 : Hid (Sl rInt w1 (fun b => b < w1.heap.size) A1 c1 (applyR ks f t l r text)) := Lib.hid (Sl.of_own (ρ := rInt) hown (I64s hm) (own_lt hown))
  have hB1 := HB.out.below hb HB.out.lt
  obtain ⟨e0, e1, e2, e3, e4⟩ := blk5 hB1
  have HB1 := Lib.hid hB1
  have HC2 := Lib.hid (rApply_any S ks f t l r Af At Al Ar cf ct cl cr text Ai ci w1 (HF.out.below HS.out HX1.out) (HT.out.below HS.out HX1.out) (HL.out.below HS.out HX1.out) (HR.out.below HS.out HX1.out) (HI.out.below HS.out HX1.out) (in_below HS.out HX1.out) hn)
  clear hown hm hb hB1 HC HX HB
  go_wp2_with fail
  refine HC2.out.mono ?_
  rintro e w2 ⟨⟨v2, rfl, hown, hm⟩, hb⟩
  obtain ⟨A2, c2, rfl⟩ := own_slice hown
  have hX2 := HX1.out.trans (hb.mono HX1.out.size)
  have HR2 : Hid (Sl rInt w2 (fun b => b < w2.heap.size) A2 c2 (applyR ks f t l r text)) := Lib.hid (Sl.of_own (ρ := rInt) hown (I64s hm) (own_lt hown))
  have HR1' : Hid (Sl rInt w2 (fun b => b < w2.heap.size) A1 c1 (applyR ks f t l r text)) := Lib.hid ((HR1.out.below (fun b h => h) hb).more fun b h => Nat.lt_of_lt_of_le h hb.size)
  have hB2 := HB1.out.below hb HB1.out.lt
  have HF2 := Lib.hid (HF.out.below HS.out hX2); have HT2 := Lib.hid (HT.out.below HS.out hX2); have HL2 := Lib.hid (HL.out.below HS.out hX2); have HRR2 := Lib.hid (HR.out.below HS.out hX2)
  have HS2 := Lib.hid (in_below HS.out hX2)
  have HB2 := Lib.hid hB2
  have HX2 := Lib.hid hX2
  have HH : Hid (∀ w', Below w2.heap.size w2 w' → (Below w2.heap.size w2 w' ∧ w'.cell? ⟨w.heap.size, 0, none⟩ = some (.int .i64 ks) ∧ w'.cell? ⟨w.heap.size, 1, none⟩ = some (.slice Af f.length cf) ∧ w'.cell? ⟨w.heap.size, 2, none⟩ = some (.slice At t.length ct) ∧ w'.cell? ⟨w.heap.size, 3, none⟩ = some (.slice Al l.length cl) ∧ w'.cell? ⟨w.heap.size, 4, none⟩ = some (.slice Ar r.length cr))) :=
    Lib.hid fun w' h => ⟨h, blk5 (HB2.out.below h HB2.out.lt)⟩
  clear hown hm hb hB2 HC2 HB1 HR1 HX1 HF HT HL HR HI HS hX2 e0 e1 e2 e3 e4
  obtain ⟨e0, e1, e2, e3, e4⟩ := blk5 HB2.out
  generalize applyR ks f t l r text = R at *
  generalize applyE ks f t l r text = E at *
  have hEE : (E == E) = true := by simp
  go_wp2
  have hst := HH.out w2 (Below.refl _ _)
  go_region_held3 (fun w' => Below w2.heap.size w2 w' ∧ w'.cell? ⟨w.heap.size, 0, none⟩ = some (.int .i64 ks) ∧ w'.cell? ⟨w.heap.size, 1, none⟩ = some (.slice Af f.length cf) ∧ w'.cell? ⟨w.heap.size, 2, none⟩ = some (.slice At t.length ct) ∧ w'.cell? ⟨w.heap.size, 3, none⟩ = some (.slice Al l.length cl) ∧ w'.cell? ⟨w.heap.size, 4, none⟩ = some (.slice Ar r.length cr))
    (first
      | (have h9 := And.left ‹Below w2.heap.size w2 _ ∧ _›; exact HH.out _ (h9.trans (hb9.mono h9.size)))
      | (have h9 := And.left ‹Below w2.heap.size w2 _ ∧ _›; exact HH.out _ (below_drewN h9 _))
      | exact HH.out _ (below_drewN (Below.refl _ _) _)
      | exact HH.out _ (Below.refl _ _).drew)
    (first
      | (go_at_call 9; refine (soundBegun_any _).mono ?_; rintro e w9 ⟨rfl, hb9⟩)
      | (go_at_call 10; refine (check_any S ks f t l r Af At Al Ar cf ct cl cr _ (by exact HF2.out.below HS2.out (And.left ‹Below w2.heap.size w2 _ ∧ _›)) (by exact HT2.out.below HS2.out (And.left ‹Below w2.heap.size w2 _ ∧ _›)) (by exact HL2.out.below HS2.out (And.left ‹Below w2.heap.size w2 _ ∧ _›)) (by exact HRR2.out.below HS2.out (And.left ‹Below w2.heap.size w2 _ ∧ _›)) (by exact in_below HS2.out (And.left ‹Below w2.heap.size w2 _ ∧ _›)) hn).mono ?_; rintro e w9 ⟨rfl, hb9⟩)
      | (go_at_call 11; refine (rCheck_any S ks f t l r Af At Al Ar cf ct cl cr _ (by exact HF2.out.below HS2.out (And.left ‹Below w2.heap.size w2 _ ∧ _›)) (by exact HT2.out.below HS2.out (And.left ‹Below w2.heap.size w2 _ ∧ _›)) (by exact HL2.out.below HS2.out (And.left ‹Below w2.heap.size w2 _ ∧ _›)) (by exact HRR2.out.below HS2.out (And.left ‹Below w2.heap.size w2 _ ∧ _›)) (by exact in_below HS2.out (And.left ‹Below w2.heap.size w2 _ ∧ _›)) hn).mono ?_; rintro e w9 ⟨rfl, hb9⟩)
      | (go_at_call 12; refine (same_any (fun b => b < w2.heap.size) A1 A2 c1 c2 R R _ (by exact HR1'.out.below (fun b h => h) (And.left ‹Below w2.heap.size w2 _ ∧ _›)) (by exact HR2.out.below (fun b h => h) (And.left ‹Below w2.heap.size w2 _ ∧ _›))).mono ?_; rintro e w9 ⟨rfl, n9, rfl⟩))
  have HX3 := Lib.hid (HX2.out.trans ((And.left ‹Below w2.heap.size w2 _ ∧ _›).mono HX2.out.size))
  go_wp2
  go_ret
  exact ⟨rfl, HX3.out⟩
end Go.Proofs.Ytaidkboijjkbgaa
