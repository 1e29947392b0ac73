/- The walk of the law SoundAlls. -/
import Derived.Test.YtaidkboijjkbgaaAllW
import Derived.Test.YtaidkboijjkbgaaSBeg
namespace Go.Proofs.Ytaidkboijjkbgaa
open Go.RowKit

theorem mem_le_sum {α : Type} {g : α → Nat} : ∀ {xs : List α} {x : α}, x ∈ xs → g x ≤ (xs.map g).sum
  | y :: xs, x, h => by
    simp only [List.map_cons, List.sum_cons]
    rcases List.mem_cons.1 h with rfl | h
    · omega
    · have := mem_le_sum (g := g) h; omega
theorem chgs_bulk {cs : List Chg} {n : Nat} (h : (cs.map rChg.bulk).sum + 1 ≤ n) : ∀ x ∈ cs, x.2.2.2.1.length + x.2.2.2.2.length ≤ n := fun x hx => by
  have h1 := mem_le_sum (g := rChg.bulk) hx
  have h2 : x.2.2.2.1.length + x.2.2.2.2.length ≤ rChg.bulk x := change_bulk x
  omega

set_option maxRecDepth 100000 in
set_option maxHeartbeats 4000000 in
theorem lawAlls_any (S : Nat → Prop) (A Ai : Option Addr) (c ci : Nat) (cs : List Chg) (text : List Int) (w : World) (h : Sl rChg w S A c cs) (hin : Sl rInt w S Ai ci text) (hS : ∀ b, S b → b < w.heap.size) (hn : ∀ x ∈ cs, x.2.2.2.1.length + x.2.2.2.2.length ≤ 4294967296) :
    Calls Try.prog 4 #[.slice A cs.length c, .slice Ai text.length ci] w fun e w' => e = .returned (.bool true) ∧ Below w.heap.size w w' := by
  have HL := Lib.hid h
  have HI := Lib.hid hin
  have HS := Lib.hid hS
  have HN := Lib.hid hn
  have HC := Lib.hid (sAll_any S A Ai c ci cs text w h hin hS hn)
  clear h hin hS hn
  go_enter Try.func4, Try.ntmps4
  go_wp2_with fail
  refine HC.out.mono ?_
  rintro e w1 ⟨⟨A1, c1, rfl, hs1⟩, hb1⟩
  have HX1 := Lib.hid hb1
  have HR1 := Lib.hid hs1
  have HC2 := Lib.hid (rAll_any S A Ai c ci cs text w1 (HL.out.below HS.out hb1) (HI.out.below HS.out hb1) (in_below HS.out hb1) HN.out)
  clear hb1 hs1 HC
  go_wp2_with fail
  refine HC2.out.mono ?_
  rintro e w2 ⟨⟨A2, c2, rfl, hs2⟩, hb2⟩
  have HX2 := Lib.hid (HX1.out.trans (hb2.mono HX1.out.size))
  have HR2 := Lib.hid hs2
  have HR1' := Lib.hid ((HR1.out.below (fun b h => h) hb2).more fun b h => Nat.lt_of_lt_of_le h hb2.size)
  clear hb2 hs2 HC2 HR1 HX1
  generalize (allC cs text).2 = R at *
  generalize (allC cs text).1 = E at *
  have hEE : (E == E) = true := by simp
  go_wp2_with fail
  refine (soundBegun_any _).mono ?_
  rintro e w3 ⟨rfl, hb3⟩
  have HX3 := Lib.hid (HX2.out.trans (hb3.mono HX2.out.size))
  have HC3 := Lib.hid (same_any (fun b => b < w2.heap.size) A1 A2 c1 c2 R R w3 (HR1'.out.below (fun b h => h) hb3) (HR2.out.below (fun b h => h) hb3))
  clear hb3
  go_wp2_with fail
  refine HC3.out.mono ?_
  rintro e w4 ⟨rfl, n, rfl⟩
  go_wp2
  go_ret
  exact ⟨by simp, below_drewN HX3.out _⟩
end Go.Proofs.Ytaidkboijjkbgaa
