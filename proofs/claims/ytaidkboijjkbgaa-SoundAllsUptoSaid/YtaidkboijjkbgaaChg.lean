/- Sound changes as plain data, what is wrong with one, and the walks of sound.Check and R.CheckChange. -/
import Derived.Test.YtaidkboijjkbgaaSB
import Derived.Test.YtaidkboijjkbgaaCatSp
import Derived.Test.YtaidkboijjkbgaaCatIn
import Derived.Test.YtaidkboijjkbgaaRo
namespace Go.Proofs.Ytaidkboijjkbgaa
open Go.RowKit

def rSpot : Rep (List Int × Bool) := rPair (rList rInt) rBool
def rChange : Rep (Int × List Int × List Int × List (List Int × Bool) × List (List Int × Bool)) := rPair rInt (rPair (rList rInt) (rPair (rList rInt) (rPair (rList rSpot) (rList rSpot))))
theorem opens_ints : Opens Try.prog 22 (rList rInt) := opens_slice Try.underlying22 rfl (by decide) (opens_int Try.underlying3)
theorem opens_spot : Opens Try.prog 60 rSpot := opens_struct (l := [_, _]) Try.underlying60 rfl (opens_more rfl rfl opens_ints (opens_last rfl rfl (opens_bool Try.underlying4)))
theorem opens_spots : Opens Try.prog 23 (rList rSpot) := opens_slice Try.underlying23 rfl (by decide) opens_spot
theorem opens_change : Opens Try.prog 25 rChange := opens_struct (l := [_, _, _, _, _]) Try.underlying25 rfl
  (opens_more rfl rfl (opens_int Try.underlying3) (opens_more rfl rfl opens_ints (opens_more rfl rfl opens_ints (opens_more rfl rfl opens_spots (opens_last rfl rfl opens_spots)))))
theorem spot_open {w : World} {S : Nat → Prop} {u : List Value} {x : List Int × Bool} (h : rSpot.R w S u x) : ∃ A c, u = [.slice A x.1.length c, .bool x.2] ∧ Sl rInt w S A c x.1 := by
  obtain ⟨_, _, rfl, ⟨A, c, rfl, h⟩, rfl⟩ := h
  exact ⟨A, c, rfl, h⟩
theorem spot_mk {w : World} {S : Nat → Prop} {A : Option Addr} {c : Nat} {x : List Int × Bool} (h : Sl rInt w S A c x.1) : rSpot.R w S [.slice A x.1.length c, .bool x.2] x := ⟨[_], [_], rfl, ⟨A, c, rfl, h⟩, rfl⟩
theorem change_open {w : World} {S : Nat → Prop} {u : List Value} {x} (h : rChange.R w S u x) : ∃ Af cf At ct Al cl Ar cr, u = [.int .i64 x.1, .slice Af x.2.1.length cf, .slice At x.2.2.1.length ct, .slice Al x.2.2.2.1.length cl, .slice Ar x.2.2.2.2.length cr] ∧
    I64 x.1 ∧ Sl rInt w S Af cf x.2.1 ∧ Sl rInt w S At ct x.2.2.1 ∧ Sl rSpot w S Al cl x.2.2.2.1 ∧ Sl rSpot w S Ar cr x.2.2.2.2 := by
  obtain ⟨_, _, rfl, ⟨rfl, hi⟩, _, _, rfl, ⟨Af, cf, rfl, hf⟩, _, _, rfl, ⟨At, ct, rfl, ht⟩, _, _, rfl, ⟨Al, cl, rfl, hl⟩, ⟨Ar, cr, rfl, hr⟩⟩ := h
  exact ⟨Af, cf, At, ct, Al, cl, Ar, cr, rfl, hi, hf, ht, hl, hr⟩

theorem spot_at {w : World} {S : Nat → Prop} {A : Option Addr} {c k : Nat} {xs : List (List Int × Bool)} (h : Sl rSpot w S A c xs) (hk : k < xs.length) :
    ∃ ad A1 c1, A = some ad ∧ S ad.block ∧ Sl rInt w S A1 c1 (xs[k]'hk).1 ∧ w.cell? (ad.add (k * 2)) = some (.slice A1 (xs[k]'hk).1.length c1) ∧ w.cell? ⟨(ad.add (k * 2)).block, (ad.add (k * 2)).off + 1, none⟩ = some (.bool (xs[k]'hk).2) := by
  obtain ⟨ad, u, hA, hs, hu, h0, h1⟩ := h.fields hk
  obtain ⟨A1, c1, rfl, hsl⟩ := spot_open hu
  exact ⟨ad, A1, c1, hA, hs, hsl, h0 _ rfl, h1 0 _ rfl⟩
theorem len_le_bulk {α : Type} {g : α → Nat} (h : ∀ x, 1 ≤ g x) : ∀ xs : List α, xs.length ≤ (xs.map g).sum
  | [] => by simp
  | x :: xs => by have := len_le_bulk h xs; have := h x; simp only [List.length_cons, List.map_cons, List.sum_cons]; omega
theorem change_bulk (x : Int × List Int × List Int × List (List Int × Bool) × List (List Int × Bool)) : x.2.2.2.1.length + x.2.2.2.2.length ≤ rChange.bulk x := by
  have h : ∀ y, 1 ≤ rSpot.bulk y := fun y => by simp only [rSpot, rPair, rBool]; omega
  have h1 := len_le_bulk h x.2.2.2.1
  have h2 := len_le_bulk h x.2.2.2.2
  simp only [rChange, rPair, rList]; omega
/-- a predicate on spots -/
def TellsS (P : Program) (g : Nat) (lb : Array Value) (p : List Int × Bool → Bool) (S : Nat → Prop) (w : World) : Prop :=
  ∀ (W : World) (x : List Int × Bool) (A : Option Addr) (c : Nat), Below w.heap.size w W → Sl rInt W S A c x.1 → Calls P g (#[.agg #[.slice A x.1.length c, .bool x.2]] ++ lb) W fun e W' => e = .returned (.bool (p x)) ∧ Below W.heap.size W W'

set_option maxRecDepth 100000 in
set_option maxHeartbeats 1000000 in
theorem indexFuncS_any (g : Nat) (lb : Array Value) (eg : ∀ args w, (callFunc g args).run Try.prog w = .ok (.enter g args) w) (p : List Int × Bool → Bool) (S : Nat → Prop) (A : Option Addr) (c : Nat) (xs : List (List Int × Bool)) (w : World)
    (h : Sl rSpot w S A c xs) (hS : ∀ b, S b → b < w.heap.size) (hp : TellsS Try.prog g lb p S w) :
    Calls Try.prog 48 #[.slice A xs.length c, .func (.func g) #[] lb] w fun e w' => (∃ n : Int, e = .returned (.int .i64 n) ∧ decide (0 ≤ n) = xs.any p) ∧ Below w.heap.size w w' := by
  have hl := h.le
  have hm := h.max
  unfold maxLen at hm
  have HS := Lib.hid h
  have HP := Lib.hid hp
  have HB := Lib.hid hS
  clear h hp hS
  go_enter Try.func48, Try.ntmps48
  go_wp2
  go_loopw [5, 8] (fun _ i wr => ∃ k : Nat, k ≤ xs.length ∧ i = .int .i64 (k : Int) ∧ Hid ((xs.take k).any p = false) ∧ Hid (Below w.heap.size w wr)) (fun _ i _ => xs.length - (intOf i).toNat)
  case atStart => exact ⟨0, by omega, rfl, Lib.hid (by simp), Lib.hid (Below.refl _ _)⟩
  case round =>
    obtain ⟨k, hk, rfl, HN, HX⟩ := hrel
    by_cases hlt : k < xs.length
    · obtain ⟨ad, A1, c1, hA, _, hsl, hc0, hc1⟩ := spot_at (HS.out.below HB.out HX.out) hlt
      subst hA
      have hcall := HP.out wr (xs[k]'hlt) A1 c1 HX.out hsl
      have HY := Lib.hid (fun h => any_next (p := p) HN.out hlt h)
      have HH := Lib.hid (fun h => any_hit (p := p) hlt h)
      generalize xs[k]'hlt = x at *
      clear hsl
      cases hq : p x with
      | true =>
        rw [hq] at hcall
        have HQ := Lib.hid hq
        clear hq
        go_wp2_with fail
        refine hcall.mono ?_
        rintro e w' ⟨rfl, hb'⟩
        replace hb' := Lib.hid (HX.out.trans (hb'.mono HX.out.size))
        clear hcall
        go_wp2
        go_ret
        refine ⟨⟨_, rfl, ?_⟩, hb'.out⟩
        rw [HH.out HQ.out]; simp
      | false =>
        rw [hq] at hcall
        have HQ := Lib.hid hq
        clear hq
        go_wp2_with fail
        refine hcall.mono ?_
        rintro e w' ⟨rfl, hb'⟩
        replace hb' := Lib.hid (HX.out.trans (hb'.mono HX.out.size))
        clear hcall
        go_wp2
        go_roundw
        case rel => exact ⟨k + 1, by omega, by go_num, Lib.hid (HY.out HQ.out), hb'⟩
        case measure => simp [intOf]; omega
    · have HE := Lib.hid (any_none HN.out (by omega))
      go_wp2
      go_ret
      exact ⟨⟨_, rfl, by rw [HE.out]; rfl⟩, HX.out⟩

set_option maxRecDepth 100000 in
set_option maxHeartbeats 1000000 in
theorem containsFuncS_any (g : Nat) (lb : Array Value) (eg : ∀ args w, (callFunc g args).run Try.prog w = .ok (.enter g args) w) (p : List Int × Bool → Bool) (S : Nat → Prop) (A : Option Addr) (c : Nat) (xs : List (List Int × Bool)) (w : World)
    (h : Sl rSpot w S A c xs) (hS : ∀ b, S b → b < w.heap.size) (hp : TellsS Try.prog g lb p S w) :
    Calls Try.prog 31 #[.slice A xs.length c, .func (.func g) #[] lb] w fun e w' => e = .returned (.bool (xs.any p)) ∧ Below w.heap.size w w' := by
  have HC := Lib.hid (indexFuncS_any g lb eg p S A c xs w h hS hp)
  clear h hS hp eg
  go_enter Try.func31, Try.ntmps31
  go_wp2_with fail
  refine HC.out.mono ?_
  rintro e w' ⟨⟨n, rfl, hn⟩, hb⟩
  have HN := Lib.hid hn
  clear hn
  go_wp2
  all_goals go_ret
  all_goals exact ⟨by rw [← HN.out]; rfl, hb⟩

def bigS (s : List Int × Bool) : Bool := decide (4 < (s.1.length : Int))
set_option maxRecDepth 100000 in
set_option maxHeartbeats 1000000 in
theorem check1_tells (S : Nat → Prop) (w : World) : TellsS Try.prog 32 #[] bigS S w := by
  rintro W ⟨x, b⟩ A c hb h
  have hl := h.le
  have hm := h.max
  unfold maxLen at hm
  have HQ : Hid (bigS (x, b) = decide (4 < (x.length : Int))) := Lib.hid rfl
  clear h hb
  go_enter Try.func32, Try.ntmps32
  go_wp2
  all_goals go_ret
  all_goals exact ⟨by rw [HQ.out]; rfl, (Below.refl _ _).alloc (Nat.le_refl _) _⟩
end Go.Proofs.Ytaidkboijjkbgaa
