/- The walk of sound.apply. -/
import Derived.Test.YtaidkboijjkbgaaTrn
namespace Go.Proofs.Ytaidkboijjkbgaa
open Go.RowKit

def applyC (f t : List Int) (l r : List (List Int × Bool)) : Nat → List Int → List Int → List Int
  | 0, out, _ => out
  | n + 1, out, inn => if inn = [] then out else applyC f t l r n (out ++ (stepC f t l r out inn).2) (inn.drop (stepC f t l r out inn).1)
def changeC (f t : List Int) (l r : List (List Int × Bool)) (text : List Int) : List Int := applyC f t l r text.length [] text
section
variable {f t : List Int} {l r : List (List Int × Bool)} {out inn : List Int}
theorem fromB_le {f inn : List Int} (h : fromB f inn = true) : f.length ≤ inn.length := by
  unfold fromB at h; simp only [Bool.and_eq_true, decide_eq_true_eq] at h; exact h.1
theorem stepC_bd (hf : 1 ≤ f.length) (ht : t.length ≤ 2) (hne : 0 < inn.length) : 1 ≤ (stepC f t l r out inn).1 ∧ (stepC f t l r out inn).1 ≤ inn.length ∧ (stepC f t l r out inn).2.length ≤ 2 * (stepC f t l r out inn).1 := by
  unfold stepC
  split
  · rename_i h
    unfold turnsC at h
    have := fromB_le (Bool.and_eq_true_iff.1 h).1
    exact ⟨hf, this, by dsimp only; omega⟩
  · refine ⟨Nat.le_refl _, hne, ?_⟩
    dsimp only; rw [List.length_take]; omega
theorem applyC_nil (n : Nat) : applyC f t l r n out [] = out := by cases n <;> simp [applyC]
theorem applyC_step {m : Nat} (hm : inn.length ≤ m + 1) (hne : 0 < inn.length) : applyC f t l r (m + 1) out inn = applyC f t l r m (out ++ (stepC f t l r out inn).2) (inn.drop (stepC f t l r out inn).1) := by
  rw [applyC, if_neg]; rintro rfl; simp at hne
theorem applyC_len (hf : 1 ≤ f.length) (ht : t.length ≤ 2) : ∀ (n : Nat) (out inn : List Int), (applyC f t l r n out inn).length ≤ out.length + 2 * inn.length
  | 0, out, inn => by rw [applyC]; omega
  | n + 1, out, inn => by
    rw [applyC]
    split
    · omega
    · rename_i h
      have hne : 0 < inn.length := List.length_pos_iff.2 h
      obtain ⟨h1, h2, h3⟩ := stepC_bd (l := l) (r := r) (out := out) hf ht hne
      have := applyC_len hf ht n (out ++ (stepC f t l r out inn).2) (inn.drop (stepC f t l r out inn).1)
      rw [List.length_append, List.length_drop] at this
      omega
end
theorem own_base {w : World} {B B' e s n : Nat} {v : Value} {xs : List Value} (h : w.ownsRow B e s v n xs) (hB : B' ≤ B) : w.ownsRow B' e s v n xs := by
  refine ⟨h.1, ?_⟩
  rcases h.2 with h2 | ⟨g, cap, cur, hv, hb, hr⟩
  · exact .inl h2
  · exact .inr ⟨g, cap, cur, hv, Nat.le_trans hB hb, hr⟩
theorem I64s {xs : List Int} (h : ∀ x ∈ xs, I64 x) {w : World} {S : Nat → Prop} : Elems rInt w S (ints xs) xs := elems_ints h
theorem ints_app (a b : List Int) : ints (a ++ b) = ints a ++ ints b := by simp [ints]
theorem ints_one (a : List Int) : ∀ u ∈ ints a, u.oneCell' = true := by
  intro u hu; simp [ints] at hu; obtain ⟨x, _, rfl⟩ := hu; rfl

set_option maxRecDepth 100000 in
set_option maxHeartbeats 4000000 in
theorem apply_any (S : Nat → Prop) (ks : Int) (f t : List Int) (l r : List (List Int × Bool)) (Af At Al Ar : Option Addr) (cf ct cl cr : Nat) (text : List Int) (Ai : Option Addr) (ci : Nat) (w : World) (hf : Sl rInt w S Af cf f) (ht : Sl rInt w S At ct t) (hl : Sl rSpot w S Al cl l) (hr : Sl rSpot w S Ar cr r)
    (hin : Sl rInt w S Ai ci text) (hS : ∀ b, S b → b < w.heap.size) (hr1 : r.length ≤ 1) (hf1 : 1 ≤ f.length) (ht2 : t.length ≤ 2) (hn : text.length ≤ 100000) :
    Calls Try.prog 28 #[.agg #[.int .i64 ks, .slice Af f.length cf, .slice At t.length ct, .slice Al l.length cl, .slice Ar r.length cr], .slice Ai text.length ci] w fun e w' =>
      (∃ v, e = .returned v ∧ w'.ownsRow w.heap.size 3 1 v (changeC f t l r text).length (ints (changeC f t l r text)) ∧ ∀ x ∈ changeC f t l r text, I64 x) ∧ Below w.heap.size w w' := by
  obtain ⟨i0, hi, hz0, hz1, hz2⟩ := info_parts infoIn
  have hX : Below w.heap.size w (w.alloc (.cells #[.int .i64 ks, .slice Af f.length cf, .slice At t.length ct, .slice Al l.length cl, .slice Ar r.length cr] 25)) := (Below.refl _ _).alloc (Nat.le_refl _) _
  have hB : Blk (w.alloc (.cells #[.int .i64 ks, .slice Af f.length cf, .slice At t.length ct, .slice Al l.length cl, .slice Ar r.length cr] 25)) w.heap.size 25 #[.int .i64 ks, .slice Af f.length cf, .slice At t.length ct, .slice Al l.length cl, .slice Ar r.length cr] := Blk.new _ _ _
  have HF := Lib.hid hf; have HT := Lib.hid ht; have HL := Lib.hid hl; have HR := Lib.hid hr; have HI := Lib.hid hin
  have HS := Lib.hid hS
  have HX := Lib.hid hX
  have HB := Lib.hid hB
  have HZ : Hid (changeC f t l r text = applyC f t l r text.length [] text) := Lib.hid rfl
  clear hf ht hl hr hin hS hX hB
  go_enter Try.func28, Try.ntmps28
  go_wp2
  go_loopw [1, 5, 6, 7] (fun tx o _ _ wr => ∃ (k m : Nat) (A1 Ao : Option Addr) (c1 co : Nat) (inn out : List Int), k + inn.length = text.length ∧ tx = .slice A1 inn.length c1 ∧ o = .slice Ao out.length co ∧ Hid (Sl rInt wr S A1 c1 inn) ∧ Hid (wr.ownsRow (w.heap.size + 1) 3 1 (.slice Ao out.length co) out.length (ints out)) ∧ Hid (∀ x ∈ out, I64 x) ∧
      out.length ≤ 2 * k ∧ Hid (inn.length ≤ m ∧ changeC f t l r text = applyC f t l r m out inn) ∧ Hid (Below (w.heap.size + 1) (w.alloc (.cells #[.int .i64 ks, .slice Af f.length cf, .slice At t.length ct, .slice Al l.length cl, .slice Ar r.length cr] 25)) wr)) (fun tx _ _ _ _ => match tx with | .slice _ n _ => n | _ => 0)
  case atStart => exact ⟨0, text.length, Ai, none, ci, 0, text, [], by omega, rfl, rfl, Lib.hid (HI.out.below HS.out HX.out), Lib.hid (ownsRow_none _ _ _ _), Lib.hid (by simp), by simp, Lib.hid ⟨Nat.le_refl _, HZ.out⟩, Lib.hid (Below.refl _ _)⟩
  case round =>
    obtain ⟨k, m, A1, Ao, c1, co, inn, out, hk, rfl, rfl, HI1, HO1, HM, hol, HE, HXR⟩ := hrel
    have hzz := HXR.out.size
    have hXW : Below w.heap.size w wr := HX.out.trans (HXR.out.mono (by omega))
    have hB1 := HB.out.below HXR.out (by omega)
    obtain ⟨e0, e1, e2, e3, e4⟩ := blk5 hB1
    have bi := HI1.out.le; have bi' := HI1.out.max
    unfold maxLen at bi'
    have hsz : w.heap.size < wr.heap.size := hB1.lt
    clear hzz hB1
    have HXW := Lib.hid hXW
    by_cases hne : 0 < inn.length
    · have hne' : (0 : Int) < (inn.length : Int) := by omega
      have hup : ∀ b, S b → (fun b => b < wr.heap.size) b := fun b hb => Nat.lt_of_lt_of_le (HS.out b hb) hXW.size
      have HC := Lib.hid (step_any (fun b => b < wr.heap.size) ks f t l r Af At Al Ar cf ct cl cr out inn Ao A1 co c1 wr ((HF.out.below HS.out hXW).more hup) ((HT.out.below HS.out hXW).more hup) ((HL.out.below HS.out hXW).more hup) ((HR.out.below HS.out hXW).more hup)
        (Sl.of_own (ρ := rInt) HO1.out (I64s HM.out) (own_lt HO1.out)) (HI1.out.more hup) (fun b h => h) hr1 hne)
      obtain ⟨hb1, hb2, hb3⟩ := stepC_bd (l := l) (r := r) (out := out) (inn := inn) hf1 ht2 hne
      have HE2 : Hid (∃ m', (inn.drop (stepC f t l r out inn).1).length ≤ m' ∧ changeC f t l r text = applyC f t l r m' (out ++ (stepC f t l r out inn).2) (inn.drop (stepC f t l r out inn).1)) := Lib.hid (by
        obtain ⟨g1, g2⟩ := HE.out
        obtain ⟨m', rfl⟩ : ∃ m', m = m' + 1 := ⟨m - 1, by omega⟩
        exact ⟨m', by rw [List.length_drop]; omega, by rw [g2, applyC_step g1 hne]⟩)
      clear HE hXW hup
      generalize (stepC f t l r out inn).1 = n at *
      generalize (stepC f t l r out inn).2 = tt at *
      go_wp2_with fail
      refine HC.out.mono ?_
      rintro e w3 ⟨⟨A3, c3, rfl, hto⟩, hb⟩
      obtain ⟨csn, hel, hrd⟩ := hto.reads (B := wr.heap.size) (fun b h => h)
      obtain ⟨hcs, hmem⟩ := ints_of_elems hel
      rw [hcs] at hrd
      have HO3 := Lib.hid (own_below_all HO1.out hb)
      have hb0 := hb
      have HI3 := Lib.hid (HI1.out.below (fun b h => Nat.lt_of_lt_of_le (HS.out b h) HXW.out.size) hb)
      have HXR3 := Lib.hid (HXR.out.trans (hb.mono (by omega)))
      have hsz3 := hb.size
      have HRD := Lib.hid hrd
      have HMM := Lib.hid hmem
      have HC1 : Hid (n ≤ c1) := Lib.hid (by omega)
      clear hb hb0 hto hel hcs hmem hrd HC csn
      go_wp2_with (at_builtin; refine wpList_append_any _ rfl _ _ 22 rfl (w.heap.size + 1) 3 i0 _ 1 8 Try.underlying22 hi hz0 hz1 hz2 rfl (by decide) _ _ (ints out) rfl HO3.out wr.heap.size A3 tt.length c3 (ints tt) rfl HRD.out (ints_one tt) ?c3 ?c4 ?c5 ?_)
      case c3 => unfold maxLen; omega
      case c4 => omega
      case c5 => omega
      intro v' w4 hown4 hg4 hat4
      have hb4 : Below (w.heap.size + 1) w3 w4 := (Below.refl _ _).grown hg4 (by omega) (own_ge HO3.out)
      have hXR4 := HXR3.out.trans hb4
      have HO4 : Hid (w4.ownsRow (w.heap.size + 1) 3 1 v' (out ++ tt).length (ints (out ++ tt))) := Lib.hid (by rw [List.length_append, ints_app]; exact hown4)
      have HI4 := Lib.hid ((HI3.out.keep (fun p hp => hb4.cell (by have := HS.out _ hp; omega))).cut n)
      have HM4 : Hid (∀ x ∈ out ++ tt, I64 x) := Lib.hid (by
        intro x hx
        rcases List.mem_append.1 hx with hx | hx
        · exact HM.out x hx
        · exact HMM.out x hx)
      have HXR4 := Lib.hid hXR4
      clear hown4 hg4 hat4 hb4 hXR4 HO3 HI3 HRD HXR3
      have hn1 : (0 : Int) ≤ (n : Int) := by omega
      have hn2 : (n : Int) ≤ (inn.length : Int) := by omega
      have hn3 : (n : Int) ≤ (c1 : Int) := by omega
      have hn4 : n ≤ c1 := HC1.out
      obtain ⟨m', HE3⟩ := HE2.out
      have HE4 := Lib.hid HE3
      clear HE3
      obtain ⟨A5, c5, rfl⟩ := own_slice HO4.out
      go_wp2
      have hl : (inn.drop n).length = inn.length - n := List.length_drop
      refine ⟨⟨k + n, m', _, A5, _, c5, inn.drop n, out ++ tt, by omega, by rw [hl], rfl, ?_, HO4, HM4, by rw [List.length_append]; omega, HE4, HXR4⟩, ?_⟩
      · have := HI4.out
        simp only [rInt, Nat.mul_one] at this
        exact Lib.hid this
      · show inn.length - n < inn.length
        omega
    · have hi0 : inn = [] := List.eq_nil_of_length_eq_zero (by omega)
      have HV : Hid (changeC f t l r text = out) := Lib.hid (by rw [HE.out.2, hi0, applyC_nil])
      clear hi0
      go_wp2
      go_ret
      rw [HV.out]
      exact ⟨⟨_, rfl, own_base HO1.out (by omega), HM.out⟩, HXW.out⟩
end Go.Proofs.Ytaidkboijjkbgaa
