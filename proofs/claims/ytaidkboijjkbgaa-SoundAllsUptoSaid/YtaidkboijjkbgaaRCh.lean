/- The walks of R.Change, sound.Apply, R.Apply. -/
import Derived.Test.YtaidkboijjkbgaaHere
namespace Go.Proofs.Ytaidkboijjkbgaa
open Go.RowKit

theorem fresh_one (w : World) (x : Int) (t : TypeId) {b : Nat} (hb : b = w.heap.size) : Reads (w.alloc (.cells #[.int .i64 x] t)) (w.heap.size + 1) 1 (some ⟨b, 0, none⟩) 1 (ints [x]) := by
  subst hb
  refine ⟨rfl, fun _ => ⟨_, rfl, by simp, fun j u hu => ?_⟩⟩
  exact cells_new w [.int .i64 x] t j u hu

set_option maxRecDepth 100000 in
set_option maxHeartbeats 4000000 in
theorem rChange_any (S : Nat → Prop) (ks : Int) (f t : List Int) (l r : List (List Int × Bool)) (Af At Al Ar : Option Addr) (cf ct cl cr : Nat) (text : List Int) (Ai : Option Addr) (ci : Nat) (w : World) (hf : Sl rInt w S Af cf f) (ht : Sl rInt w S At ct t) (hl : Sl rSpot w S Al cl l) (hr : Sl rSpot w S Ar cr r)
    (hin : Sl rInt w S Ai ci text) (hS : ∀ b, S b → b < w.heap.size) (hr1 : r.length ≤ 1) (hf1 : 1 ≤ f.length) (hf3 : f.length ≤ 100000) (ht2 : t.length ≤ 2) (hn : text.length ≤ 100000) :
    Calls Try.prog 29 #[.agg #[.int .i64 ks, .slice Af f.length cf, .slice At t.length ct, .slice Al l.length cl, .slice Ar r.length cr], .slice Ai text.length ci] w fun e w' =>
      (∃ v, e = .returned v ∧ w'.ownsRow w.heap.size 3 1 v (changeC f t l r text).length (ints (changeC f t l r text)) ∧ ∀ x ∈ changeC f t l r text, I64 x) ∧ Below w.heap.size w w' := by
  obtain ⟨i0, hi, hz0, hz1, hz2⟩ := info_parts infoIn
  have bi := hin.le; have bi' := hin.max
  unfold maxLen at bi'
  have hX : Below w.heap.size w (w.alloc (.cells #[.int .i64 ks, .slice Af f.length cf, .slice At t.length ct, .slice Al l.length cl, .slice Ar r.length cr] 25)) := (Below.refl _ _).alloc (Nat.le_refl _) _
  have hB : Blk (w.alloc (.cells #[.int .i64 ks, .slice Af f.length cf, .slice At t.length ct, .slice Al l.length cl, .slice Ar r.length cr] 25)) w.heap.size 25 #[.int .i64 ks, .slice Af f.length cf, .slice At t.length ct, .slice Al l.length cl, .slice Ar r.length cr] := Blk.new _ _ _
  have HF := Lib.hid hf; have HT := Lib.hid ht; have HL := Lib.hid hl; have HR := Lib.hid hr; have HI := Lib.hid hin
  have HS := Lib.hid hS
  have HX := Lib.hid hX
  have HB := Lib.hid hB
  have HZ : Hid (changeC f t l r text = applyC f t l r text.length [] text) := Lib.hid rfl
  clear hf ht hl hr hin hS hX hB
  go_enter Try.func29, Try.ntmps29
  go_wp2
  go_loopw [5, 6] (fun o at_ wr => ∃ (k m : Nat) (Ao : Option Addr) (co : Nat) (out : List Int), k ≤ text.length ∧ at_ = .int .i64 (k : Int) ∧ o = .slice Ao out.length co ∧ Hid (wr.ownsRow (w.heap.size + 1) 3 1 (.slice Ao out.length co) out.length (ints out)) ∧ Hid (∀ x ∈ out, I64 x) ∧
      out.length ≤ 2 * k ∧ Hid ((text.drop k).length ≤ m ∧ changeC f t l r text = applyC f t l r m out (text.drop k)) ∧ Hid (Below (w.heap.size + 1) (w.alloc (.cells #[.int .i64 ks, .slice Af f.length cf, .slice At t.length ct, .slice Al l.length cl, .slice Ar r.length cr] 25)) wr)) (fun _ at_ _ => text.length - (intOf at_).toNat)
  case atStart => exact ⟨0, text.length, none, 0, [], by omega, rfl, rfl, Lib.hid (ownsRow_none _ _ _ _), Lib.hid (by simp), by simp, Lib.hid ⟨by simp, HZ.out⟩, Lib.hid (Below.refl _ _)⟩
  case round =>
    obtain ⟨k, m, Ao, co, out, hk, rfl, rfl, HO1, HM, hol, HE, HXR⟩ := hrel
    have hzz := HXR.out.size
    have hXW : Below w.heap.size w wr := HX.out.trans (HXR.out.mono (by omega))
    have hB1 := HB.out.below HXR.out (by omega)
    obtain ⟨e0, e1, e2, e3, e4⟩ := blk5 hB1
    have hsz : w.heap.size < wr.heap.size := hB1.lt
    have HB1 := Lib.hid hB1
    clear hzz hB1
    have HXW := Lib.hid hXW
    by_cases hlt : k < text.length
    · have hne : 0 < (text.drop k).length := by rw [List.length_drop]; omega
      have hup : ∀ b, S b → (fun b => b < wr.heap.size) b := fun b hb => Nat.lt_of_lt_of_le (HS.out b hb) hXW.size
      have HC := Lib.hid (here_any (fun b => b < wr.heap.size) ks f t l r Af At Al Ar cf ct cl cr out text Ao Ai co ci k wr ((HF.out.below HS.out hXW).more hup) ((HL.out.below HS.out hXW).more hup) ((HR.out.below HS.out hXW).more hup)
        (Sl.of_own (ρ := rInt) HO1.out (I64s HM.out) (own_lt HO1.out)) ((HI.out.below HS.out hXW).more hup) (fun b h => h) hr1 hk hn hf3)
      have HST : Hid (stepC f t l r out (text.drop k) = if turnsC f l r out (text.drop k) = true then (f.length, t) else (1, (text.drop k).take 1)) := Lib.hid rfl
      have HTL : Hid (turnsC f l r out (text.drop k) = true → f.length ≤ (text.drop k).length) := Lib.hid (fun h => by
        unfold turnsC at h
        exact fromB_le (Bool.and_eq_true_iff.1 h).1)
      have HE2 : Hid (∃ m', (text.drop (k + (stepC f t l r out (text.drop k)).1)).length ≤ m' ∧ changeC f t l r text = applyC f t l r m' (out ++ (stepC f t l r out (text.drop k)).2) (text.drop (k + (stepC f t l r out (text.drop k)).1))) := Lib.hid (by
        obtain ⟨g1, g2⟩ := HE.out
        obtain ⟨hb1, hb2, hb3⟩ := stepC_bd (l := l) (r := r) (out := out) (inn := text.drop k) hf1 ht2 hne
        obtain ⟨m', rfl⟩ : ∃ m', m = m' + 1 := ⟨m - 1, by omega⟩
        rw [List.length_drop] at g1
        exact ⟨m', by rw [List.length_drop]; omega, by rw [g2, applyC_step (by rw [List.length_drop]; exact g1) hne, List.drop_drop]⟩)
      have hlen : (text.drop k).length = text.length - k := List.length_drop
      have HLN := Lib.hid hlen
      obtain ⟨adi, hA, _, hi64, hcx⟩ := (HI.out.below HS.out hXW).int_at hlt
      have HT1 : Hid ((text.drop k).take 1 = [text[k]'hlt]) := Lib.hid (by rw [List.drop_eq_getElem_cons hlt]; rfl)
      clear HE hXW hup hne hlen
      subst hA
      generalize text[k]'hlt = x at *
      go_wp2_with fail
      refine HC.out.mono ?_
      rintro e w3 ⟨rfl, hb⟩
      have HO3 := Lib.hid (own_below_all HO1.out hb)
      have hB3 := HB1.out.below hb HB1.out.lt
      have HXR3 := Lib.hid (HXR.out.trans (hb.mono (by omega)))
      have hsz3 := hb.size
      have hT3 := (HT.out.below HS.out HXW.out).below (fun b h => Nat.lt_of_lt_of_le (HS.out b h) HXW.out.size) hb
      have HRD := Lib.hid (hT3.int_reads (B := w.heap.size) HS.out)
      have HMT := Lib.hid hT3.int_mem
      have hcx3 := (hb.cell (p := adi.add k) (World.block_lt_of_cell? _ _ hcx)).trans hcx
      clear hT3 hb HC e0 e1 e2 e3 e4 hcx
      obtain ⟨e0, e1, e2, e3, e4⟩ := blk5 hB3
      clear hB3 HB1
      generalize turnsC f l r out (text.drop k) = T at *
      cases T with
      | true =>
        have hfl : k + f.length ≤ text.length := by have := HTL.out rfl; rw [HLN.out] at this; omega
        have hq : stepC f t l r out (text.drop k) = (f.length, t) := by rw [HST.out]; rfl
        rw [hq] at HE2
        clear hq HST HTL
        go_wp2_with (at_builtin; refine wpList_append_any _ rfl _ _ 22 rfl (w.heap.size + 1) 3 i0 _ 1 8 Try.underlying22 hi hz0 hz1 hz2 rfl (by decide) _ _ (ints out) rfl HO3.out w.heap.size At t.length ct (ints t) rfl HRD.out (ints_one t) ?c3 ?c4 ?c5 ?_)
        case c3 => unfold maxLen; omega
        case c4 => omega
        case c5 => omega
        intro v' w4 hown4 hg4 hat4
        have hb4 : Below (w.heap.size + 1) w3 w4 := (Below.refl _ _).grown hg4 (by omega) (own_ge HO3.out)
        have HXR4 := Lib.hid (HXR3.out.trans hb4)
        have HO4 : Hid (w4.ownsRow (w.heap.size + 1) 3 1 v' (out ++ t).length (ints (out ++ t))) := Lib.hid (by rw [List.length_append, ints_app]; exact hown4)
        have HM4 : Hid (∀ x ∈ out ++ t, I64 x) := Lib.hid (by
          intro x hx
          rcases List.mem_append.1 hx with hx | hx
          · exact HM.out x hx
          · exact HMT.out x hx)
        have e1' := (hb4.cell (p := ⟨w.heap.size, 1, none⟩) (by simp)).trans e1
        clear hown4 hg4 hat4 hb4 HO3 HRD HXR3 e0 e1 e2 e3 e4
        obtain ⟨A5, c5, rfl⟩ := own_slice HO4.out
        obtain ⟨m', HE3⟩ := HE2.out
        have HE4 := Lib.hid HE3
        clear HE3
        go_wp2
        exact ⟨⟨k + f.length, m', A5, c5, out ++ t, by omega, by go_num, rfl, HO4, HM4, by rw [List.length_append]; omega, HE4, HXR4⟩, by simp [intOf]; omega⟩
      | false =>
        have hq : stepC f t l r out (text.drop k) = (1, [x]) := by rw [HST.out, HT1.out]; rfl
        rw [hq] at HE2
        clear hq HST HTL
        go_wp2_with (at_builtin; refine wpList_append_any _ rfl _ _ 22 rfl (w.heap.size + 1) 3 i0 _ 1 8 Try.underlying22 hi hz0 hz1 hz2 rfl (by decide) _ _ (ints out) rfl (HO3.out.alloc _) (w3.heap.size + 1) (some ⟨w3.heap.size, 0, none⟩) 1 1 (ints [x]) rfl (fresh_one w3 x _ rfl) (ints_one [x]) ?c3 ?c4 ?c5 ?_)
        case c3 => unfold maxLen; omega
        case c4 => omega
        case c5 => simp; omega
        intro v' w4 hown4 hg4 hat4
        have hb4 : Below (w.heap.size + 1) w3 w4 := ((Below.refl _ _).alloc (by omega) _).grown hg4 (by simp; omega) (own_ge HO3.out)
        have HXR4 := Lib.hid (HXR3.out.trans hb4)
        have HO4 : Hid (w4.ownsRow (w.heap.size + 1) 3 1 v' (out ++ [x]).length (ints (out ++ [x]))) := Lib.hid (by rw [List.length_append, ints_app]; exact hown4)
        have HM4 : Hid (∀ y ∈ out ++ [x], I64 y) := Lib.hid (by
          intro y hy
          rcases List.mem_append.1 hy with hy | hy
          · exact HM.out y hy
          · simp at hy; subst hy; exact hi64)
        clear hown4 hg4 hat4 hb4 HO3 HRD HXR3 e0 e1 e2 e3 e4
        obtain ⟨A5, c5, rfl⟩ := own_slice HO4.out
        obtain ⟨m', HE3⟩ := HE2.out
        have HE4 := Lib.hid HE3
        clear HE3
        go_wp2
        exact ⟨⟨k + 1, m', A5, c5, out ++ [x], by omega, by go_num, rfl, HO4, HM4, by rw [List.length_append]; simp; omega, HE4, HXR4⟩, by simp [intOf]; omega⟩
    · have hi0 : text.drop k = [] := List.drop_eq_nil_iff.2 (by omega)
      have HV : Hid (changeC f t l r text = out) := Lib.hid (by rw [HE.out.2, hi0, applyC_nil])
      clear hi0
      go_wp2
      go_ret
      rw [HV.out]
      exact ⟨⟨_, rfl, own_base HO1.out (by omega), HM.out⟩, HXW.out⟩
end Go.Proofs.Ytaidkboijjkbgaa
