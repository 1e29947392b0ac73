/- Spelling: the law: Far, Way and Do of any texts: the walk. -/
import Derived.Test.YtdepkpnicfcbiaaSp10
namespace Go.Proofs.Ytdepkpnicfcbiaa
open Go.RowKit

theorem cost_snoc (l : List Ed) {k : Nat} (h : k < l.length) : costI (l.take (k + 1)) = costI (l.take k) + if (l[k]).1 = 1 then 0 else 1 := by
  rw [List.take_succ_eq_append_getElem h, cost_app]; simp [costI]
theorem cost_le : ∀ l : List Ed, costI l ≤ l.length
  | [] => by simp [costI]
  | e :: l => by have := cost_le l; simp only [costI, List.length_cons]; split <;> omega
theorem begun_t1 : txts ⟨#[97, 98, 255]⟩ = [⟨#[97]⟩, ⟨#[98]⟩, ⟨#[255]⟩] := by kernel_rfl
theorem begun_t2 : txts ⟨#[98, 255, 254]⟩ = [⟨#[98]⟩, ⟨#[255]⟩, ⟨#[254]⟩] := by kernel_rfl
theorem begun_far : farOf ⟨#[97, 98, 255]⟩ ⟨#[98, 255, 254]⟩ = (2, 0) := by
  unfold farOf
  rw [begun_t1, begun_t2]
  simp [dpI_succ, dpI_left, dpI_zero]
theorem way_small (p q : List ByteArray) (K : Nat) (hq : ∀ x ∈ q, x.size ≤ K) (i j : Nat) : ∀ e ∈ wayI p q i j, e.2.size ≤ K := by
  have h0 : none_.size ≤ K := Nat.zero_le _
  have hg : ∀ j, (q.getD j none_).size ≤ K := fun j => by
    rw [List.getD_eq_getElem?_getD]
    cases h : q[j]? with
    | none => exact h0
    | some x => exact hq x (List.mem_of_getElem? h)
  fun_induction wayI p q i j with
  | case1 => simp
  | case2 j ih => intro e he; rcases List.mem_cons.1 he with rfl | he; exact hg _; exact ih e he
  | case3 i ih => intro e he; rcases List.mem_cons.1 he with rfl | he; exact h0; exact ih e he
  | case4 i j h ih => intro e he; rcases List.mem_cons.1 he with rfl | he; exact h0; exact ih e he
  | case5 i j h h2 ih => intro e he; rcases List.mem_cons.1 he with rfl | he; exact hg _; exact ih e he
  | case6 i j h h2 h3 ih => intro e he; rcases List.mem_cons.1 he with rfl | he; exact h0; exact ih e he
  | case7 i j h h2 h3 ih => intro e he; rcases List.mem_cons.1 he with rfl | he; exact hg _; exact ih e he

set_option maxRecDepth 100000 in
set_option maxHeartbeats 4000000 in
theorem begun_any (w : World) : Calls Try.prog 9 #[] w fun e w' => e = .returned (.bool true) ∧ Below w.heap.size w w' := by
  have HF := Lib.hid begun_far
  go_enter Try.func9, Try.ntmps9
  go_wp2_with fail
  refine (far_any ⟨#[97, 98, 255]⟩ ⟨#[98, 255, 254]⟩ (by decide) (by decide) _).mono ?_
  rintro e w2 ⟨rfl, hb⟩
  rw [HF.out]
  have HB := Lib.hid hb
  clear hb
  go_wp2
  go_ret
  exact ⟨rfl, HB.out⟩

set_option maxRecDepth 100000 in
set_option maxHeartbeats 8000000 in
theorem lawFars_any (S : Nat → Prop) (A : Option Addr) (ca : Nat) (s t : ByteArray) (l : List Ed) (hs : s.size ≤ 4294967296) (ht : t.size ≤ 4294967296) (w : World) (hl : Sl rEd w S A ca l) (hS : ∀ b, S b → b < w.heap.size) (hlen : l.length ≤ 4294967296) (hlt : ∀ e ∈ l, e.2.size ≤ 4294967296) :
    Calls Try.prog 3 #[.string s, .string t, .slice A l.length ca] w fun e w' => e = .returned (.bool true) ∧ Below w.heap.size w w' := by
  have HL := Lib.hid hl
  have HS := Lib.hid hS
  have HLT := Lib.hid hlt
  clear hl hS hlt
  have HFar : Hid (farOf s t = if 200 < (txts s).length ∨ 200 < (txts t).length then ((0 : Int), (2 : Int)) else (((dpI (txts s) (txts t) (txts s).length (txts t).length : Nat) : Int), 0)) := Lib.hid rfl
  have HWE : Hid (wayE s t = if 200 < (txts s).length ∨ 200 < (txts t).length then (2 : Int) else 0) := Lib.hid rfl
  have HWL : Hid (wayL s t = if 200 < (txts s).length ∨ 200 < (txts t).length then [] else wayOf s t) := Lib.hid rfl
  go_enter Try.func3, Try.ntmps3
  go_wp2_with fail
  refine (far_any s t hs ht _).mono ?_
  rintro e w2 ⟨rfl, hb2⟩
  go_wp2_with fail
  refine (way_any s t hs ht _).mono ?_
  rintro e w3 ⟨Aw, cw, rfl, hsw, hb3⟩
  have HB3 := Lib.hid (hb2.trans (hb3.mono hb2.size))
  clear hb2 hb3
  have HW3 := Lib.hid hsw
  clear hsw
  go_wp2_with fail
  refine (rTexts_any s hs _).mono ?_
  rintro e w4 ⟨v, rfl, hown, hb4⟩
  obtain ⟨Ap, cp, rfl, hsp⟩ := txts_sl hs hown
  clear hown
  have HW4 := Lib.hid ((HW3.out.below (fun _ h => h) hb4).more (fun b h => Nat.lt_of_lt_of_le h hb4.size))
  have HB4 := Lib.hid (HB3.out.trans (hb4.mono HB3.out.size))
  have HP4 := Lib.hid hsp
  clear hsp hb4 HW3 HB3
  go_wp2_with fail
  refine (rTexts_any t ht _).mono ?_
  rintro e w5 ⟨v, rfl, hown, hb5⟩
  obtain ⟨Aq, cq, rfl, hsq⟩ := txts_sl ht hown
  clear hown
  have HW5 := Lib.hid ((HW4.out.below (fun _ h => h) hb5).more (fun b h => Nat.lt_of_lt_of_le h hb5.size))
  have HP5 := Lib.hid ((HP4.out.below (fun _ h => h) hb5).more (fun b h => Nat.lt_of_lt_of_le h hb5.size))
  have HB5 := Lib.hid (HB4.out.trans (hb5.mono HB4.out.size))
  have HQ5 := Lib.hid hsq
  clear hsq hb5 HW4 HB4 HP4
  go_wp2_with fail
  refine (do_any S A ca s l hs _ (HL.out.below HS.out HB5.out) (fun b h => Nat.lt_of_lt_of_le (HS.out b h) HB5.out.size) hlen HLT.out).mono ?_
  rintro e w6 ⟨rfl, hb6⟩
  have HW6 := Lib.hid ((HW5.out.below (fun _ h => h) hb6).more (fun b h => Nat.lt_of_lt_of_le h hb6.size))
  have HP6 := Lib.hid ((HP5.out.below (fun _ h => h) hb6).more (fun b h => Nat.lt_of_lt_of_le h hb6.size))
  have HQ6 := Lib.hid ((HQ5.out.below (fun _ h => h) hb6).more (fun b h => Nat.lt_of_lt_of_le h hb6.size))
  have HB6 := Lib.hid (HB5.out.trans (hb6.mono HB5.out.size))
  clear hb6 HW5 HP5 HQ5 HB5
  go_wp2_with fail
  refine (rDo_any S A ca s l hs _ (HL.out.below HS.out HB6.out) (fun b h => Nat.lt_of_lt_of_le (HS.out b h) HB6.out.size) hlen HLT.out).mono ?_
  rintro e w7 ⟨rfl, hb7⟩
  have HW7 := Lib.hid ((HW6.out.below (fun _ h => h) hb7).more (fun b h => Nat.lt_of_lt_of_le h hb7.size))
  have HP7 := Lib.hid ((HP6.out.below (fun _ h => h) hb7).more (fun b h => Nat.lt_of_lt_of_le h hb7.size))
  have HQ7 := Lib.hid ((HQ6.out.below (fun _ h => h) hb7).more (fun b h => Nat.lt_of_lt_of_le h hb7.size))
  have HB7 := Lib.hid (HB6.out.trans (hb7.mono HB6.out.size))
  clear hb7 HW6 HP6 HQ6 HB6
  generalize (doA s l).1 = d1 at *
  generalize (doA s l).2 = d2 at *
  go_wp2_with fail
  refine (begun_any _).mono ?_
  rintro e w8 ⟨rfl, hb8⟩
  have HW8 := Lib.hid ((HW7.out.below (fun _ h => h) hb8).more (fun b h => Nat.lt_of_lt_of_le h hb8.size))
  have HP8 := Lib.hid ((HP7.out.below (fun _ h => h) hb8).more (fun b h => Nat.lt_of_lt_of_le h hb8.size))
  have HQ8 := Lib.hid ((HQ7.out.below (fun _ h => h) hb8).more (fun b h => Nat.lt_of_lt_of_le h hb8.size))
  have HB8 := Lib.hid (HB7.out.trans (hb8.mono HB7.out.size))
  clear hb8 HW7 HP7 HQ7 HB7
  by_cases hlong : 200 < (txts s).length ∨ 200 < (txts t).length
  · have e1 := HFar.out.trans (if_pos hlong)
    have e2 := HWE.out.trans (if_pos hlong)
    have e3 := HWL.out.trans (if_pos hlong)
    rw [e1, e2, e3]
    clear e1 e2 e3 HFar HWE HWL HW8 HP8 HQ8
    rcases hlong with h | h
    · have h1 : (200 : Int) < ((txts s).length : Int) := by omega
      generalize txts s = p at *
      generalize txts t = q at *
      go_wp2
      go_ret
      exact ⟨rfl, HB8.out⟩
    · have h1 : (200 : Int) < ((txts t).length : Int) := by omega
      generalize txts s = p at *
      generalize txts t = q at *
      by_cases h2 : (200 : Int) < (p.length : Int)
      all_goals
        go_wp2
        go_ret
        exact ⟨rfl, HB8.out⟩
  · have e1 := HFar.out.trans (if_neg hlong)
    have e2 := HWE.out.trans (if_neg hlong)
    have e3 := HWL.out.trans (if_neg hlong)
    have hs1 : ¬ 200 < (txts s).length := fun h => hlong (Or.inl h)
    have ht1 : ¬ 200 < (txts t).length := fun h => hlong (Or.inr h)
    have hs2 : ¬ (200 : Int) < ((txts s).length : Int) := by omega
    have ht2 : ¬ (200 : Int) < ((txts t).length : Int) := by omega
    rw [e3] at HW8
    rw [e1, e2, e3]
    have HDW := Lib.hid (way_whole s t hs1 ht1)
    have HCW := Lib.hid (wayOf_cost s t)
    have HMT := Lib.hid (txts_small t)
    have hwl : (wayOf s t).length ≤ 400 := by
      have := way_len (txts s) (txts t) (txts s).length (txts t).length
      unfold wayOf; rw [List.length_reverse]; omega
    have HWM : Hid (∀ e ∈ wayOf s t, e.2.size ≤ 4294967296) := Lib.hid fun e he => by
      have := way_small (txts s) (txts t) 4 HMT.out _ _ e (List.mem_reverse.1 he)
      omega
    clear e1 e2 e3 HFar HWE HWL hlong hs1 ht1 HMT
    generalize wayOf s t = W at *
    generalize hp : txts s = p at *
    generalize hq : txts t = q at *
    clear hp hq
    go_wp2_with fail
    refine (rDo_any _ Aw cw s W hs _ HW8.out (fun _ h => h) (by omega) HWM.out).mono ?_
    rintro e w9 ⟨rfl, hb9⟩
    rw [HDW.out]
    have HW9 := Lib.hid ((HW8.out.below (fun _ h => h) hb9).more (fun b h => Nat.lt_of_lt_of_le h hb9.size))
    have HP9 := Lib.hid ((HP8.out.below (fun _ h => h) hb9).more (fun b h => Nat.lt_of_lt_of_le h hb9.size))
    have HQ9 := Lib.hid ((HQ8.out.below (fun _ h => h) hb9).more (fun b h => Nat.lt_of_lt_of_le h hb9.size))
    have HB9 := Lib.hid (HB8.out.trans (hb9.mono HB8.out.size))
    clear hb9 HW8 HP8 HQ8 HB8 HDW HWM
    have hcl := cost_le W
    go_wp2
    go_loop [17, 18] (fun cv iv => ∃ i : Nat, i ≤ W.length ∧ iv = .int .i64 (i : Int) ∧ cv = .int .i64 ((costI (W.take i) : Nat) : Int)) (fun _ iv => W.length - (intOf iv).toNat)
    case atStart => exact ⟨0, by omega, rfl, by simp [costI]⟩
    case round =>
      obtain ⟨i, hi, rfl, rfl⟩ := hrel
      by_cases hlt : i < W.length
      · obtain ⟨ad, rfl, _, hi64, c0, c1⟩ := ed_at HW9.out hlt
        have HCS := Lib.hid (cost_snoc W hlt)
        have hc2 := cost_le (W.take i)
        have hc3 : (W.take i).length ≤ i := List.length_take_le _ _
        generalize costI (W.take i) = c at *
        generalize hkd : (W[i]'hlt).1 = kd at *
        clear hkd
        by_cases h1 : kd = 1
        · subst h1
          have HC2 := Lib.hid (HCS.out.trans (by rw [if_pos rfl]))
          clear HCS
          go_wp2
          go_round
          case rel => exact ⟨i + 1, by omega, by go_num, by rw [HC2.out, Nat.add_zero]⟩
          case measure => simp [intOf]; omega
        · have h2 : (kd != 1) = true := by simp; omega
          have HC2 := Lib.hid (HCS.out.trans (by rw [if_neg h1]))
          clear HCS
          go_wp2
          go_round
          case rel => exact ⟨i + 1, by omega, by go_num, by rw [HC2.out]; go_num⟩
          case measure => simp [intOf]; omega
      · have hii : i = W.length := by omega
        subst hii
        rw [List.take_length]
        have HCW2 := HCW.out
        rw [HCW2]
        go_wp2_with fail
        refine (rFar_any _ Ap Aq cp cq p q _ HP9.out HQ9.out (fun _ h => h) (by omega) (by omega)).mono ?_
        rintro e w10 ⟨rfl, hb10⟩
        have HB10 := Lib.hid (HB9.out.trans (hb10.mono HB9.out.size))
        clear hb10 HCW2
        generalize dpI p q p.length q.length = x at *
        go_wp2
        go_ret
        exact ⟨rfl, HB10.out⟩
theorem opens_edit : Opens Try.prog 34 rEd := opens_struct (l := [_, _]) Try.underlying34 rfl (opens_more rfl rfl (opens_int Try.underlying3) (opens_last rfl rfl (opens_string Try.underlying9)))
theorem opens_edits : Opens Try.prog 22 (rList rEd) := opens_slice Try.underlying22 rfl (by decide) opens_edit
theorem edits_bulk : ∀ l : List Ed, l.length ≤ (l.map rEd.bulk).sum ∧ ∀ e ∈ l, e.2.size ≤ (l.map rEd.bulk).sum
  | [] => by simp
  | e :: l => by
    have ih := edits_bulk l
    have hb : rEd.bulk e = 1 + (e.2.size + 1) := rfl
    simp only [List.map_cons, List.sum_cons, List.length_cons]
    refine ⟨by omega, fun x hx => ?_⟩
    rcases List.mem_cons.1 hx with rfl | hx
    · omega
    · have := ih.2 x hx; omega
end Go.Proofs.Ytdepkpnicfcbiaa
