/- Spelling: what edits make of a text, by the document: the walk. -/
import Derived.Test.YtdepkpnicfcbiaaSp9
namespace Go.Proofs.Ytdepkpnicfcbiaa
open Go.RowKit

set_option maxRecDepth 100000 in
set_option maxHeartbeats 16000000 in
theorem rDo_any (S : Nat → Prop) (A : Option Addr) (ca : Nat) (s : ByteArray) (l : List Ed) (hs : s.size ≤ 4294967296) (w : World) (hl : Sl rEd w S A ca l) (hS : ∀ b, S b → b < w.heap.size) (hlen : l.length ≤ 4294967296) (ht : ∀ e ∈ l, e.2.size ≤ 4294967296) :
    Calls Try.prog 8 #[.string s, .slice A l.length ca] w fun e w' => e = .returned (.tuple #[.string (doA s l).1, .int .i64 (doA s l).2]) ∧ Below w.heap.size w w' := by
  have HDA : Hid (doA s l = if 200 < (txts s).length then (none_, 2) else doI (txts s) l 0 0 none_) := Lib.hid rfl
  obtain ⟨r1, hr1⟩ : ∃ r1, r1 = (doA s l).1 := ⟨_, rfl⟩
  obtain ⟨r2, hr2⟩ : ∃ r2, r2 = (doA s l).2 := ⟨_, rfl⟩
  rw [← hr1, ← hr2]
  have HR1 := Lib.hid hr1
  have HR2 := Lib.hid hr2
  clear hr1 hr2
  have HL := Lib.hid hl
  have HS := Lib.hid hS
  have HT := Lib.hid ht
  have hca := hl.le
  have hcam := hl.max
  unfold maxLen at hcam
  clear hl hS ht
  have HTS := Lib.hid (txts_small s)
  go_enter Try.func8, Try.ntmps8
  go_wp2_with fail
  refine (rTexts_any s hs _).mono ?_
  rintro e w2 ⟨v, rfl, hown, hb1⟩
  obtain ⟨Ap, cp, rfl, hsl⟩ := txts_sl hs hown
  clear hown
  have HP := Lib.hid hsl
  have HB2 := Lib.hid hb1
  clear hsl hb1
  generalize txts s = p at *
  by_cases hp : 200 < p.length
  · have hp1 : (200 : Int) < (p.length : Int) := by omega
    have HDA := Lib.hid (HDA.out.trans (if_pos hp))
    go_wp2
    go_ret2
    rw [HR1.out, HR2.out, HDA.out]
    exact ⟨rfl, HB2.out⟩
  · have hp1 : ¬ (200 : Int) < (p.length : Int) := by omega
    have HDA := Lib.hid (HDA.out.trans (if_neg hp))
    have HX0 : Hid (Below w2.heap.size w2 w2) := Lib.hid (Below.refl _ _)
    have HD0 : Hid (doI p (l.drop 0) 0 0 none_ = doA s l) := Lib.hid (by rw [List.drop_zero]; exact HDA.out.symm)
    clear HDA
    go_wp2
    go_loopw [7, 8, 9, 10] (fun ov av nv kv wr => ∃ (k a n : Nat) (out : ByteArray), k ≤ l.length ∧ kv = .int .i64 (k : Int) ∧ ov = .string out ∧ av = .int .i64 (a : Int) ∧ nv = .int .i64 (n : Int) ∧ a ≤ p.length ∧ n ≤ k ∧ out.size ≤ 4 * k ∧ Hid (doI p (l.drop k) a n out = doA s l) ∧ Hid (Below w2.heap.size w2 wr)) (fun _ _ _ kv _ => l.length - (intOf kv).toNat)
    case atStart => exact ⟨0, 0, 0, none_, by omega, rfl, rfl, rfl, rfl, by omega, by omega, by decide, HD0, HX0⟩
    case round =>
      obtain ⟨k, a, n, out, hk, rfl, rfl, rfl, rfl, ha, hn, ho, HD, HX⟩ := hrel
      clear HD0 HX0
      by_cases hlt : k < l.length
      · have HXw : Hid (Below w.heap.size w wr) := Lib.hid (HB2.out.trans (HX.out.mono HB2.out.size))
        obtain ⟨ad, rfl, _, hi64, c0, c1⟩ := ed_at (HL.out.below HS.out HXw.out) hlt
        have HD := Lib.hid ((congrArg (fun x => doI p x a n out) (drop_cons hlt)).symm.trans HD.out)
        have htx := HT.out _ (List.getElem_mem hlt)
        generalize l[k]'hlt = ed at *
        obtain ⟨kd, tx⟩ := ed
        dsimp only at c0 c1 htx hi64 HD
        have hkl : (k : Int) < (l.length : Int) := by omega
        by_cases hlo : kd < 1
        · skip
          -- {{KL
          go_wp2_with fail
          refine (rTexts_any tx htx _).mono ?_
          rintro e w6 ⟨v, rfl, hown, hb6⟩
          obtain ⟨Au, cu, rfl, _⟩ := txts_sl htx hown
          have b0 := (hb6.cell (p := ⟨wr.heap.size, 0, none⟩) (by simp)).trans (cells2_box wr _ _ _).1
          have b1 := (hb6.cell (p := ⟨wr.heap.size, 1, none⟩) (by simp)).trans (cells2_box wr _ _ _).2
          have HX6 : Hid (Below w2.heap.size w2 w6) := Lib.hid ((HX.out.alloc HX.out.size _).trans (hb6.mono (by have := HX.out.size; simp; omega)))
          clear hown hb6 HX c0 c1
          generalize wr.heap.size = g at *
          generalize hq : txts tx = q at *
          have HQ := Lib.hid hq
          clear hq
          by_cases hq1 : q.length = 1
          · have o1 : ((q.length : Int) == 1) = true := by simp; omega
            have HE : Hid (doA s l = (none_, 1)) := Lib.hid (HD.out.symm.trans (do_bad (by unfold badE; exact Or.inl hlo)))
            clear HD
            go_wp2
            go_ret2
            rw [HR1.out, HR2.out, HE.out]
            exact ⟨rfl, HB2.out.trans (HX6.out.mono HB2.out.size)⟩
          · have o1 : ((q.length : Int) == 1) = false := by simp; omega
            have HE : Hid (doA s l = (none_, 1)) := Lib.hid (HD.out.symm.trans (do_bad (by unfold badE; exact Or.inl hlo)))
            clear HD
            go_wp2
            go_ret2
            rw [HR1.out, HR2.out, HE.out]
            exact ⟨rfl, HB2.out.trans (HX6.out.mono HB2.out.size)⟩
          -- }}
        · by_cases hhi : 4 < kd
          · skip
            -- {{KH
            go_wp2_with fail
            refine (rTexts_any tx htx _).mono ?_
            rintro e w6 ⟨v, rfl, hown, hb6⟩
            obtain ⟨Au, cu, rfl, _⟩ := txts_sl htx hown
            have b0 := (hb6.cell (p := ⟨wr.heap.size, 0, none⟩) (by simp)).trans (cells2_box wr _ _ _).1
            have b1 := (hb6.cell (p := ⟨wr.heap.size, 1, none⟩) (by simp)).trans (cells2_box wr _ _ _).2
            have HX6 : Hid (Below w2.heap.size w2 w6) := Lib.hid ((HX.out.alloc HX.out.size _).trans (hb6.mono (by have := HX.out.size; simp; omega)))
            clear hown hb6 HX c0 c1
            generalize wr.heap.size = g at *
            generalize hq : txts tx = q at *
            have HQ := Lib.hid hq
            clear hq
            by_cases hq1 : q.length = 1
            · have o1 : ((q.length : Int) == 1) = true := by simp; omega
              have HE : Hid (doA s l = (none_, 1)) := Lib.hid (HD.out.symm.trans (do_bad (by unfold badE; exact Or.inr (Or.inl hhi))))
              clear HD
              go_wp2
              go_ret2
              rw [HR1.out, HR2.out, HE.out]
              exact ⟨rfl, HB2.out.trans (HX6.out.mono HB2.out.size)⟩
            · have o1 : ((q.length : Int) == 1) = false := by simp; omega
              have HE : Hid (doA s l = (none_, 1)) := Lib.hid (HD.out.symm.trans (do_bad (by unfold badE; exact Or.inr (Or.inl hhi))))
              clear HD
              go_wp2
              go_ret2
              rw [HR1.out, HR2.out, HE.out]
              exact ⟨rfl, HB2.out.trans (HX6.out.mono HB2.out.size)⟩
            -- }}
          · obtain rfl | rfl | rfl | rfl : kd = 1 ∨ kd = 2 ∨ kd = 3 ∨ kd = 4 := by omega
            all_goals clear hlo hhi hi64
            · skip
              -- {{K1
              by_cases htn : tx = none_
              · have HTN := Lib.hid htn
                have o5 : tx.toList = [] := by rw [htn]; exact nil_toList
                clear htn
                go_wp2_with fail
                refine (rTexts_any tx htx _).mono ?_
                rintro e w6 ⟨v, rfl, hown, hb6⟩
                obtain ⟨Au, cu, rfl, _⟩ := txts_sl htx hown
                have b0 := (hb6.cell (p := ⟨wr.heap.size, 0, none⟩) (by simp)).trans (cells2_box wr _ _ _).1
                have b1 := (hb6.cell (p := ⟨wr.heap.size, 1, none⟩) (by simp)).trans (cells2_box wr _ _ _).2
                have HX6 : Hid (Below w2.heap.size w2 w6) := Lib.hid ((HX.out.alloc HX.out.size _).trans (hb6.mono (by have := HX.out.size; simp; omega)))
                clear hown hb6 HX c0 c1
                generalize wr.heap.size = g at *
                generalize hq : txts tx = q at *
                have HQ := Lib.hid hq
                clear hq
                have hq0 : q.length = 0 := by rw [← HQ.out, HTN.out]; exact congrArg List.length txts_nil
                have o1 : ((q.length : Int) == 1) = false := by simp; omega
                by_cases hal : a = p.length
                · have o2 : ((a : Int) == (p.length : Int)) = true := by simp; omega
                  have o3 : (a == p.length) = true := by simp; omega
                  have HE : Hid (doA s l = (none_, 1)) := Lib.hid (HD.out.symm.trans (do_bad (by unfold badE; exact Or.inr (Or.inr (Or.inr (Or.inr ⟨show (1 : Int) ≠ 4 by decide, hal⟩))))))
                  clear HD
                  go_wp2
                  go_ret2
                  rw [HR1.out, HR2.out, HE.out]
                  exact ⟨rfl, HB2.out.trans (HX6.out.mono HB2.out.size)⟩
                · have o2 : ((a : Int) == (p.length : Int)) = false := by simp; omega
                  have o3 : (a == p.length) = false := by simp; omega
                  have hpe : p[a]? = some (p[a]'(by omega)) := List.getElem?_eq_getElem (by omega)
                  have hpd : p.getD a none_ = p[a]'(by omega) := by rw [List.getD_eq_getElem?_getD, hpe]; rfl
                  have HK := Lib.hid (do_keep (p := p) (e := (1, tx)) (l := l.drop (k + 1)) (a := a) (n := n) (out := out) rfl HTN.out (by omega))
                  have HK2 : Hid (doI p ((1, tx) :: l.drop (k + 1)) a n out = doI p (l.drop (k + 1)) (a + 1) (n + 1) (out ++ p[a]'(by omega))) := Lib.hid (by rw [HK.out, hpd])
                  obtain ⟨ap, rfl, _, _, ca0⟩ := str_at (HP.out.below (fun b h => h) HX6.out) (k := a) (by omega)
                  have hx4 := HTS.out _ (List.getElem_mem (by omega : a < p.length))
                  clear hpe hpd HK
                  generalize p[a]'(by omega) = sp at *
                  have hal2 : (a : Int) < (p.length : Int) := by omega
                  have HN := Lib.hid ((HK2.out).symm.trans HD.out)
                  have hos : (out ++ sp).size ≤ 4 * (k + 1) := by rw [ByteArray.size_append]; omega
                  clear HD
                  go_wp2
                  go_roundw
                  case rel => exact ⟨k + 1, a + 1, n + 1, out ++ sp, by omega, by go_num, rfl, by go_num, by go_num, by omega, by omega, hos, HN, HX6⟩
                  case measure => simp [intOf]; omega
              · have o4 := ne_toList htn
                go_wp2_with fail
                refine (rTexts_any tx htx _).mono ?_
                rintro e w6 ⟨v, rfl, hown, hb6⟩
                obtain ⟨Au, cu, rfl, _⟩ := txts_sl htx hown
                have b0 := (hb6.cell (p := ⟨wr.heap.size, 0, none⟩) (by simp)).trans (cells2_box wr _ _ _).1
                have b1 := (hb6.cell (p := ⟨wr.heap.size, 1, none⟩) (by simp)).trans (cells2_box wr _ _ _).2
                have HX6 : Hid (Below w2.heap.size w2 w6) := Lib.hid ((HX.out.alloc HX.out.size _).trans (hb6.mono (by have := HX.out.size; simp; omega)))
                clear hown hb6 HX c0 c1
                generalize wr.heap.size = g at *
                generalize hq : txts tx = q at *
                have HQ := Lib.hid hq
                clear hq
                by_cases hq1 : q.length = 1
                · have o1 : ((q.length : Int) == 1) = true := by simp; omega
                  have HE : Hid (doA s l = (none_, 1)) := Lib.hid (HD.out.symm.trans (do_bad (by unfold badE; exact Or.inr (Or.inr (Or.inr (Or.inl ⟨Or.inl rfl, htn⟩))))))
                  clear HD
                  go_wp2
                  go_ret2
                  rw [HR1.out, HR2.out, HE.out]
                  exact ⟨rfl, HB2.out.trans (HX6.out.mono HB2.out.size)⟩
                · have o1 : ((q.length : Int) == 1) = false := by simp; omega
                  have HE : Hid (doA s l = (none_, 1)) := Lib.hid (HD.out.symm.trans (do_bad (by unfold badE; exact Or.inr (Or.inr (Or.inr (Or.inl ⟨Or.inl rfl, htn⟩))))))
                  clear HD
                  go_wp2
                  go_ret2
                  rw [HR1.out, HR2.out, HE.out]
                  exact ⟨rfl, HB2.out.trans (HX6.out.mono HB2.out.size)⟩
              -- }}
            · skip
              -- {{K2
              go_wp2_with fail
              refine (rTexts_any tx htx _).mono ?_
              rintro e w6 ⟨v, rfl, hown, hb6⟩
              obtain ⟨Au, cu, rfl, _⟩ := txts_sl htx hown
              have b0 := (hb6.cell (p := ⟨wr.heap.size, 0, none⟩) (by simp)).trans (cells2_box wr _ _ _).1
              have b1 := (hb6.cell (p := ⟨wr.heap.size, 1, none⟩) (by simp)).trans (cells2_box wr _ _ _).2
              have HX6 : Hid (Below w2.heap.size w2 w6) := Lib.hid ((HX.out.alloc HX.out.size _).trans (hb6.mono (by have := HX.out.size; simp; omega)))
              clear hown hb6 HX c0 c1
              generalize wr.heap.size = g at *
              generalize hq : txts tx = q at *
              have HQ := Lib.hid hq
              clear hq
              by_cases hq1 : q.length = 1
              · have o1 : ((q.length : Int) == 1) = true := by simp; omega
                by_cases hal : a = p.length
                · have o2 : ((a : Int) == (p.length : Int)) = true := by simp; omega
                  have o3 : (a == p.length) = true := by simp; omega
                  have HE : Hid (doA s l = (none_, 1)) := Lib.hid (HD.out.symm.trans (do_bad (by unfold badE; exact Or.inr (Or.inr (Or.inr (Or.inr ⟨show (2 : Int) ≠ 4 by decide, hal⟩))))))
                  clear HD
                  go_wp2
                  go_ret2
                  rw [HR1.out, HR2.out, HE.out]
                  exact ⟨rfl, HB2.out.trans (HX6.out.mono HB2.out.size)⟩
                · have o2 : ((a : Int) == (p.length : Int)) = false := by simp; omega
                  have o3 : (a == p.length) = false := by simp; omega
                  have h4 : tx.size ≤ 4 := one_small tx (by rw [HQ.out]; exact hq1)
                  have HN := Lib.hid ((do_turn rfl (by rw [HQ.out]; exact hq1) (by omega)).symm.trans HD.out)
                  have hos : (out ++ tx).size ≤ 4 * (k + 1) := by rw [ByteArray.size_append]; omega
                  clear HD
                  go_wp2
                  go_roundw
                  case rel => exact ⟨k + 1, a + 1, n + 1, out ++ tx, by omega, by go_num, rfl, by go_num, by go_num, by omega, by omega, hos, HN, HX6⟩
                  case measure => simp [intOf]; omega
              · have o1 : ((q.length : Int) == 1) = false := by simp; omega
                have HE : Hid (doA s l = (none_, 1)) := Lib.hid (HD.out.symm.trans (do_bad (by unfold badE; exact Or.inr (Or.inr (Or.inl ⟨Or.inl rfl, by rw [HQ.out]; exact hq1⟩)))))
                clear HD
                go_wp2
                go_ret2
                rw [HR1.out, HR2.out, HE.out]
                exact ⟨rfl, HB2.out.trans (HX6.out.mono HB2.out.size)⟩
              -- }}
            · skip
              -- {{K3
              by_cases htn : tx = none_
              · have HTN := Lib.hid htn
                have o5 : tx.toList = [] := by rw [htn]; exact nil_toList
                clear htn
                go_wp2_with fail
                refine (rTexts_any tx htx _).mono ?_
                rintro e w6 ⟨v, rfl, hown, hb6⟩
                obtain ⟨Au, cu, rfl, _⟩ := txts_sl htx hown
                have b0 := (hb6.cell (p := ⟨wr.heap.size, 0, none⟩) (by simp)).trans (cells2_box wr _ _ _).1
                have b1 := (hb6.cell (p := ⟨wr.heap.size, 1, none⟩) (by simp)).trans (cells2_box wr _ _ _).2
                have HX6 : Hid (Below w2.heap.size w2 w6) := Lib.hid ((HX.out.alloc HX.out.size _).trans (hb6.mono (by have := HX.out.size; simp; omega)))
                clear hown hb6 HX c0 c1
                generalize wr.heap.size = g at *
                generalize hq : txts tx = q at *
                have HQ := Lib.hid hq
                clear hq
                have hq0 : q.length = 0 := by rw [← HQ.out, HTN.out]; exact congrArg List.length txts_nil
                have o1 : ((q.length : Int) == 1) = false := by simp; omega
                by_cases hal : a = p.length
                · have o2 : ((a : Int) == (p.length : Int)) = true := by simp; omega
                  have o3 : (a == p.length) = true := by simp; omega
                  have HE : Hid (doA s l = (none_, 1)) := Lib.hid (HD.out.symm.trans (do_bad (by unfold badE; exact Or.inr (Or.inr (Or.inr (Or.inr ⟨show (3 : Int) ≠ 4 by decide, hal⟩))))))
                  clear HD
                  go_wp2
                  go_ret2
                  rw [HR1.out, HR2.out, HE.out]
                  exact ⟨rfl, HB2.out.trans (HX6.out.mono HB2.out.size)⟩
                · have o2 : ((a : Int) == (p.length : Int)) = false := by simp; omega
                  have o3 : (a == p.length) = false := by simp; omega
                  have HN := Lib.hid ((do_drop rfl HTN.out (by omega)).symm.trans HD.out)
                  clear HD
                  go_wp2
                  go_roundw
                  case rel => exact ⟨k + 1, a + 1, n, out, by omega, by go_num, rfl, by go_num, rfl, by omega, by omega, by omega, HN, HX6⟩
                  case measure => simp [intOf]; omega
              · have o4 := ne_toList htn
                go_wp2_with fail
                refine (rTexts_any tx htx _).mono ?_
                rintro e w6 ⟨v, rfl, hown, hb6⟩
                obtain ⟨Au, cu, rfl, _⟩ := txts_sl htx hown
                have b0 := (hb6.cell (p := ⟨wr.heap.size, 0, none⟩) (by simp)).trans (cells2_box wr _ _ _).1
                have b1 := (hb6.cell (p := ⟨wr.heap.size, 1, none⟩) (by simp)).trans (cells2_box wr _ _ _).2
                have HX6 : Hid (Below w2.heap.size w2 w6) := Lib.hid ((HX.out.alloc HX.out.size _).trans (hb6.mono (by have := HX.out.size; simp; omega)))
                clear hown hb6 HX c0 c1
                generalize wr.heap.size = g at *
                generalize hq : txts tx = q at *
                have HQ := Lib.hid hq
                clear hq
                by_cases hq1 : q.length = 1
                · have o1 : ((q.length : Int) == 1) = true := by simp; omega
                  have HE : Hid (doA s l = (none_, 1)) := Lib.hid (HD.out.symm.trans (do_bad (by unfold badE; exact Or.inr (Or.inr (Or.inr (Or.inl ⟨Or.inr rfl, htn⟩))))))
                  clear HD
                  go_wp2
                  go_ret2
                  rw [HR1.out, HR2.out, HE.out]
                  exact ⟨rfl, HB2.out.trans (HX6.out.mono HB2.out.size)⟩
                · have o1 : ((q.length : Int) == 1) = false := by simp; omega
                  have HE : Hid (doA s l = (none_, 1)) := Lib.hid (HD.out.symm.trans (do_bad (by unfold badE; exact Or.inr (Or.inr (Or.inr (Or.inl ⟨Or.inr rfl, htn⟩))))))
                  clear HD
                  go_wp2
                  go_ret2
                  rw [HR1.out, HR2.out, HE.out]
                  exact ⟨rfl, HB2.out.trans (HX6.out.mono HB2.out.size)⟩
              -- }}
            · skip
              -- {{K4
              go_wp2_with fail
              refine (rTexts_any tx htx _).mono ?_
              rintro e w6 ⟨v, rfl, hown, hb6⟩
              obtain ⟨Au, cu, rfl, _⟩ := txts_sl htx hown
              have b0 := (hb6.cell (p := ⟨wr.heap.size, 0, none⟩) (by simp)).trans (cells2_box wr _ _ _).1
              have b1 := (hb6.cell (p := ⟨wr.heap.size, 1, none⟩) (by simp)).trans (cells2_box wr _ _ _).2
              have HX6 : Hid (Below w2.heap.size w2 w6) := Lib.hid ((HX.out.alloc HX.out.size _).trans (hb6.mono (by have := HX.out.size; simp; omega)))
              clear hown hb6 HX c0 c1
              generalize wr.heap.size = g at *
              generalize hq : txts tx = q at *
              have HQ := Lib.hid hq
              clear hq
              by_cases hq1 : q.length = 1
              · have o1 : ((q.length : Int) == 1) = true := by simp; omega
                have h4 : tx.size ≤ 4 := one_small tx (by rw [HQ.out]; exact hq1)
                have HN := Lib.hid ((do_put rfl (by rw [HQ.out]; exact hq1)).symm.trans HD.out)
                have hos : (out ++ tx).size ≤ 4 * (k + 1) := by rw [ByteArray.size_append]; omega
                clear HD
                go_wp2
                go_roundw
                case rel => exact ⟨k + 1, a, n + 1, out ++ tx, by omega, by go_num, rfl, by go_num, by go_num, by omega, by omega, hos, HN, HX6⟩
                case measure => simp [intOf]; omega
              · have o1 : ((q.length : Int) == 1) = false := by simp; omega
                have HE : Hid (doA s l = (none_, 1)) := Lib.hid (HD.out.symm.trans (do_bad (by unfold badE; exact Or.inr (Or.inr (Or.inl ⟨Or.inr rfl, by rw [HQ.out]; exact hq1⟩)))))
                clear HD
                go_wp2
                go_ret2
                rw [HR1.out, HR2.out, HE.out]
                exact ⟨rfl, HB2.out.trans (HX6.out.mono HB2.out.size)⟩
              -- }}
      · have hkk : k = l.length := by omega
        subst hkk
        have HDN : Hid (doI p [] a n out = doA s l) := Lib.hid (by have h := HD.out; rwa [List.drop_length] at h)
        clear HD
        by_cases h1 : a < p.length
        · have hI : ((a : Int) != (p.length : Int)) = true := by simp; omega
          have hI3 : (a != p.length) = true := by simp; omega
          have HE : Hid (doA s l = (none_, 1)) := Lib.hid (by rw [← HDN.out, doI, if_pos h1])
          clear HDN
          go_wp2
          go_ret2
          rw [HR1.out, HR2.out, HE.out]
          exact ⟨rfl, HB2.out.trans (HX.out.mono HB2.out.size)⟩
        · have hI : ((a : Int) != (p.length : Int)) = false := by simp; omega
          have hI3 : (a != p.length) = false := by simp; omega
          by_cases h2 : 200 < n
          · have hI2 : (200 : Int) < (n : Int) := by omega
            have HE : Hid (doA s l = (none_, 2)) := Lib.hid (by rw [← HDN.out, doI, if_neg h1, if_pos h2])
            clear HDN
            go_wp2
            go_ret2
            rw [HR1.out, HR2.out, HE.out]
            exact ⟨rfl, HB2.out.trans (HX.out.mono HB2.out.size)⟩
          · have hI2 : ¬ (200 : Int) < (n : Int) := by omega
            have HE : Hid (doA s l = (out, 0)) := Lib.hid (by rw [← HDN.out, doI, if_neg h1, if_neg h2])
            clear HDN
            go_wp2
            go_ret2
            rw [HR1.out, HR2.out, HE.out]
            exact ⟨rfl, HB2.out.trans (HX.out.mono HB2.out.size)⟩
end Go.Proofs.Ytdepkpnicfcbiaa
