/- The walk of the law LettersWhole. -/
import Derived.Test.YtebmdabdckebhaaA7
import Derived.Test.YtebmdabdckebhaaA9
import Derived.Test.YtebmdabdckebhaaA10
import Derived.Test.YtebmdabdckebhaaP7
namespace Go.Proofs.Ytebmdabdckebhaa
open Go.RowKit

theorem ba_self (x : ByteArray) : (x == x) = true := by
  show (x.data == x.data) = true
  simp
theorem ba_ne (x : ByteArray) : (x != x) = false := by unfold bne; rw [ba_self]; rfl
theorem enc8364 : encS 8364 = ⟨#[226, 130, 172]⟩ ∧ encE 8364 = 0 := by decide +kernel
theorem fold_one : foldL ⟨#[226, 130, 172, 255, 65]⟩ = [226, 130, 172, 255, 97] := by decide +kernel

theorem foldB_size (s : ByteArray) (hs : s.size ≤ 1048576) : (foldB s).size ≤ 4294967296 := by
  have h1 := foldTake_len s (unitsFrom s s.size 0) (unitsFrom s s.size 0).length
  rw [List.take_of_length_le (Nat.le_refl _)] at h1
  have h2 := units_len s s.size 0
  have h3 : (foldB s).size = (foldL s).length := by rw [← size_list, foldB_list]
  have h4 : (foldL s).length ≤ 4 * (unitsFrom s s.size 0).length := h1
  omega

set_option maxRecDepth 100000 in
set_option maxHeartbeats 4000000 in
theorem lawWhole_any (s : ByteArray) (hs : s.size ≤ 1048576) (w : World) :
    Calls Try.prog 5 #[.string s] w fun e w' => e = .returned (.bool true) ∧ Below w.heap.size w w' := by
  have hs4 : s.size ≤ 4294967296 := by omega
  have hX0 := Lib.hid (Below.refl w.heap.size w)
  go_enter Try.func5, Try.ntmps5
  go_wp2_with fail
  refine (encode_any 8364 (by decide) _).mono ?_
  rintro e w' ⟨rfl, rfl⟩
  rw [enc8364.1, enc8364.2]
  go_wp2_with fail
  rw [show (⟨#[226, 130, 172]⟩ ++ ⟨#[255, 65]⟩ : ByteArray) = ⟨#[226, 130, 172, 255, 65]⟩ from by decide +kernel]
  refine (fold_any _ (by decide) _).mono ?_
  rintro e w1 ⟨rfl, hb1⟩
  rw [fold_one]
  have hX1 := Lib.hid (hX0.out.trans hb1)
  clear hb1 hX0
  have cc : ((⟨#[226, 130, 172]⟩ ++ ⟨#[255, 97]⟩ : ByteArray)) = ⟨#[226, 130, 172, 255, 97]⟩ := by decide +kernel
  go_wp2_with fail
  clear cc
  refine (fold_any s hs4 _).mono ?_
  rintro e w2 ⟨rfl, hb2⟩
  have hX2 := Lib.hid (hX1.out.trans (hb2.mono hX1.out.size))
  clear hb2 hX1
  rw [show (⟨(foldL s).toArray⟩ : ByteArray) = foldB s from rfl]
  go_wp2_with fail
  refine (units_any s hs4 _).mono ?_
  rintro e w3 ⟨v1, rfl, hown1, hb3⟩
  have hX3 := Lib.hid (hX2.out.trans (hb3.mono hX2.out.size))
  clear hb3 hX2
  go_wp2_with fail
  refine (units_any (foldB s) (foldB_size s hs) _).mono ?_
  rintro e w4 ⟨v2, rfl, hown2, hb4⟩
  have hX4 := Lib.hid (hX3.out.trans (hb4.mono hX3.out.size))
  replace hown1 := own_below_all hown1 hb4
  rw [units_fold_len] at hown2
  obtain ⟨A1, c1, rfl⟩ := own_slice hown1
  obtain ⟨A2, c2, rfl⟩ := own_slice hown2
  have hO4 := Lib.hid (And.intro hown1 hown2)
  clear hb4 hX3 hown1 hown2
  go_wp2_with fail
  refine (fold_any (foldB s) (foldB_size s hs) _).mono ?_
  rintro e w5 ⟨rfl, hb5⟩
  rw [fold_fold, show (⟨(foldL s).toArray⟩ : ByteArray) = foldB s from rfl]
  have hX5 := Lib.hid (hX4.out.trans (hb5.mono hX4.out.size))
  have hO5 := Lib.hid (And.intro (own_below_all hO4.out.1 hb5) (own_below_all hO4.out.2 hb5))
  clear hb5 hX4 hO4
  have HM := Lib.hid (unit_mem s s.size 0)
  have HC := Lib.hid (units_contig s s.size 0 (by omega) (by omega))
  have HG := Lib.hid (units_fold_get s)
  have HK : Hid (∀ i (h : i < (unitsFrom s s.size 0).length) (h' : i < (unitsFrom (foldB s) (foldB s).size 0).length), kindS ((unitsFrom s s.size 0)[i]'h).2.2 = kindS ((unitsFrom (foldB s) (foldB s).size 0)[i]'h').2.2) := Lib.hid (fun i h _ => fold_kinds s i h)
  have hll := units_len s s.size 0
  have HLL := Lib.hid (units_fold_len s)
  generalize unitsFrom s s.size 0 = l at *
  generalize unitsFrom (foldB s) (foldB s).size 0 = l' at *
  have HB0 : Hid (foldB s = foldB s) := Lib.hid rfl
  go_wp2
  go_loopw [8, 9] (fun at_ i wr => ∃ k : Nat, k ≤ l.length ∧ i = .int .i64 (k : Int) ∧ at_ = .int .i64 (endAt l s.size k) ∧ wr.ownsRow w2.heap.size 26 3 (.slice A1 l.length c1) l.length (unitCells l) ∧ wr.ownsRow w3.heap.size 26 3 (.slice A2 l.length c2) l'.length (unitCells l') ∧ Below w.heap.size w wr) (fun _ i _ => l.length - (intOf i).toNat)
  case atStart => exact ⟨0, by omega, rfl, by rw [(contig_step HC.out).1]; rfl, hO5.out.1, by rw [HLL.out]; exact hO5.out.2, hX5.out⟩
  case round =>
    obtain ⟨k, hk, rfl, rfl, hown1, hown2, hnx⟩ := hrel
    have hsz := hnx.size
    have HX := Lib.hid hnx
    clear hnx
    by_cases hlt : k < l.length
    · obtain ⟨g1, rfl, -, hg1, hg2, a0, a1, a2⟩ := row3_at hown1 hlt
      obtain ⟨g2, rfl, -, hg3, hg4, b0, b1, b2⟩ := row3_at hown2 (k := k) (by rw [HLL.out]; exact hlt)
      obtain ⟨b, hb, he⟩ := HM.out _ (List.getElem_mem hlt)
      have hG := HG.out k hlt (by rw [HLL.out]; exact hlt)
      have hend := atR_end s b hb
      have hn1 := atR_2 s b
      have hcb := atR_1 s b
      have HT := Lib.hid (enc_text s b hb)
      have HN1 := Lib.hid (atR_neg s b hb)
      have hnext := (contig_step HC.out).2 k hlt
      have hst := endAt_lt (z := (s.size : Int)) hlt
      obtain ⟨n, hn⟩ : ∃ n : Nat, (atR s b).2 = (n : Int) := ⟨(atR s b).2.toNat, by omega⟩
      rw [he] at a0 a1 a2 hG hnext hst
      dsimp only at a0 a1 a2 hG hnext hst
      rw [hn] at a1 hend hn1 HT hnext HN1
      rw [Int.toNat_natCast] at HT
      rw [hG] at b2
      rw [hst]
      have HN := Lib.hid hnext
      have HO := Lib.hid (And.intro (hown1.alloc (.cells #[.int .i64 b, .int .i64 n, .int .i64 (atR s b).1] 26)) (hown2.alloc (.cells #[.int .i64 b, .int .i64 n, .int .i64 (atR s b).1] 26)))
      clear hnext hst he hn hG hown1 hown2 b0 b1
      obtain ⟨hn1, hn2⟩ := hn1
      obtain ⟨hc1, hc2⟩ := hcb
      have t1 : decide ((n : Int) < 1) = false := by simp; omega
      have t2 : decide ((s.size : Int) < (b : Int) + n) = false := by simp; omega
      have t2' : decide (s.size < b + n) = false := by simp; omega
      by_cases hneg : (atR s b).1 < 0
      · have t3 : decide ((atR s b).1 < 0) = true := by simp; omega
        rw [if_pos hneg] at b2
        have t4 : ((n : Int) != 1) = false := by have := HN1.out hneg; simp; omega
        go_wp2
        go_quiet (fail)
        go_wp2
        go_roundw
        case rel => exact ⟨k + 1, by omega, by go_num, by rw [HN.out], own_drewN HO.out.1 _, own_drewN HO.out.2 _, below_drewN (HX.out.alloc (by omega) _) _⟩
        case measure => simp [intOf]; omega
      · have t3 : decide ((atR s b).1 < 0) = false := decide_eq_false (by omega)
        have hsm := small_nonneg _ (Int.not_lt.1 hneg)
        rw [if_neg hneg] at b2
        have hsm' : decide (smallS (atR s b).1 < 0) = false := decide_eq_false (by omega)
        obtain ⟨e1, e2⟩ := HT.out hneg
        have HE := Lib.hid (And.intro e1 e2)
        clear e1 e2
        have wf : (Lit.int .i64 (atR s b).1).wf = true := WalkArith.wf_i64 (by omega)
        have cmp : (s.extract b (b + n) != s.extract b (b + n)) = false := ba_ne _
        have HW := Lib.hid wf
        clear wf
        go_wp2
        go_quiet (fail)
        go_wp2_with fail
        refine (encode_any _ HW.out _).mono ?_
        rintro e w' ⟨rfl, rfl⟩
        rw [HE.out.1, HE.out.2]
        go_wp2
        go_roundw
        case rel => exact ⟨k + 1, by omega, by go_num, by rw [HN.out], own_drewN HO.out.1 _, own_drewN HO.out.2 _, below_drewN (HX.out.alloc (by omega) _) _⟩
        case measure => simp [intOf]; omega
    · have hE : endAt l s.size k = s.size := endAt_ge (by omega)
      rw [hE]
      clear hE hown1 hown2
      go_wp2_with fail
      refine (pieces_any s hs4 _).mono ?_
      rintro e w6 ⟨v1, rfl, hown1, hb6⟩
      have hX6 := Lib.hid (HX.out.trans (hb6.mono hsz))
      clear hb6
      go_wp2_with fail
      refine (pieces_any (foldB s) (foldB_size s hs) _).mono ?_
      rintro e w7 ⟨v2, rfl, hown2, hb7⟩
      have hX7 := Lib.hid (hX6.out.trans (hb7.mono hX6.out.size))
      replace hown1 := own_below_all hown1 hb7
      clear hb7 hX6
      have HG := Lib.hid (pieces_whole s)
      have HT := pieces_two s
      have hpl := Nat.le_trans (pieces_len (unitsFrom s s.size 0) (unitsFrom s s.size 0).length) (units_len s s.size 0)
      have HB := Lib.hid (pieces_kind_bd (unitsFrom s s.size 0) (unitsFrom s s.size 0).length)
      generalize piecesTo (unitsFrom s s.size 0) (unitsFrom s s.size 0).length = p at *
      generalize piecesTo (unitsFrom (foldB s) (foldB s).size 0) (unitsFrom (foldB s) (foldB s).size 0).length = q at *
      have hpq : q.length = p.length := by have := congrArg List.length HT; simpa using this.symm
      have HP := Lib.hid hpq
      have HT2 := Lib.hid HT
      have hown3 := hown2
      rw [hpq] at hown2
      obtain ⟨A3, c3, rfl⟩ := own_slice hown1
      obtain ⟨A4, c4, rfl⟩ := own_slice hown2
      have hO7 := Lib.hid (And.intro hown1 hown3)
      clear hown1 hown2 hown3 hpq HT hsz HX
      go_wp2
      go_loopw [8, 15] (fun at_ i wr => ∃ k n : Nat, k ≤ p.length ∧ i = .int .i64 (k : Int) ∧ at_ = .int .i64 (endP p s.size k) ∧ wr = w7.drewN n) (fun _ i _ => p.length - (intOf i).toNat)
      case atStart => exact ⟨0, 0, by omega, rfl, by rw [endP_zero HG.out], rfl⟩
      case round =>
        obtain ⟨k, n, hk, rfl, rfl, rfl⟩ := hrel
        obtain ⟨e0, e1⟩ := endP_bd HG.out k
        replace e1 := e1 hk
        by_cases hlt : k < p.length
        · have hq : k < q.length := by rw [HP.out]; exact hlt
          obtain ⟨g1, rfl, -, _, _, a0, a1, a2⟩ := row3_at hO7.out.1 hlt
          obtain ⟨g2, rfl, -, _, _, b0, _, _⟩ := row3_at hO7.out.2 hq
          have hs2 := endP_step HG.out hlt
          have hend := (endP_bd HG.out (k + 1)).2 hlt
          have hpos := (HG.out.1 k hlt).1
          have hk2 : (q[k]'hq).1 = (p[k]'hlt).1 := by
            have := congrArg (fun l : List Int => l[k]?) HT2.out
            simpa [hlt, hq] using this.symm
          have hbd := HB.out _ (List.getElem_mem hlt)
          have hst : (p[k]'hlt).2.1 = endP p s.size k := (endP_lt hlt).symm
          have hx : 0 < k → ((p[k]'hlt).1 = (p[k - 1]'(by omega)).1 ∧ (p[k]'hlt).1 < 4) → False := by
            intro h0 hh
            obtain ⟨j, rfl⟩ : ∃ j, k = j + 1 := ⟨k - 1, by omega⟩
            exact (HG.out.2.1 j hlt).2 hh
          rw [hk2] at b0
          rw [hst] at a1 hs2
          have HS := Lib.hid hs2
          generalize hK : (p[k]'hlt).1 = K at *
          generalize hL : (p[k]'hlt).2.2 = L at *
          generalize hE : endP p s.size k = E at *
          have t1 : (E != E) = false := by simp
          have t2 : decide (L < 1) = false := decide_eq_false (by omega)
          have t3 : (K != K) = false := by simp
          have HK := Lib.hid hK
          have HE := Lib.hid hE
          have HL := Lib.hid hL
          obtain ⟨hb1, hb2⟩ := hbd
          rw [hs2] at hend
          clear hK hE hL hs2 hk2 hst
          by_cases h0 : 0 < k
          · obtain ⟨g3, e3, -, _, _, d0, _, _⟩ := row3_at hO7.out.1 (k := k - 1) (by omega)
            obtain rfl : g1 = g3 := by simpa using e3
            clear e3
            have hx := hx h0
            have s1 : IntKind.i64.wrap ((k : Int) - 1) = (k : Int) - 1 := IntWalk.i64_in _ (by omega)
            have s2 : 0 ≤ (k : Int) - 1 := by omega
            have s3 : ((k : Int) - 1).toNat = k - 1 := by omega
            have s4 : (k : Int) - 1 < (p.length : Int) := by omega
            have s5 : (0 : Int) < (k : Int) := by omega
            have s6 : k - 1 < p.length := by omega
            generalize (p[k - 1]'(by omega)).1 = K' at *
            by_cases h4 : K = K'
            · have h5 : decide (K < 4) = false := decide_eq_false (fun h => hx ⟨h4, h⟩)
              have t4 : (K == K') = true := by simp [h4]
              clear hx h4
              go_wp2
              go_quiet (fail)
              go_wp2
              go_roundw
              case rel => exact ⟨k + 1, n + nq, by omega, by go_num, by rw [HS.out], by simp⟩
              case measure => simp [intOf]; omega
            · have t4 : (K == K') = false := by simp [h4]
              clear hx h4
              go_wp2
              go_quiet (fail)
              go_wp2
              go_roundw
              case rel => exact ⟨k + 1, n + nq, by omega, by go_num, by rw [HS.out], by simp⟩
              case measure => simp [intOf]; omega
          · obtain rfl : k = 0 := by omega
            clear hx
            go_wp2
            go_quiet (fail)
            go_wp2
            go_roundw
            case rel => exact ⟨0 + 1, n + nq, by omega, by go_num, by rw [HS.out], by simp⟩
            case measure => simp [intOf]; omega
        · have hE : endP p s.size k = s.size := endP_ge (by omega)
          have HZ : Hid (Below w.heap.size w (w7.drewN n)) := Lib.hid (below_drewN hX7.out n)
          rw [hE]
          clear hE
          have cmp : ((s.size : Int) == s.size) = true := by simp
          go_wp2
          go_ret
          exact ⟨rfl, HZ.out⟩
end Go.Proofs.Ytebmdabdckebhaa
