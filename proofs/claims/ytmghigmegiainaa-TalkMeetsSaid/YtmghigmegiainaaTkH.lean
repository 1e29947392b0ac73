/- Walks: Hear. -/
import Derived.Test.YtmghigmegiainaaTkG
namespace Go.Proofs.Ytmghigmegiainaa
open Go.RowKit

def Told.shut (x : Told) : Told := ⟨x.slot, x.ver, x.who, x.val, false⟩
theorem hear1_at {es : List Ent} {x : Told} {i : Nat} (hi : i < es.length) (hx : x.slot.toNat = i) : hear1 es x =
    if 0 < x.shut.later (es[i]'hi).t then es.set i ⟨x.shut, true, x.opn⟩ else if x.shut.later (es[i]'hi).t = 0 then es.set i { es[i]'hi with known := true, owed := (es[i]'hi).owed || x.opn } else es := by
  unfold hear1
  rw [hx, List.getElem?_eq_getElem hi]
  rfl
theorem wrongT_slot {n : Nat} {x : Told} (h : wrongT n x = 0) : 0 ≤ x.slot ∧ x.slot < n := by
  unfold wrongT at h
  split at h
  · cases h
  · omega
theorem foldl_next {l : List Told} {es : List Ent} {k : Nat} (hk : k < l.length) : (l.take (k + 1)).foldl hear1 es = hear1 ((l.take k).foldl hear1 es) (l[k]'hk) := by
  rw [List.take_succ_eq_append_getElem hk, List.foldl_append]; rfl
theorem Told.shut_fits {x : Told} (h : x.fits) : x.shut.fits := h

set_option maxHeartbeats 8000000 in
theorem hear_any (S : Nat → Prop) (A : Option Addr) (cl : Nat) (l : List Told) (g gs c : Nat) (who : Int) (es : List Ent) (w : World) (h : Tk w 54 56 g gs c who es) (hlen : es.length ≤ 20) (hl : Sl rTold w S A cl l) (hS : ∀ b, S b → b < w.heap.size ∧ b ≠ gs) :
    Calls Try.prog 14 #[.pointer (some ⟨g, 0, none⟩), .slice A l.length cl] w fun e w' => e = .returned (.int .i64 (hearE es l)) ∧ w.grownBy w' (some gs) ∧ Slots w' 56 gs c (hearS es l) := by
  have hll := hl.le
  have hlm := hl.max
  unfold maxLen at hlm
  obtain ⟨c0, c1⟩ := blk2 h.head
  have hle := h.row.le
  unfold maxLen at hle
  have HT := Lib.hid h
  have HL := Lib.hid hl
  have HS := Lib.hid hS
  have HGS := Lib.hid h.row.lt
  have HG := Lib.hid h.head.lt
  have HE : Hid (hearE es l = if 20 < l.length then 7 else wrongL es.length l) := Lib.hid rfl
  have HSS : Hid (hearS es l = if hearE es l = 0 then l.foldl hear1 es else es) := Lib.hid rfl
  generalize hearE es l = er at *
  generalize hearS es l = es' at *
  clear h hl hS
  go_enter Try.func14, Try.ntmps14
  by_cases hlong : 20 < l.length
  · have HE1 : Hid (er = 7) := Lib.hid (by rw [HE.out, if_pos hlong])
    go_wp2
    go_ret
    exact ⟨by rw [HE1.out]; rfl, only_of_below (Below.refl _ _) _, by rw [HSS.out, HE1.out]; exact HT.out.row⟩
  · have HE1 : Hid (er = wrongL es.length l) := Lib.hid (by rw [HE.out, if_neg hlong])
    go_wp2
    go_loopw [17] (fun i wr => ∃ k : Nat, k ≤ l.length ∧ i = .int .i64 (k : Int) ∧ Hid (Below w.heap.size w wr) ∧ Hid (wrongL es.length l = wrongL es.length (l.drop k))) (fun i _ => l.length - (intOf i).toNat)
    case atStart => exact ⟨0, by omega, rfl, Lib.hid (Below.refl _ _), Lib.hid rfl⟩
    case round =>
      obtain ⟨k, hk, rfl, HX, HW⟩ := hrel
      clear c0 c1
      by_cases hlt : k < l.length
      · obtain ⟨a, rfl, _, _, a0, a1, a2, a3, a4⟩ := told_at (HL.out.below (fun b hb => (HS.out b hb).1) HX.out) hlt
        have HP := Lib.hid (@wrongT_pos es.length _ l k hlt rfl)
        have HN := Lib.hid (@wrongT_neg es.length _ l k hlt rfl)
        have HX2 := Lib.hid (HX.out.alloc HX.out.size (.cells #[.int .i64 (l[k]'hlt).slot, .int .i64 (l[k]'hlt).ver, .int .i64 (l[k]'hlt).who, .string (l[k]'hlt).val, .bool (l[k]'hlt).opn] 44))
        have hcs := wrongT_cases es.length (l[k]'hlt)
        generalize hx : l[k]'hlt = x at *
        clear hx
        obtain ⟨c0, c1⟩ := blk2 (HT.out.head.below HX.out HG.out)
        have hgl := (HT.out.head.below HX.out HG.out).lt
        rcases hcs with ⟨h1, h9⟩ | ⟨h1, h2, h9⟩ | ⟨h1, h2, ⟨h3, h9⟩ | ⟨h3, h4, h9⟩ | ⟨h3, h4, h5, h9⟩ | ⟨h3, h4, h5, h6, h9⟩ | ⟨h3, h4, h5, h6, ⟨h7, h9⟩ | ⟨h7, h9⟩⟩⟩
        all_goals have H9 := Lib.hid h9
        all_goals clear h9
        all_goals go_wp2_with fail
        all_goals go_quiet (fail)
        all_goals go_wp2
        all_goals try (go_ret; exact ⟨by rw [HE1.out, HW.out, HP.out (by rw [H9.out]; decide), H9.out]; rfl, only_of_below (below_drewN HX2.out _) _, by rw [HSS.out, if_neg (by rw [HE1.out, HW.out, HP.out (by rw [H9.out]; decide), H9.out]; decide)]; exact HT.out.row.below (below_drewN HX2.out _)⟩)
        go_roundw
        case rel => exact ⟨k + 1, by omega, by go_num, Lib.hid (below_drewN HX2.out _), Lib.hid (by rw [HW.out, HN.out H9.out])⟩
        case measure => simp [intOf]; omega
      · have HE2 : Hid (er = 0) := Lib.hid (by rw [HE1.out, HW.out, List.drop_eq_nil_of_le (by omega)]; rfl)
        have HW0 : Hid (∀ x ∈ l, wrongT es.length x = 0) := Lib.hid (wrongL_eq (by rw [← HE1.out, HE2.out]))
        have HX1 := HX
        clear HX HW HE HE1
        go_wp2
        go_loopw [62] (fun i wr => ∃ k : Nat, k ≤ l.length ∧ i = .int .i64 (k : Int) ∧ Hid (w.grownBy wr (some gs)) ∧ Hid (Slots wr 56 gs c ((l.take k).foldl hear1 es))) (fun i _ => l.length - (intOf i).toNat)
        case atStart => exact ⟨0, by omega, rfl, Lib.hid (only_of_below HX1.out _), Lib.hid (by simpa using HT.out.row.below HX1.out)⟩
        case round =>
          obtain ⟨k, hk, rfl, HX, HW⟩ := hrel
          by_cases hlt : k < l.length
          · have hkeep : Sl rTold wr S A cl l := HL.out.keep fun p hp => World.cell?_of_block (HX.out.block p.block (HS.out _ hp).1 (by intro e; injection e with e; exact (HS.out _ hp).2 e))
            obtain ⟨a, rfl, _, hfx, a0, a1, a2, a3, a4⟩ := told_at hkeep hlt
            have HNX := Lib.hid (foldl_next (es := es) hlt)
            have hsl := wrongT_slot (HW0.out _ (List.getElem_mem hlt))
            have HLN := Lib.hid (foldl_length (l.take k) es)
            generalize hcur : (l.take k).foldl hear1 es = cur at *
            generalize hxx : l[k]'hlt = x at *
            clear hkeep hcur hxx
            have hB : Below wr.heap.size wr (wr.alloc (.cells #[.int .i64 x.slot, .int .i64 x.ver, .int .i64 x.who, .string x.val, .bool x.opn] 44)) := (Below.refl _ _).alloc (Nat.le_refl _) _
            obtain ⟨i, hi⟩ : ∃ i : Nat, x.slot = i := ⟨x.slot.toNat, by omega⟩
            have hin : i < cur.length := by rw [HLN.out]; omega
            have hhd := HT.out.head.grown HX.out (by intro e; injection e with e; exact HT.out.ne e)
            obtain ⟨c0, c1⟩ := blk2 hhd
            have HHD := Lib.hid hhd
            have hgl := hhd.lt
            have HXN := Lib.hid (Blk.new wr 44 #[.int .i64 x.slot, .int .i64 x.ver, .int .i64 x.who, .string x.val, .bool x.opn])
            have HB := Lib.hid hB
            have HI := Lib.hid hi
            clear hB hhd
            have hin2 : i < es.length := by omega
            clear hsl
            rw [hi] at a0 HXN HB
            clear hi
            go_wp2_with fail
            go_quiet (fail)
            have hxn1 := HXN.out.drewN nq
            have hb1 := below_drewN HB.out nq
            generalize World.drewN _ nq = w1 at *
            have hgl1 := hb1.size
            obtain ⟨b0, b1, b2, b3, b4⟩ := blk5 hxn1
            have f4 := hxn1.frozen 4
            have HXN2 : Hid (Blk (w1.setCell ⟨wr.heap.size, 4, none⟩ (.bool false)) wr.heap.size 44 #[.int .i64 (i : Int), .int .i64 x.ver, .int .i64 x.who, .string x.val, .bool false]) := Lib.hid (by have := hxn1.set_ 4 (.bool false); simpa using this)
            have HB2 := Lib.hid (hb1.setCell (p := ⟨wr.heap.size, 4, none⟩) (Nat.le_refl _) (.bool false))
            clear hxn1 hb1 HXN HB a0 a1 a2 a3 a4
            go_wp2_with fail
            clear b0 b1 b2 b3 b4 f4 c0 c1
            generalize World.setCell w1 _ _ = w2 at *
            have hw2 := HW.out.below HB2.out
            obtain ⟨d0, d1, d2, d3, d4, d5, d6⟩ := hw2.seven _ hin
            obtain ⟨b0, b1, b2, b3, b4⟩ := blk5 HXN2.out
            have HFE := Lib.hid (HW.out.fits hin)
            have HAT := Lib.hid (hear1_at (x := x) hin (by rw [HI.out, Int.toNat_natCast]))
            have HSH : Hid (x.shut = ⟨(i : Int), x.ver, x.who, x.val, false⟩) := Lib.hid (by unfold Told.shut; rw [HI.out])
            rw [HSH.out] at HAT
            have HW2 := Lib.hid hw2
            clear hw2
            have HEQ : Hid (cur[i]'hin = cur[i]'hin) := Lib.hid rfl
            generalize hee : cur[i]'hin = e at HAT HFE d0 d1 d2 d3 d4 d5 d6
            have HEE := Lib.hid hee
            clear hee HEQ
            refine wp_region_still_tail 5 (by kernel_rfl) (by kernel_rfl) ?_
            simp only [List.take_succ_cons, List.take_zero, List.drop_succ_cons, List.drop_zero]
            repeat still_step
            refine wpStill_nil ?_
            change wpList _ _ _ _ _ w2.drew
            have hb3 : Below w2.heap.size w2 w2.drew := (Below.refl _ _).drew
            generalize w2.drew = w2d at *
            go_wp2_with fail
            refine (later_any ⟨(i : Int), x.ver, x.who, x.val, false⟩ e.t _).mono ?_
            rintro e9 w3 ⟨rfl, hb9⟩
            have hb4 := hb3.trans (hb9.mono hb3.size)
            have HB4 := Lib.hid (HB2.out.trans (hb4.mono HB2.out.size))
            have HG4 := Lib.hid (grown_tail HX.out (only_of_below HB4.out (some wr.heap.size)) (fun k hk => by injection hk with hk; rw [← hk]; exact HX.out.size) (Nat.le_refl _))
            have hw4 := HW2.out.below hb4
            have hx4 := HXN2.out.below hb4 HXN2.out.lt
            clear d0 d1 d2 d3 d4 d5 d6 b0 b1 b2 b3 b4 hb3 hb9 hb4
            obtain ⟨d0, d1, d2, d3, d4, d5, d6⟩ := hw4.seven _ hin
            rw [HEE.out] at d0 d1 d2 d3 d4 d5 d6
            obtain ⟨b0, b1, b2, b3, b4⟩ := blk5 hx4
            have f0 := hw4.frozen (i * 7)
            have f1 := hw4.frozen (i * 7 + 1)
            have f2 := hw4.frozen (i * 7 + 2)
            have f3 := hw4.frozen (i * 7 + 3)
            have f4 := hw4.frozen (i * 7 + 4)
            have f5 := hw4.frozen (i * 7 + 5)
            have f6 := hw4.frozen (i * 7 + 6)
            have HW4 := Lib.hid hw4
            clear hw4 hx4
            have HFX : Hid (Told.fits ⟨(i : Int), x.ver, x.who, x.val, false⟩) := Lib.hid (by rw [← HSH.out]; exact hfx)
            generalize Told.later ⟨(i : Int), x.ver, x.who, x.val, false⟩ e.t = n at *
            by_cases hn : 0 < n
            · have HW6 := Lib.hid (HW4.out.set7 (e' := ⟨⟨(i : Int), x.ver, x.who, x.val, false⟩, true, x.opn⟩) hin HFX.out)
              have HG6 := Lib.hid (grown_set7 HG4.out (i * 7) (i * 7 + 1) (i * 7 + 2) (i * 7 + 3) (i * 7 + 4) (i * 7 + 5) (i * 7 + 6) (.int .i64 (i : Int)) (.int .i64 x.ver) (.int .i64 x.who) (.string x.val) (.bool false) (.bool true) (.bool x.opn))
              have HN : Hid (hear1 cur x = cur.set i ⟨⟨(i : Int), x.ver, x.who, x.val, false⟩, true, x.opn⟩) := Lib.hid (by rw [HAT.out, if_pos hn])
              go_wp2
              go_roundw
              case rel => exact ⟨k + 1, by omega, by go_num, HG6, by rw [HNX.out, HN.out]; exact HW6⟩
              case measure => simp [intOf]; omega
            · by_cases hz : n = 0
              · have HN : Hid (hear1 cur x = cur.set i { e with known := true, owed := e.owed || x.opn }) := Lib.hid (by rw [HAT.out, if_neg hn, if_pos hz])
                have HW5 := Lib.hid (HW4.out.set1 (j := 5) (v := .bool true) (e' := { e with known := true }) hin (by omega) HFE.out (by rw [HEE.out]; rfl))
                have hin5 : i < (cur.set i { e with known := true }).length := by simpa using hin
                have HW6 := Lib.hid (HW5.out.set1 (j := 6) (v := .bool (e.owed || x.opn)) (e' := { e with known := true, owed := e.owed || x.opn }) hin5 (by omega) HFE.out (by rw [List.getElem_set_self]; rfl))
                have HG6 := Lib.hid (only_setCell (only_setCell HG4.out (p := ⟨gs, i * 7 + 5, none⟩) (.inl rfl) (.bool true)) (p := ⟨gs, i * 7 + 6, none⟩) (.inl rfl) (.bool (e.owed || x.opn)))
                rw [List.set_set] at HW6
                clear HW5
                cases how : e.owed
                · rw [how] at d6 HW6 HG6 HN
                  rw [Bool.false_or] at HW6 HG6 HN
                  go_wp2
                  go_roundw
                  case rel => exact ⟨k + 1, by omega, by go_num, HG6, by rw [HNX.out, HN.out]; exact HW6⟩
                  case measure => simp [intOf]; omega
                · rw [how] at d6 HW6 HG6 HN
                  rw [Bool.true_or] at HW6 HG6 HN
                  go_wp2
                  go_roundw
                  case rel => exact ⟨k + 1, by omega, by go_num, HG6, by rw [HNX.out, HN.out]; exact HW6⟩
                  case measure => simp [intOf]; omega
              · have HN : Hid (hear1 cur x = cur) := Lib.hid (by rw [HAT.out, if_neg hn, if_neg hz])
                go_wp2
                go_roundw
                case rel => exact ⟨k + 1, by omega, by go_num, HG4, by rw [HNX.out, HN.out]; exact HW4⟩
                case measure => simp [intOf]; omega
          · have hkl : l.take k = l := List.take_of_length_le (by omega)
            rw [hkl] at HW
            go_wp2
            go_ret
            exact ⟨by rw [HE2.out]; rfl, HX.out, by rw [HSS.out, if_pos HE2.out]; exact HW.out⟩
end Go.Proofs.Ytmghigmegiainaa
