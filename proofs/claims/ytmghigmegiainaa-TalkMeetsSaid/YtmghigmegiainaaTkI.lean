/- Walks: R.Hear. -/
import Derived.Test.YtmghigmegiainaaTkH
import Derived.BigRegion
namespace Go.Proofs.Ytmghigmegiainaa
open Go.RowKit

theorem wrongL_all {n : Nat} {l : List Told} (h : wrongL n l = 0) : ∀ x ∈ l, wrongT n x = 0 := wrongL_eq h
theorem take_ok {es : List Ent} (hok : EsOk es) {l : List Told} (h : ∀ x ∈ l, wrongT es.length x = 0) (k : Nat) : EsOk ((l.take k).foldl hear1 es) := hok.foldl fun x hx => h x (List.mem_of_mem_take hx)

theorem blk7 {w : World} {g t : Nat} {a b c d e f h : Value} (hb : Blk w g t #[a, b, c, d, e, f, h]) : w.cell? ⟨g, 0, none⟩ = some a ∧ w.cell? ⟨g, 1, none⟩ = some b ∧ w.cell? ⟨g, 2, none⟩ = some c ∧ w.cell? ⟨g, 3, none⟩ = some d ∧ w.cell? ⟨g, 4, none⟩ = some e ∧ w.cell? ⟨g, 5, none⟩ = some f ∧ w.cell? ⟨g, 6, none⟩ = some h := by
  refine ⟨?_, ?_, ?_, ?_, ?_, ?_, ?_⟩ <;> rw [hb.cell] <;> rfl

theorem store7 {w : World} {g t : Nat} {a b c d e f h : Value} (hb : Blk w g t #[a, b, c, d, e, f, h]) (x0 x1 x2 x3 x4 x5 x6 : Value) :
    Blk (((((((w.setCell ⟨g, 0, none⟩ x0).setCell ⟨g, 1, none⟩ x1).setCell ⟨g, 2, none⟩ x2).setCell ⟨g, 3, none⟩ x3).setCell ⟨g, 4, none⟩ x4).setCell ⟨g, 5, none⟩ x5).setCell ⟨g, 6, none⟩ x6) g t #[x0, x1, x2, x3, x4, x5, x6] ∧
    Below g w (((((((w.setCell ⟨g, 0, none⟩ x0).setCell ⟨g, 1, none⟩ x1).setCell ⟨g, 2, none⟩ x2).setCell ⟨g, 3, none⟩ x3).setCell ⟨g, 4, none⟩ x4).setCell ⟨g, 5, none⟩ x5).setCell ⟨g, 6, none⟩ x6) := by
  refine ⟨?_, (((((((Below.refl g w).setCell (p := ⟨g, 0, none⟩) (Nat.le_refl _) x0).setCell (p := ⟨g, 1, none⟩) (Nat.le_refl _) x1).setCell (p := ⟨g, 2, none⟩) (Nat.le_refl _) x2).setCell (p := ⟨g, 3, none⟩) (Nat.le_refl _) x3).setCell (p := ⟨g, 4, none⟩) (Nat.le_refl _) x4).setCell (p := ⟨g, 5, none⟩) (Nat.le_refl _) x5).setCell (p := ⟨g, 6, none⟩) (Nat.le_refl _) x6⟩
  have := ((((((hb.set_ 0 x0).set_ 1 x1).set_ 2 x2).set_ 3 x3).set_ 4 x4).set_ 5 x5).set_ 6 x6
  simpa using this

set_option maxHeartbeats 8000000 in
theorem rHear_any (S : Nat → Prop) (A : Option Addr) (cl : Nat) (l : List Told) (g gs c : Nat) (who : Int) (es : List Ent) (w : World) (h : Tk w 59 61 g gs c who es) (hlen : es.length ≤ 20) (hok : EsOk es) (hl : Sl rTold w S A cl l) (hS : ∀ b, S b → b < w.heap.size ∧ b ≠ gs) :
    Calls Try.prog 15 #[.pointer (some ⟨g, 0, none⟩), .slice A l.length cl] w fun e w' => e = .returned (.int .i64 (hearE es l)) ∧ w.grownBy w' (some gs) ∧ Slots w' 61 gs c (hearS es l) := by
  have hll := hl.le
  have hlm := hl.max
  unfold maxLen at hlm
  obtain ⟨c0, c1⟩ := blk2 h.head
  have hle := h.row.le
  unfold maxLen at hle
  have HT := Lib.hid h
  have HL := Lib.hid hl
  have HS := Lib.hid hS
  have HOK := Lib.hid hok
  have HGS := Lib.hid h.row.lt
  have HG := Lib.hid h.head.lt
  have HE : Hid (hearE es l = if 20 < l.length then 7 else wrongL es.length l) := Lib.hid rfl
  have HSS : Hid (hearS es l = if hearE es l = 0 then l.foldl hear1 es else es) := Lib.hid rfl
  have HWT := Lib.hid (wrongTold_any S A cl l es.length w hl (fun b hb => (hS b hb).1) (by omega))
  rw [← HE.out] at HWT
  generalize hearE es l = er at *
  generalize hearS es l = es' at *
  clear h hl hS hok
  go_enter Try.func15, Try.ntmps15
  go_wp2_with fail
  refine HWT.out.mono ?_
  rintro e0 w0 ⟨rfl, hb0⟩
  have HX0 := Lib.hid hb0
  clear hb0
  by_cases he : er = 0
  · subst he
    have HW0 : Hid (∀ x ∈ l, wrongT es.length x = 0) := Lib.hid (wrongL_eq (by
      have := HE.out
      split at this
      · cases this
      · exact this.symm))
    clear HE
    go_wp2
    go_loopw [6] (fun i wr => ∃ k : Nat, k ≤ l.length ∧ i = .int .i64 (k : Int) ∧ Hid (w.grownBy wr (some gs)) ∧ Hid (Slots wr 61 gs c ((l.take k).foldl hear1 es))) (fun i _ => l.length - (intOf i).toNat)
    case atStart => exact ⟨0, by omega, rfl, Lib.hid (only_of_below HX0.out _), Lib.hid (by simpa using HT.out.row.below HX0.out)⟩
    case round =>
      obtain ⟨k, hk, rfl, HX, HW⟩ := hrel
      clear c0 c1
      by_cases hlt : k < l.length
      · have hkeep : Sl rTold wr S A cl l := HL.out.keep fun p hp => World.cell?_of_block (HX.out.block p.block (HS.out _ hp).1 (by intro e; injection e with e; exact (HS.out _ hp).2 e))
        obtain ⟨a, rfl, _, hfx, a0, a1, a2, a3, a4⟩ := told_at hkeep hlt
        have HNX := Lib.hid (foldl_next (es := es) hlt)
        have hsl := wrongT_slot (HW0.out _ (List.getElem_mem hlt))
        have HLN := Lib.hid (foldl_length (l.take k) es)
        have HCO := Lib.hid (take_ok HOK.out HW0.out k)
        generalize hcur : (l.take k).foldl hear1 es = cur at *
        generalize hxx : l[k]'hlt = x at *
        clear hkeep hcur hxx
        obtain ⟨i, hi⟩ : ∃ i : Nat, x.slot = i := ⟨x.slot.toNat, by omega⟩
        have hin : i < cur.length := by rw [HLN.out]; omega
        have hhd := HT.out.head.grown HX.out (by intro e; injection e with e; exact HT.out.ne e)
        have HHD := Lib.hid hhd
        have hgl := hhd.lt
        have HXN := Lib.hid (Blk.new wr 44 #[.int .i64 x.slot, .int .i64 x.ver, .int .i64 x.who, .string x.val, .bool false])
        have HB := Lib.hid ((Below.refl wr.heap.size wr).alloc (Nat.le_refl _) (.cells #[.int .i64 x.slot, .int .i64 x.ver, .int .i64 x.who, .string x.val, .bool false] 44))
        have HI := Lib.hid hi
        clear hhd
        have hin2 : i < es.length := by omega
        clear hsl
        rw [hi] at a0 HXN HB
        clear hi
        go_wp2_with fail
        clear a0 a1 a2 a3 a4
        generalize World.alloc wr _ = w1 at *
        have hhd1 := HHD.out.below HB.out hgl
        obtain ⟨c0, c1⟩ := blk2 hhd1
        obtain ⟨b0, b1, b2, b3, b4⟩ := blk5 HXN.out
        have hw1 := HW.out.below HB.out
        obtain ⟨d0, d1, d2, d3, d4, d5, d6⟩ := hw1.seven _ hin
        have HFE := Lib.hid (HW.out.fits hin)
        have HEO := Lib.hid (HCO.out i _ (List.getElem?_eq_getElem hin))
        have HAT := Lib.hid (hear1_at (x := x) hin (by rw [HI.out, Int.toNat_natCast]))
        have HSH : Hid (x.shut = ⟨(i : Int), x.ver, x.who, x.val, false⟩) := Lib.hid (by unfold Told.shut; rw [HI.out])
        rw [HSH.out] at HAT
        have HFX : Hid (Told.fits ⟨(i : Int), x.ver, x.who, x.val, false⟩) := Lib.hid (by rw [← HSH.out]; exact hfx)
        generalize hee : cur[i]'hin = e at HAT HFE HEO d0 d1 d2 d3 d4 d5 d6
        have hl1 := hhd1.lt
        have hl2 := hw1.lt
        have hl3 := HXN.out.lt
        have HEE := Lib.hid hee
        clear hee hw1 hhd1
        go_region
        have hse := (Blk.new w1 61 #[.int .i64 e.t.slot, .int .i64 e.t.ver, .int .i64 e.t.who, .string e.t.val, .bool e.t.opn, .bool e.known, .bool e.owed]).drew
        have hb2 := ((Below.refl w1.heap.size w1).alloc (Nat.le_refl _) (.cells #[.int .i64 e.t.slot, .int .i64 e.t.ver, .int .i64 e.t.who, .string e.t.val, .bool e.t.opn, .bool e.known, .bool e.owed] 61)).drew
        generalize World.drew (World.alloc w1 _) = w2 at *
        have HL1 := Lib.hid hl1; have HL2 := Lib.hid hl2; have HL3 := Lib.hid hl3
        have HXN2 := Lib.hid (HXN.out.below hb2 hl3)
        have HB2 := Lib.hid hb2
        have HSE := Lib.hid hse
        obtain ⟨s0, s1, s2, s3, s4, s5, s6⟩ := blk7 hse
        clear b0 b1 b2 b3 b4 c0 c1 d0 d1 d2 d3 d4 d5 d6 hse hb2 hl1 hl2 hl3
        obtain ⟨b0, b1, b2, b3, b4⟩ := blk5 HXN2.out
        go_wp2_with fail
        refine (rLater_any ⟨(i : Int), x.ver, x.who, x.val, false⟩ e.t _).mono ?_
        rintro e9 w3 ⟨rfl, hb9⟩
        rw [rLater_eq]
        have HB3 := Lib.hid (HB2.out.trans (hb9.mono HB2.out.size))
        have HSE3 := Lib.hid (HSE.out.below hb9 HSE.out.lt)
        have HXN3 := Lib.hid (HXN2.out.below hb9 HXN2.out.lt)
        clear b0 b1 b2 b3 b4 s0 s1 s2 s3 s4 s5 s6 hb9
        have HLZ := Lib.hid (later_zero ⟨(i : Int), x.ver, x.who, x.val, false⟩ e.t)
        generalize Told.later ⟨(i : Int), x.ver, x.who, x.val, false⟩ e.t = n at *
        by_cases hn : 0 < n
        · have HN : Hid (hear1 cur x = cur.set i ⟨⟨(i : Int), x.ver, x.who, x.val, false⟩, true, x.opn⟩) := Lib.hid (by rw [HAT.out, if_pos hn])
          have hnb : decide (0 < n) = true := by simpa using hn
          obtain ⟨b0, b1, b2, b3, b4⟩ := blk5 HXN3.out
          obtain ⟨s0, s1, s2, s3, s4, s5, s6⟩ := blk7 HSE3.out
          have f0 := HSE3.out.frozen 0
          have f1 := HSE3.out.frozen 1
          have f2 := HSE3.out.frozen 2
          have f3 := HSE3.out.frozen 3
          have f4 := HSE3.out.frozen 4
          have f5 := HSE3.out.frozen 5
          have f6 := HSE3.out.frozen 6
          obtain ⟨q1, q2⟩ := store7 HSE3.out (.int .i64 (i : Int)) (.int .i64 x.ver) (.int .i64 x.who) (.string x.val) (.bool false) (.bool false) (.bool false)
          have HS4 := Lib.hid q1
          have HB4 := Lib.hid (HB3.out.trans q2)
          clear q1 q2
          go_upto_region 13 with fail
          generalize World.setCell (World.setCell (World.setCell (World.setCell (World.setCell (World.setCell (World.setCell w3 _ _) _ _) _ _) _ _) _ _) _ _) _ _ = w4 at *
          clear b0 b1 b2 b3 b4 s0 s1 s2 s3 s4 s5 s6 f0 f1 f2 f3 f4 f5 f6 hnb
          obtain ⟨b0, b1, b2, b3, b4⟩ := blk5 (HXN.out.below HB4.out HL3.out)
          obtain ⟨s0, s1, s2, s3, s4, s5, s6⟩ := blk7 HS4.out
          have f5 := HS4.out.frozen 5
          have HS5 : Hid (Blk (w4.setCell ⟨w1.heap.size, 5, none⟩ (.bool true)) w1.heap.size 61 #[.int .i64 (i : Int), .int .i64 x.ver, .int .i64 x.who, .string x.val, .bool false, .bool true, .bool false]) := Lib.hid (by have := HS4.out.set_ 5 (.bool true); simpa using this)
          have HB5 := Lib.hid (HB4.out.setCell (p := ⟨w1.heap.size, 5, none⟩) (Nat.le_refl _) (.bool true))
          go_upto_region 15 with fail
          generalize World.setCell w4 _ _ = w5 at *
          clear b0 b1 b2 b3 b4 s0 s1 s2 s3 s4 s5 s6 f5
          obtain ⟨s0, s1, s2, s3, s4, s5, s6⟩ := blk7 HS5.out
          have f6 := HS5.out.frozen 6
          have HS6 : Hid (Blk (w5.setCell ⟨w1.heap.size, 6, none⟩ (.bool x.opn)) w1.heap.size 61 #[.int .i64 (i : Int), .int .i64 x.ver, .int .i64 x.who, .string x.val, .bool false, .bool true, .bool x.opn]) := Lib.hid (by have := HS5.out.set_ 6 (.bool x.opn); simpa using this)
          have HB6 := Lib.hid (HB5.out.setCell (p := ⟨w1.heap.size, 6, none⟩) (Nat.le_refl _) (.bool x.opn))
          go_wp2_with fail
          generalize World.setCell w5 _ _ = w6 at *
          clear s0 s1 s2 s3 s4 s5 s6 f6
          have HFF := HFX
          obtain ⟨c0, c1⟩ := blk2 ((HHD.out.below HB.out hgl).below HB6.out HL1.out)
          obtain ⟨b0, b1, b2, b3, b4⟩ := blk5 (HXN.out.below HB6.out HL3.out)
          obtain ⟨s0, s1, s2, s3, s4, s5, s6⟩ := blk7 HS6.out
          refine wp_region_still_tail 8 (by kernel_rfl) (by kernel_rfl) ?_
          simp only [List.take_succ_cons, List.take_zero, List.drop_succ_cons, List.drop_zero]
          repeat still_step
          refine wpStill_nil ?_
          change wpList _ _ _ _ _ w6.drew
          have HB7 := Lib.hid HB6.out.drew
          generalize w6.drew = w7 at *
          have hw7 := (HW.out.below HB.out).below HB7.out
          obtain ⟨d0, d1, d2, d3, d4, d5, d6⟩ := hw7.seven _ hin
          have f0 := hw7.frozen (i * 7)
          have f1 := hw7.frozen (i * 7 + 1)
          have f2 := hw7.frozen (i * 7 + 2)
          have f3 := hw7.frozen (i * 7 + 3)
          have f4 := hw7.frozen (i * 7 + 4)
          have f5 := hw7.frozen (i * 7 + 5)
          have f6 := hw7.frozen (i * 7 + 6)
          have HW8 := Lib.hid (hw7.set7 (e' := ⟨⟨(i : Int), x.ver, x.who, x.val, false⟩, true, x.opn⟩) hin HFF.out)
          have HG7 := Lib.hid (grown_tail (grown_tail HX.out (only_of_below HB.out (some wr.heap.size)) (fun k hk => by injection hk with hk; rw [← hk]; exact HX.out.size) (Nat.le_refl _)) (only_of_below HB7.out (some w1.heap.size)) (fun k hk => by injection hk with hk; rw [← hk]; exact Nat.le_trans HX.out.size HB.out.size) (Nat.le_refl _))
          have HG8 := Lib.hid (grown_set7 HG7.out (i * 7) (i * 7 + 1) (i * 7 + 2) (i * 7 + 3) (i * 7 + 4) (i * 7 + 5) (i * 7 + 6) (.int .i64 (i : Int)) (.int .i64 x.ver) (.int .i64 x.who) (.string x.val) (.bool false) (.bool true) (.bool x.opn))
          clear hw7
          go_wp2
          go_roundw
          case rel => exact ⟨k + 1, by omega, by go_num, HG8, by rw [HNX.out, HN.out]; exact HW8⟩
          case measure => simp [intOf]; omega
        · by_cases hz : n = 0
          · have hev := HLZ.out.1 hz
            dsimp only at hev
            obtain ⟨hv1, hv2, hv3⟩ := hev
            have HN0 : Hid (hear1 cur x = cur.set i ⟨⟨(i : Int), x.ver, x.who, x.val, false⟩, true, e.owed || x.opn⟩) := Lib.hid (by
              rw [HAT.out, if_neg hn, if_pos hz]
              congr 1
              have h1 : e.t = ⟨(i : Int), x.ver, x.who, x.val, false⟩ := told_ext HEO.out.1 hv1.symm hv2.symm hv3.symm HEO.out.2.2.2
              rw [h1])
            have HS4 := HSE3
            rw [HEO.out.1, HEO.out.2.2.2, ← hv1, ← hv2, ← hv3] at HS4
            have HB4 := HB3
            have hnb : decide (0 < n) = false := by simpa using hn
            clear hv1 hv2 hv3 hz HSE3 HB3
            go_upto_region 13 with fail
            clear hnb
            generalize w3 = w4 at *
            cases how : e.owed
            · rw [how] at HS4 HN0
              rw [Bool.false_or] at HN0
              have HN := HN0
              obtain ⟨b0, b1, b2, b3, b4⟩ := blk5 (HXN.out.below HB4.out HL3.out)
              obtain ⟨s0, s1, s2, s3, s4, s5, s6⟩ := blk7 HS4.out
              have f5 := HS4.out.frozen 5
              have HS5 : Hid (Blk (w4.setCell ⟨w1.heap.size, 5, none⟩ (.bool true)) w1.heap.size 61 #[.int .i64 (i : Int), .int .i64 x.ver, .int .i64 x.who, .string x.val, .bool false, .bool true, .bool false]) := Lib.hid (by have := HS4.out.set_ 5 (.bool true); simpa using this)
              have HB5 := Lib.hid (HB4.out.setCell (p := ⟨w1.heap.size, 5, none⟩) (Nat.le_refl _) (.bool true))
              go_upto_region 15 with fail
              generalize World.setCell w4 _ _ = w5 at *
              clear b0 b1 b2 b3 b4 s0 s1 s2 s3 s4 s5 s6 f5
              obtain ⟨s0, s1, s2, s3, s4, s5, s6⟩ := blk7 HS5.out
              have f6 := HS5.out.frozen 6
              have HS6 : Hid (Blk (w5.setCell ⟨w1.heap.size, 6, none⟩ (.bool x.opn)) w1.heap.size 61 #[.int .i64 (i : Int), .int .i64 x.ver, .int .i64 x.who, .string x.val, .bool false, .bool true, .bool x.opn]) := Lib.hid (by have := HS5.out.set_ 6 (.bool x.opn); simpa using this)
              have HB6 := Lib.hid (HB5.out.setCell (p := ⟨w1.heap.size, 6, none⟩) (Nat.le_refl _) (.bool x.opn))
              go_wp2_with fail
              generalize World.setCell w5 _ _ = w6 at *
              clear s0 s1 s2 s3 s4 s5 s6 f6
              have HFF := HFX
              obtain ⟨c0, c1⟩ := blk2 ((HHD.out.below HB.out hgl).below HB6.out HL1.out)
              obtain ⟨b0, b1, b2, b3, b4⟩ := blk5 (HXN.out.below HB6.out HL3.out)
              obtain ⟨s0, s1, s2, s3, s4, s5, s6⟩ := blk7 HS6.out
              refine wp_region_still_tail 8 (by kernel_rfl) (by kernel_rfl) ?_
              simp only [List.take_succ_cons, List.take_zero, List.drop_succ_cons, List.drop_zero]
              repeat still_step
              refine wpStill_nil ?_
              change wpList _ _ _ _ _ w6.drew
              have HB7 := Lib.hid HB6.out.drew
              generalize w6.drew = w7 at *
              have hw7 := (HW.out.below HB.out).below HB7.out
              obtain ⟨d0, d1, d2, d3, d4, d5, d6⟩ := hw7.seven _ hin
              have f0 := hw7.frozen (i * 7)
              have f1 := hw7.frozen (i * 7 + 1)
              have f2 := hw7.frozen (i * 7 + 2)
              have f3 := hw7.frozen (i * 7 + 3)
              have f4 := hw7.frozen (i * 7 + 4)
              have f5 := hw7.frozen (i * 7 + 5)
              have f6 := hw7.frozen (i * 7 + 6)
              have HW8 := Lib.hid (hw7.set7 (e' := ⟨⟨(i : Int), x.ver, x.who, x.val, false⟩, true, x.opn⟩) hin HFF.out)
              have HG7 := Lib.hid (grown_tail (grown_tail HX.out (only_of_below HB.out (some wr.heap.size)) (fun k hk => by injection hk with hk; rw [← hk]; exact HX.out.size) (Nat.le_refl _)) (only_of_below HB7.out (some w1.heap.size)) (fun k hk => by injection hk with hk; rw [← hk]; exact Nat.le_trans HX.out.size HB.out.size) (Nat.le_refl _))
              have HG8 := Lib.hid (grown_set7 HG7.out (i * 7) (i * 7 + 1) (i * 7 + 2) (i * 7 + 3) (i * 7 + 4) (i * 7 + 5) (i * 7 + 6) (.int .i64 (i : Int)) (.int .i64 x.ver) (.int .i64 x.who) (.string x.val) (.bool false) (.bool true) (.bool x.opn))
              clear hw7
              go_wp2
              go_roundw
              case rel => exact ⟨k + 1, by omega, by go_num, HG8, by rw [HNX.out, HN.out]; exact HW8⟩
              case measure => simp [intOf]; omega
            · rw [how] at HS4 HN0
              rw [Bool.true_or] at HN0
              have HN := HN0
              obtain ⟨b0, b1, b2, b3, b4⟩ := blk5 (HXN.out.below HB4.out HL3.out)
              obtain ⟨s0, s1, s2, s3, s4, s5, s6⟩ := blk7 HS4.out
              have f5 := HS4.out.frozen 5
              have HS5 : Hid (Blk (w4.setCell ⟨w1.heap.size, 5, none⟩ (.bool true)) w1.heap.size 61 #[.int .i64 (i : Int), .int .i64 x.ver, .int .i64 x.who, .string x.val, .bool false, .bool true, .bool true]) := Lib.hid (by have := HS4.out.set_ 5 (.bool true); simpa using this)
              have HB5 := Lib.hid (HB4.out.setCell (p := ⟨w1.heap.size, 5, none⟩) (Nat.le_refl _) (.bool true))
              go_upto_region 15 with fail
              generalize World.setCell w4 _ _ = w5 at *
              clear b0 b1 b2 b3 b4 s0 s1 s2 s3 s4 s5 s6 f5
              obtain ⟨s0, s1, s2, s3, s4, s5, s6⟩ := blk7 HS5.out
              have f6 := HS5.out.frozen 6
              have HS6 : Hid (Blk (w5.setCell ⟨w1.heap.size, 6, none⟩ (.bool true)) w1.heap.size 61 #[.int .i64 (i : Int), .int .i64 x.ver, .int .i64 x.who, .string x.val, .bool false, .bool true, .bool true]) := Lib.hid (by have := HS5.out.set_ 6 (.bool true); simpa using this)
              have HB6 := Lib.hid (HB5.out.setCell (p := ⟨w1.heap.size, 6, none⟩) (Nat.le_refl _) (.bool true))
              go_wp2_with fail
              generalize World.setCell w5 _ _ = w6 at *
              clear s0 s1 s2 s3 s4 s5 s6 f6
              have HFF := HFX
              obtain ⟨c0, c1⟩ := blk2 ((HHD.out.below HB.out hgl).below HB6.out HL1.out)
              obtain ⟨b0, b1, b2, b3, b4⟩ := blk5 (HXN.out.below HB6.out HL3.out)
              obtain ⟨s0, s1, s2, s3, s4, s5, s6⟩ := blk7 HS6.out
              refine wp_region_still_tail 8 (by kernel_rfl) (by kernel_rfl) ?_
              simp only [List.take_succ_cons, List.take_zero, List.drop_succ_cons, List.drop_zero]
              repeat still_step
              refine wpStill_nil ?_
              change wpList _ _ _ _ _ w6.drew
              have HB7 := Lib.hid HB6.out.drew
              generalize w6.drew = w7 at *
              have hw7 := (HW.out.below HB.out).below HB7.out
              obtain ⟨d0, d1, d2, d3, d4, d5, d6⟩ := hw7.seven _ hin
              have f0 := hw7.frozen (i * 7)
              have f1 := hw7.frozen (i * 7 + 1)
              have f2 := hw7.frozen (i * 7 + 2)
              have f3 := hw7.frozen (i * 7 + 3)
              have f4 := hw7.frozen (i * 7 + 4)
              have f5 := hw7.frozen (i * 7 + 5)
              have f6 := hw7.frozen (i * 7 + 6)
              have HW8 := Lib.hid (hw7.set7 (e' := ⟨⟨(i : Int), x.ver, x.who, x.val, false⟩, true, true⟩) hin HFF.out)
              have HG7 := Lib.hid (grown_tail (grown_tail HX.out (only_of_below HB.out (some wr.heap.size)) (fun k hk => by injection hk with hk; rw [← hk]; exact HX.out.size) (Nat.le_refl _)) (only_of_below HB7.out (some w1.heap.size)) (fun k hk => by injection hk with hk; rw [← hk]; exact Nat.le_trans HX.out.size HB.out.size) (Nat.le_refl _))
              have HG8 := Lib.hid (grown_set7 HG7.out (i * 7) (i * 7 + 1) (i * 7 + 2) (i * 7 + 3) (i * 7 + 4) (i * 7 + 5) (i * 7 + 6) (.int .i64 (i : Int)) (.int .i64 x.ver) (.int .i64 x.who) (.string x.val) (.bool false) (.bool true) (.bool true))
              clear hw7
              go_wp2
              go_roundw
              case rel => exact ⟨k + 1, by omega, by go_num, HG8, by rw [HNX.out, HN.out]; exact HW8⟩
              case measure => simp [intOf]; omega
          · have HNC : Hid (hear1 cur x = cur) := Lib.hid (by rw [HAT.out, if_neg hn, if_neg hz])
            have hne : ¬(x.ver = e.t.ver ∧ x.who = e.t.who ∧ x.val = e.t.val) := fun h => hz (HLZ.out.2 h)
            have hnb : decide (0 < n) = false := by simpa using hn
            have hes : e.t.slot = i := HEO.out.1
            have heo : e.t.opn = false := HEO.out.2.2.2
            have HEF : Hid (e = ⟨⟨(i : Int), e.t.ver, e.t.who, e.t.val, false⟩, e.known, e.owed⟩) := Lib.hid (by rw [← hes, ← heo])
            have HS6 := HSE3
            have HB6 := HB3
            rw [hes, heo] at HS6
            clear hes heo hz
            by_cases hv : e.t.ver = x.ver
            · by_cases hw : e.t.who = x.who
              · have hzz : ¬ e.t.val.toList = x.val.toList := fun h => hne ⟨hv.symm, hw.symm, (ba_ext (beq_iff_eq.2 h)).symm⟩
                have HC : Hid (e = ⟨⟨(i : Int), x.ver, x.who, e.t.val, false⟩, e.known, e.owed⟩) := Lib.hid (by rw [← hv, ← hw]; exact HEF.out)
                rw [hv, hw] at HS6
                clear hne hv hw
                obtain ⟨b0, b1, b2, b3, b4⟩ := blk5 HXN3.out
                obtain ⟨s0, s1, s2, s3, s4, s5, s6⟩ := blk7 HS6.out
                go_wp2_with fail
                clear b0 b1 b2 b3 b4 s0 s1 s2 s3 s4 s5 s6 hnb hzz HSE3 HB3
                generalize w3 = w6 at *
                have HN : Hid (hear1 cur x = cur.set i ⟨⟨(i : Int), x.ver, x.who, e.t.val, false⟩, e.known, e.owed⟩) := Lib.hid (by rw [HNC.out, ← HC.out, ← HEE.out, List.set_getElem_self])
                have HFF : Hid (Told.fits ⟨(i : Int), x.ver, x.who, e.t.val, false⟩) := Lib.hid (by have h9 := HFE.out; rw [HC.out] at h9; exact h9)
                obtain ⟨c0, c1⟩ := blk2 ((HHD.out.below HB.out hgl).below HB6.out HL1.out)
                obtain ⟨b0, b1, b2, b3, b4⟩ := blk5 (HXN.out.below HB6.out HL3.out)
                obtain ⟨s0, s1, s2, s3, s4, s5, s6⟩ := blk7 HS6.out
                refine wp_region_still_tail 8 (by kernel_rfl) (by kernel_rfl) ?_
                simp only [List.take_succ_cons, List.take_zero, List.drop_succ_cons, List.drop_zero]
                repeat still_step
                refine wpStill_nil ?_
                change wpList _ _ _ _ _ w6.drew
                have HB7 := Lib.hid HB6.out.drew
                generalize w6.drew = w7 at *
                have hw7 := (HW.out.below HB.out).below HB7.out
                obtain ⟨d0, d1, d2, d3, d4, d5, d6⟩ := hw7.seven _ hin
                have f0 := hw7.frozen (i * 7)
                have f1 := hw7.frozen (i * 7 + 1)
                have f2 := hw7.frozen (i * 7 + 2)
                have f3 := hw7.frozen (i * 7 + 3)
                have f4 := hw7.frozen (i * 7 + 4)
                have f5 := hw7.frozen (i * 7 + 5)
                have f6 := hw7.frozen (i * 7 + 6)
                have HW8 := Lib.hid (hw7.set7 (e' := ⟨⟨(i : Int), x.ver, x.who, e.t.val, false⟩, e.known, e.owed⟩) hin HFF.out)
                have HG7 := Lib.hid (grown_tail (grown_tail HX.out (only_of_below HB.out (some wr.heap.size)) (fun k hk => by injection hk with hk; rw [← hk]; exact HX.out.size) (Nat.le_refl _)) (only_of_below HB7.out (some w1.heap.size)) (fun k hk => by injection hk with hk; rw [← hk]; exact Nat.le_trans HX.out.size HB.out.size) (Nat.le_refl _))
                have HG8 := Lib.hid (grown_set7 HG7.out (i * 7) (i * 7 + 1) (i * 7 + 2) (i * 7 + 3) (i * 7 + 4) (i * 7 + 5) (i * 7 + 6) (.int .i64 (i : Int)) (.int .i64 x.ver) (.int .i64 x.who) (.string e.t.val) (.bool false) (.bool e.known) (.bool e.owed))
                clear hw7
                go_wp2
                go_roundw
                case rel => exact ⟨k + 1, by omega, by go_num, HG8, by rw [HNX.out, HN.out]; exact HW8⟩
                case measure => simp [intOf]; omega
              · have HC : Hid (e = ⟨⟨(i : Int), x.ver, e.t.who, e.t.val, false⟩, e.known, e.owed⟩) := Lib.hid (by rw [← hv]; exact HEF.out)
                rw [hv] at HS6
                clear hne hv
                obtain ⟨b0, b1, b2, b3, b4⟩ := blk5 HXN3.out
                obtain ⟨s0, s1, s2, s3, s4, s5, s6⟩ := blk7 HS6.out
                go_wp2_with fail
                clear b0 b1 b2 b3 b4 s0 s1 s2 s3 s4 s5 s6 hnb hw HSE3 HB3
                generalize w3 = w6 at *
                have HN : Hid (hear1 cur x = cur.set i ⟨⟨(i : Int), x.ver, e.t.who, e.t.val, false⟩, e.known, e.owed⟩) := Lib.hid (by rw [HNC.out, ← HC.out, ← HEE.out, List.set_getElem_self])
                have HFF : Hid (Told.fits ⟨(i : Int), x.ver, e.t.who, e.t.val, false⟩) := Lib.hid (by have h9 := HFE.out; rw [HC.out] at h9; exact h9)
                obtain ⟨c0, c1⟩ := blk2 ((HHD.out.below HB.out hgl).below HB6.out HL1.out)
                obtain ⟨b0, b1, b2, b3, b4⟩ := blk5 (HXN.out.below HB6.out HL3.out)
                obtain ⟨s0, s1, s2, s3, s4, s5, s6⟩ := blk7 HS6.out
                refine wp_region_still_tail 8 (by kernel_rfl) (by kernel_rfl) ?_
                simp only [List.take_succ_cons, List.take_zero, List.drop_succ_cons, List.drop_zero]
                repeat still_step
                refine wpStill_nil ?_
                change wpList _ _ _ _ _ w6.drew
                have HB7 := Lib.hid HB6.out.drew
                generalize w6.drew = w7 at *
                have hw7 := (HW.out.below HB.out).below HB7.out
                obtain ⟨d0, d1, d2, d3, d4, d5, d6⟩ := hw7.seven _ hin
                have f0 := hw7.frozen (i * 7)
                have f1 := hw7.frozen (i * 7 + 1)
                have f2 := hw7.frozen (i * 7 + 2)
                have f3 := hw7.frozen (i * 7 + 3)
                have f4 := hw7.frozen (i * 7 + 4)
                have f5 := hw7.frozen (i * 7 + 5)
                have f6 := hw7.frozen (i * 7 + 6)
                have HW8 := Lib.hid (hw7.set7 (e' := ⟨⟨(i : Int), x.ver, e.t.who, e.t.val, false⟩, e.known, e.owed⟩) hin HFF.out)
                have HG7 := Lib.hid (grown_tail (grown_tail HX.out (only_of_below HB.out (some wr.heap.size)) (fun k hk => by injection hk with hk; rw [← hk]; exact HX.out.size) (Nat.le_refl _)) (only_of_below HB7.out (some w1.heap.size)) (fun k hk => by injection hk with hk; rw [← hk]; exact Nat.le_trans HX.out.size HB.out.size) (Nat.le_refl _))
                have HG8 := Lib.hid (grown_set7 HG7.out (i * 7) (i * 7 + 1) (i * 7 + 2) (i * 7 + 3) (i * 7 + 4) (i * 7 + 5) (i * 7 + 6) (.int .i64 (i : Int)) (.int .i64 x.ver) (.int .i64 e.t.who) (.string e.t.val) (.bool false) (.bool e.known) (.bool e.owed))
                clear hw7
                go_wp2
                go_roundw
                case rel => exact ⟨k + 1, by omega, by go_num, HG8, by rw [HNX.out, HN.out]; exact HW8⟩
                case measure => simp [intOf]; omega
            · have HC := HEF
              clear hne
              obtain ⟨b0, b1, b2, b3, b4⟩ := blk5 HXN3.out
              obtain ⟨s0, s1, s2, s3, s4, s5, s6⟩ := blk7 HS6.out
              go_wp2_with fail
              clear b0 b1 b2 b3 b4 s0 s1 s2 s3 s4 s5 s6 hnb hv HSE3 HB3
              generalize w3 = w6 at *
              have HN : Hid (hear1 cur x = cur.set i ⟨⟨(i : Int), e.t.ver, e.t.who, e.t.val, false⟩, e.known, e.owed⟩) := Lib.hid (by rw [HNC.out, ← HC.out, ← HEE.out, List.set_getElem_self])
              have HFF : Hid (Told.fits ⟨(i : Int), e.t.ver, e.t.who, e.t.val, false⟩) := Lib.hid (by have h9 := HFE.out; rw [HC.out] at h9; exact h9)
              obtain ⟨c0, c1⟩ := blk2 ((HHD.out.below HB.out hgl).below HB6.out HL1.out)
              obtain ⟨b0, b1, b2, b3, b4⟩ := blk5 (HXN.out.below HB6.out HL3.out)
              obtain ⟨s0, s1, s2, s3, s4, s5, s6⟩ := blk7 HS6.out
              refine wp_region_still_tail 8 (by kernel_rfl) (by kernel_rfl) ?_
              simp only [List.take_succ_cons, List.take_zero, List.drop_succ_cons, List.drop_zero]
              repeat still_step
              refine wpStill_nil ?_
              change wpList _ _ _ _ _ w6.drew
              have HB7 := Lib.hid HB6.out.drew
              generalize w6.drew = w7 at *
              have hw7 := (HW.out.below HB.out).below HB7.out
              obtain ⟨d0, d1, d2, d3, d4, d5, d6⟩ := hw7.seven _ hin
              have f0 := hw7.frozen (i * 7)
              have f1 := hw7.frozen (i * 7 + 1)
              have f2 := hw7.frozen (i * 7 + 2)
              have f3 := hw7.frozen (i * 7 + 3)
              have f4 := hw7.frozen (i * 7 + 4)
              have f5 := hw7.frozen (i * 7 + 5)
              have f6 := hw7.frozen (i * 7 + 6)
              have HW8 := Lib.hid (hw7.set7 (e' := ⟨⟨(i : Int), e.t.ver, e.t.who, e.t.val, false⟩, e.known, e.owed⟩) hin HFF.out)
              have HG7 := Lib.hid (grown_tail (grown_tail HX.out (only_of_below HB.out (some wr.heap.size)) (fun k hk => by injection hk with hk; rw [← hk]; exact HX.out.size) (Nat.le_refl _)) (only_of_below HB7.out (some w1.heap.size)) (fun k hk => by injection hk with hk; rw [← hk]; exact Nat.le_trans HX.out.size HB.out.size) (Nat.le_refl _))
              have HG8 := Lib.hid (grown_set7 HG7.out (i * 7) (i * 7 + 1) (i * 7 + 2) (i * 7 + 3) (i * 7 + 4) (i * 7 + 5) (i * 7 + 6) (.int .i64 (i : Int)) (.int .i64 e.t.ver) (.int .i64 e.t.who) (.string e.t.val) (.bool false) (.bool e.known) (.bool e.owed))
              clear hw7
              go_wp2
              go_roundw
              case rel => exact ⟨k + 1, by omega, by go_num, HG8, by rw [HNX.out, HN.out]; exact HW8⟩
              case measure => simp [intOf]; omega
      · have hkl : l.take k = l := List.take_of_length_le (by omega)
        rw [hkl] at HW
        go_wp2
        go_ret
        exact ⟨rfl, HX.out, by rw [HSS.out]; simpa using HW.out⟩
  · have HS2 : Hid (es' = es) := Lib.hid (by rw [HSS.out, if_neg he])
    have heb : (er != 0) = true := by simpa using he
    go_wp2
    go_ret
    exact ⟨rfl, only_of_below HX0.out _, by rw [HS2.out]; exact HT.out.row.below HX0.out⟩
end Go.Proofs.Ytmghigmegiainaa
