/- Walks: R.Take. -/
import Derived.Test.YtmghigmegiainaaTkF
namespace Go.Proofs.Ytmghigmegiainaa
open Go.RowKit

theorem reads_new3 (w : World) (o o' : Obj) (x : Told) (t : Nat) : Reads (((w.alloc o).alloc o').alloc (.cells #[.int .i64 x.slot, .int .i64 x.ver, .int .i64 x.who, .string x.val, .bool x.opn] t)) (w.heap.size + 2 + 1) 5 (some ⟨w.heap.size + 2, 0, none⟩) 1 x.cells := by
  have := reads_new1 ((w.alloc o).alloc o') x t
  rwa [World.size_alloc, World.size_alloc] at this
set_option maxHeartbeats 4000000 in
theorem rTake_any (g gs c : Nat) (who : Int) (es : List Ent) (w : World) (h : Tk w 59 61 g gs c who es) (hlen : es.length ≤ 20) (hok : EsOk es) :
    Calls Try.prog 12 #[.pointer (some ⟨g, 0, none⟩)] w fun e w' => (∃ v, e = .returned v ∧ ToldRow w' w.heap.size v (takeL es)) ∧ w.grownBy w' (some gs) ∧ Slots w' 61 gs c (takeS es) := by
  have HOK := Lib.hid hok
  clear hok
  obtain ⟨i0, hinf, hz0, hz1, hz2⟩ := info_parts infoTO
  have hle := h.row.le
  unfold maxLen at hle
  have HT := Lib.hid h
  have HGS := Lib.hid h.row.lt
  clear h
  go_enter Try.func12, Try.ntmps12
  go_wp2
  go_loopw [3, 4] (fun v i wr => ∃ k : Nat, k ≤ es.length ∧ i = .int .i64 (k : Int) ∧ Hid (w.grownBy wr (some gs)) ∧ Hid (Slots wr 61 gs c (mid es k)) ∧ Hid (ToldRow wr w.heap.size v (takeL (es.take k)))) (fun _ i _ => es.length - (intOf i).toNat)
  case atStart => exact ⟨0, by omega, rfl, Lib.hid (only_of_below (Below.refl _ _) _), Lib.hid (by rw [mid_zero]; exact HT.out.row), Lib.hid (ToldRow.nil_ _ _)⟩
  case round =>
    obtain ⟨k, hk, rfl, HX, HW, HR⟩ := hrel
    obtain ⟨c0, c1⟩ := blk2 (HT.out.head.grown HX.out (by intro e; injection e with e; exact HT.out.ne e))
    by_cases hlt : k < es.length
    · have hml : k < (mid es k).length := by rw [mid_len hk]; exact hlt
      obtain ⟨d0, d1, d2, d3, d4, d5, d6⟩ := HW.out.seven _ hml
      have HN := Lib.hid (takeL_next hlt)
      have HNX := Lib.hid (mid_next hlt hml)
      have HF := Lib.hid (HW.out.fits hml)
      have HEO := Lib.hid (HOK.out k _ (List.getElem?_eq_getElem hlt)).2.1
      have hcnt := takeL_le (es.take k)
      rw [List.length_take] at hcnt
      rw [mid_at hlt hml] at d0 d1 d2 d3 d4 d5 d6 HF
      generalize es[k]'hlt = x at *
      generalize takeL (es.take k) = l at *
      by_cases hz : x.t.ver = 0
      · have hv : ¬ 0 < x.t.ver := by omega
        have hzb : (x.t.ver != 0) = false := by simp [hz]
        clear hz
        have hkn : True := trivial
        cases how : x.owed
        · rw [how] at d6
          have HY : Hid (x.tells = []) := Lib.hid (by simp [Ent.tells, Ent.opens, hv, hkn, how])
          have hbw := ((Below.refl (wr.setCell ⟨gs, k * 7 + 6, none⟩ (.bool false)).heap.size (wr.setCell ⟨gs, k * 7 + 6, none⟩ (.bool false))).alloc (Nat.le_refl _) (.cells #[.int .i64 x.t.slot, .int .i64 x.t.ver, .int .i64 x.t.who, .string x.t.val, .bool x.t.opn, .bool x.known, .bool false] 61)).alloc (by simp) (.cells #[.int .i64 x.t.slot, .int .i64 x.t.ver, .int .i64 x.t.who, .string x.t.val, .bool false] 44)
          have hw6 := HW.out.set1 (j := 6) (v := .bool false) (e' := Ent.done ((mid es k)[k]'hml)) hml (by omega) (HW.out.fits hml) rfl
          rw [HNX.out] at hw6
          have HW6 := Lib.hid (hw6.below hbw)
          have HR6 := Lib.hid ((HR.out.grown (only_setCell (only_of_below (Below.refl _ _) (some gs)) (p := ⟨gs, k * 7 + 6, none⟩) (.inl rfl) (.bool false)) (told_off HR.out HGS.out)).below hbw)
          have HG6 := Lib.hid (only_alloc (only_alloc (only_setCell HX.out (p := ⟨gs, k * 7 + 6, none⟩) (.inl rfl) (.bool false)) (.cells #[.int .i64 x.t.slot, .int .i64 x.t.ver, .int .i64 x.t.who, .string x.t.val, .bool x.t.opn, .bool x.known, .bool false] 61)) (.cells #[.int .i64 x.t.slot, .int .i64 x.t.ver, .int .i64 x.t.who, .string x.t.val, .bool false] 44))
          have f6 := HW.out.frozen (k * 7 + 6)
          clear hbw hw6
          have hgl := (HT.out.head.grown HX.out (by intro e; injection e with e; exact HT.out.ne e)).lt
          have hgsl := HW.out.lt
          go_wp2
          go_roundw
          case rel => exact ⟨k + 1, by omega, by go_num, HG6, HW6, by rw [HN.out, HY.out, List.append_nil]; exact HR6⟩
          case measure => simp [intOf]; omega
        · rw [how] at d6
          have HY : Hid (x.tells = [⟨x.t.slot, x.t.ver, x.t.who, x.t.val, false⟩]) := Lib.hid (by simp [Ent.tells, Ent.opens, hv, hkn, how])
          have ho2 := ((HR.out.1.alloc (.cells #[.int .i64 x.t.slot, .int .i64 x.t.ver, .int .i64 x.t.who, .string x.t.val, .bool x.t.opn, .bool x.known, .bool true] 61)).alloc (.cells #[.int .i64 x.t.slot, .int .i64 x.t.ver, .int .i64 x.t.who, .string x.t.val, .bool false] 44)).alloc (.cells #[.int .i64 x.t.slot, .int .i64 x.t.ver, .int .i64 x.t.who, .string x.t.val, .bool false] 44)
          have HG3 := Lib.hid (only_alloc (only_alloc (only_alloc HX.out (.cells #[.int .i64 x.t.slot, .int .i64 x.t.ver, .int .i64 x.t.who, .string x.t.val, .bool x.t.opn, .bool x.known, .bool true] 61)) (.cells #[.int .i64 x.t.slot, .int .i64 x.t.ver, .int .i64 x.t.who, .string x.t.val, .bool false] 44)) (.cells #[.int .i64 x.t.slot, .int .i64 x.t.ver, .int .i64 x.t.who, .string x.t.val, .bool false] 44))
          have HR3 := Lib.hid (HW.out.below ((((Below.refl wr.heap.size wr).alloc (Nat.le_refl _) (.cells #[.int .i64 x.t.slot, .int .i64 x.t.ver, .int .i64 x.t.who, .string x.t.val, .bool x.t.opn, .bool x.known, .bool true] 61)).alloc (by simp) (.cells #[.int .i64 x.t.slot, .int .i64 x.t.ver, .int .i64 x.t.who, .string x.t.val, .bool false] 44)).alloc (by simp; omega) (.cells #[.int .i64 x.t.slot, .int .i64 x.t.ver, .int .i64 x.t.who, .string x.t.val, .bool false] 44)))
          have hwz := HX.out.size
          have hge := own_ge HR.out.1
          go_wp2_with (at_builtin; refine unhide ?_)
          unfold Hid
          refine wpList_append_any _ rfl _ _ 36 rfl w.heap.size 44 i0 _ 5 48 Try.underlying36 hinf hz0 hz1 hz2 rfl (by omega) u3 _ _ rfl ho2 (wr.heap.size + 2 + 1) (some ⟨wr.heap.size + 2, 0, none⟩) 1 1 (Told.cells ⟨x.t.slot, x.t.ver, x.t.who, x.t.val, false⟩) rfl (reads_new3 _ _ _ ⟨x.t.slot, x.t.ver, x.t.who, x.t.val, false⟩ _) (one_told _) (by unfold maxLen; omega) (by omega) (by have h8 := hwz; (try simp only [World.size_alloc] at h8); simp only [World.size_alloc]; omega) ?_
          intro v5 w5 hown5 hg5 hat5
          have HG5 := Lib.hid (grown_tail HG3.out hg5 (fun g hg => hge _ hg) (Nat.le_refl _))
          have HR5 : Hid (ToldRow w5 w.heap.size v5 (l ++ [⟨x.t.slot, x.t.ver, x.t.who, x.t.val, false⟩])) := Lib.hid ⟨by rw [flatT_snoc, List.length_append]; exact hown5, fun y hy => by
            rcases List.mem_append.1 hy with hy | hy
            · exact HR.out.2 y hy
            · simp at hy; subst hy; exact HF.out⟩
          have HW5 := Lib.hid (HR3.out.grown hg5 (by intro e; have := hge _ e.symm; have := HGS.out; omega))
          clear hown5 hg5 hat5 ho2 hge d0 d1 d2 d3 d4 d5 d6 c0 c1
          obtain ⟨d0, d1, d2, d3, d4, d5, d6⟩ := HW5.out.seven _ hml
          obtain ⟨c0, c1⟩ := blk2 (HT.out.head.grown HG5.out (by intro e; injection e with e; exact HT.out.ne e))
          have f6 := HW5.out.frozen (k * 7 + 6)
          have HW6 := Lib.hid (HW5.out.set1 (j := 6) (v := .bool false) (e' := Ent.done ((mid es k)[k]'hml)) hml (by omega) (HW5.out.fits hml) rfl)
          rw [HNX.out] at HW6
          have HR6 := Lib.hid (HR5.out.grown (only_setCell (only_of_below (Below.refl w5.heap.size w5) (some gs)) (p := ⟨gs, k * 7 + 6, none⟩) (.inl rfl) (.bool false)) (told_off HR5.out HGS.out))
          have HG6 := Lib.hid (only_setCell HG5.out (p := ⟨gs, k * 7 + 6, none⟩) (.inl rfl) (.bool false))
          go_wp2
          go_roundw
          case rel => exact ⟨k + 1, by omega, by go_num, HG6, HW6, by rw [HN.out, HY.out]; exact HR6⟩
          case measure => simp [intOf]; omega
      · have hv : 0 < x.t.ver := by have := HEO.out; omega
        have hzb : (x.t.ver != 0) = true := by simp [hz]
        clear hz
        cases hkn : x.known
        · rw [hkn] at d5
          have how : True := trivial
          have HY : Hid (x.tells = [⟨x.t.slot, x.t.ver, x.t.who, x.t.val, true⟩]) := Lib.hid (by simp [Ent.tells, Ent.opens, hv, hkn, how])
          have ho2 := ((HR.out.1.alloc (.cells #[.int .i64 x.t.slot, .int .i64 x.t.ver, .int .i64 x.t.who, .string x.t.val, .bool x.t.opn, .bool false, .bool x.owed] 61)).alloc (.cells #[.int .i64 x.t.slot, .int .i64 x.t.ver, .int .i64 x.t.who, .string x.t.val, .bool true] 44)).alloc (.cells #[.int .i64 x.t.slot, .int .i64 x.t.ver, .int .i64 x.t.who, .string x.t.val, .bool true] 44)
          have HG3 := Lib.hid (only_alloc (only_alloc (only_alloc HX.out (.cells #[.int .i64 x.t.slot, .int .i64 x.t.ver, .int .i64 x.t.who, .string x.t.val, .bool x.t.opn, .bool false, .bool x.owed] 61)) (.cells #[.int .i64 x.t.slot, .int .i64 x.t.ver, .int .i64 x.t.who, .string x.t.val, .bool true] 44)) (.cells #[.int .i64 x.t.slot, .int .i64 x.t.ver, .int .i64 x.t.who, .string x.t.val, .bool true] 44))
          have HR3 := Lib.hid (HW.out.below ((((Below.refl wr.heap.size wr).alloc (Nat.le_refl _) (.cells #[.int .i64 x.t.slot, .int .i64 x.t.ver, .int .i64 x.t.who, .string x.t.val, .bool x.t.opn, .bool false, .bool x.owed] 61)).alloc (by simp) (.cells #[.int .i64 x.t.slot, .int .i64 x.t.ver, .int .i64 x.t.who, .string x.t.val, .bool true] 44)).alloc (by simp; omega) (.cells #[.int .i64 x.t.slot, .int .i64 x.t.ver, .int .i64 x.t.who, .string x.t.val, .bool true] 44)))
          have hwz := HX.out.size
          have hge := own_ge HR.out.1
          go_wp2_with (at_builtin; refine unhide ?_)
          unfold Hid
          refine wpList_append_any _ rfl _ _ 36 rfl w.heap.size 44 i0 _ 5 48 Try.underlying36 hinf hz0 hz1 hz2 rfl (by omega) u3 _ _ rfl ho2 (wr.heap.size + 2 + 1) (some ⟨wr.heap.size + 2, 0, none⟩) 1 1 (Told.cells ⟨x.t.slot, x.t.ver, x.t.who, x.t.val, true⟩) rfl (reads_new3 _ _ _ ⟨x.t.slot, x.t.ver, x.t.who, x.t.val, true⟩ _) (one_told _) (by unfold maxLen; omega) (by omega) (by have h8 := hwz; (try simp only [World.size_alloc] at h8); simp only [World.size_alloc]; omega) ?_
          intro v5 w5 hown5 hg5 hat5
          have HG5 := Lib.hid (grown_tail HG3.out hg5 (fun g hg => hge _ hg) (Nat.le_refl _))
          have HR5 : Hid (ToldRow w5 w.heap.size v5 (l ++ [⟨x.t.slot, x.t.ver, x.t.who, x.t.val, true⟩])) := Lib.hid ⟨by rw [flatT_snoc, List.length_append]; exact hown5, fun y hy => by
            rcases List.mem_append.1 hy with hy | hy
            · exact HR.out.2 y hy
            · simp at hy; subst hy; exact HF.out⟩
          have HW5 := Lib.hid (HR3.out.grown hg5 (by intro e; have := hge _ e.symm; have := HGS.out; omega))
          clear hown5 hg5 hat5 ho2 hge d0 d1 d2 d3 d4 d5 d6 c0 c1
          obtain ⟨d0, d1, d2, d3, d4, d5, d6⟩ := HW5.out.seven _ hml
          obtain ⟨c0, c1⟩ := blk2 (HT.out.head.grown HG5.out (by intro e; injection e with e; exact HT.out.ne e))
          have f6 := HW5.out.frozen (k * 7 + 6)
          have HW6 := Lib.hid (HW5.out.set1 (j := 6) (v := .bool false) (e' := Ent.done ((mid es k)[k]'hml)) hml (by omega) (HW5.out.fits hml) rfl)
          rw [HNX.out] at HW6
          have HR6 := Lib.hid (HR5.out.grown (only_setCell (only_of_below (Below.refl w5.heap.size w5) (some gs)) (p := ⟨gs, k * 7 + 6, none⟩) (.inl rfl) (.bool false)) (told_off HR5.out HGS.out))
          have HG6 := Lib.hid (only_setCell HG5.out (p := ⟨gs, k * 7 + 6, none⟩) (.inl rfl) (.bool false))
          go_wp2
          go_roundw
          case rel => exact ⟨k + 1, by omega, by go_num, HG6, HW6, by rw [HN.out, HY.out]; exact HR6⟩
          case measure => simp [intOf]; omega
        · rw [hkn] at d5
          cases how : x.owed
          · rw [how] at d6
            have HY : Hid (x.tells = []) := Lib.hid (by simp [Ent.tells, Ent.opens, hv, hkn, how])
            have hbw := ((Below.refl (wr.setCell ⟨gs, k * 7 + 6, none⟩ (.bool false)).heap.size (wr.setCell ⟨gs, k * 7 + 6, none⟩ (.bool false))).alloc (Nat.le_refl _) (.cells #[.int .i64 x.t.slot, .int .i64 x.t.ver, .int .i64 x.t.who, .string x.t.val, .bool x.t.opn, .bool true, .bool false] 61)).alloc (by simp) (.cells #[.int .i64 x.t.slot, .int .i64 x.t.ver, .int .i64 x.t.who, .string x.t.val, .bool false] 44)
            have hw6 := HW.out.set1 (j := 6) (v := .bool false) (e' := Ent.done ((mid es k)[k]'hml)) hml (by omega) (HW.out.fits hml) rfl
            rw [HNX.out] at hw6
            have HW6 := Lib.hid (hw6.below hbw)
            have HR6 := Lib.hid ((HR.out.grown (only_setCell (only_of_below (Below.refl _ _) (some gs)) (p := ⟨gs, k * 7 + 6, none⟩) (.inl rfl) (.bool false)) (told_off HR.out HGS.out)).below hbw)
            have HG6 := Lib.hid (only_alloc (only_alloc (only_setCell HX.out (p := ⟨gs, k * 7 + 6, none⟩) (.inl rfl) (.bool false)) (.cells #[.int .i64 x.t.slot, .int .i64 x.t.ver, .int .i64 x.t.who, .string x.t.val, .bool x.t.opn, .bool true, .bool false] 61)) (.cells #[.int .i64 x.t.slot, .int .i64 x.t.ver, .int .i64 x.t.who, .string x.t.val, .bool false] 44))
            have f6 := HW.out.frozen (k * 7 + 6)
            clear hbw hw6
            have hgl := (HT.out.head.grown HX.out (by intro e; injection e with e; exact HT.out.ne e)).lt
            have hgsl := HW.out.lt
            go_wp2
            go_roundw
            case rel => exact ⟨k + 1, by omega, by go_num, HG6, HW6, by rw [HN.out, HY.out, List.append_nil]; exact HR6⟩
            case measure => simp [intOf]; omega
          · rw [how] at d6
            have HY : Hid (x.tells = [⟨x.t.slot, x.t.ver, x.t.who, x.t.val, false⟩]) := Lib.hid (by simp [Ent.tells, Ent.opens, hv, hkn, how])
            have ho2 := ((HR.out.1.alloc (.cells #[.int .i64 x.t.slot, .int .i64 x.t.ver, .int .i64 x.t.who, .string x.t.val, .bool x.t.opn, .bool true, .bool true] 61)).alloc (.cells #[.int .i64 x.t.slot, .int .i64 x.t.ver, .int .i64 x.t.who, .string x.t.val, .bool false] 44)).alloc (.cells #[.int .i64 x.t.slot, .int .i64 x.t.ver, .int .i64 x.t.who, .string x.t.val, .bool false] 44)
            have HG3 := Lib.hid (only_alloc (only_alloc (only_alloc HX.out (.cells #[.int .i64 x.t.slot, .int .i64 x.t.ver, .int .i64 x.t.who, .string x.t.val, .bool x.t.opn, .bool true, .bool true] 61)) (.cells #[.int .i64 x.t.slot, .int .i64 x.t.ver, .int .i64 x.t.who, .string x.t.val, .bool false] 44)) (.cells #[.int .i64 x.t.slot, .int .i64 x.t.ver, .int .i64 x.t.who, .string x.t.val, .bool false] 44))
            have HR3 := Lib.hid (HW.out.below ((((Below.refl wr.heap.size wr).alloc (Nat.le_refl _) (.cells #[.int .i64 x.t.slot, .int .i64 x.t.ver, .int .i64 x.t.who, .string x.t.val, .bool x.t.opn, .bool true, .bool true] 61)).alloc (by simp) (.cells #[.int .i64 x.t.slot, .int .i64 x.t.ver, .int .i64 x.t.who, .string x.t.val, .bool false] 44)).alloc (by simp; omega) (.cells #[.int .i64 x.t.slot, .int .i64 x.t.ver, .int .i64 x.t.who, .string x.t.val, .bool false] 44)))
            have hwz := HX.out.size
            have hge := own_ge HR.out.1
            go_wp2_with (at_builtin; refine unhide ?_)
            unfold Hid
            refine wpList_append_any _ rfl _ _ 36 rfl w.heap.size 44 i0 _ 5 48 Try.underlying36 hinf hz0 hz1 hz2 rfl (by omega) u3 _ _ rfl ho2 (wr.heap.size + 2 + 1) (some ⟨wr.heap.size + 2, 0, none⟩) 1 1 (Told.cells ⟨x.t.slot, x.t.ver, x.t.who, x.t.val, false⟩) rfl (reads_new3 _ _ _ ⟨x.t.slot, x.t.ver, x.t.who, x.t.val, false⟩ _) (one_told _) (by unfold maxLen; omega) (by omega) (by have h8 := hwz; (try simp only [World.size_alloc] at h8); simp only [World.size_alloc]; omega) ?_
            intro v5 w5 hown5 hg5 hat5
            have HG5 := Lib.hid (grown_tail HG3.out hg5 (fun g hg => hge _ hg) (Nat.le_refl _))
            have HR5 : Hid (ToldRow w5 w.heap.size v5 (l ++ [⟨x.t.slot, x.t.ver, x.t.who, x.t.val, false⟩])) := Lib.hid ⟨by rw [flatT_snoc, List.length_append]; exact hown5, fun y hy => by
              rcases List.mem_append.1 hy with hy | hy
              · exact HR.out.2 y hy
              · simp at hy; subst hy; exact HF.out⟩
            have HW5 := Lib.hid (HR3.out.grown hg5 (by intro e; have := hge _ e.symm; have := HGS.out; omega))
            clear hown5 hg5 hat5 ho2 hge d0 d1 d2 d3 d4 d5 d6 c0 c1
            obtain ⟨d0, d1, d2, d3, d4, d5, d6⟩ := HW5.out.seven _ hml
            obtain ⟨c0, c1⟩ := blk2 (HT.out.head.grown HG5.out (by intro e; injection e with e; exact HT.out.ne e))
            have f6 := HW5.out.frozen (k * 7 + 6)
            have HW6 := Lib.hid (HW5.out.set1 (j := 6) (v := .bool false) (e' := Ent.done ((mid es k)[k]'hml)) hml (by omega) (HW5.out.fits hml) rfl)
            rw [HNX.out] at HW6
            have HR6 := Lib.hid (HR5.out.grown (only_setCell (only_of_below (Below.refl w5.heap.size w5) (some gs)) (p := ⟨gs, k * 7 + 6, none⟩) (.inl rfl) (.bool false)) (told_off HR5.out HGS.out))
            have HG6 := Lib.hid (only_setCell HG5.out (p := ⟨gs, k * 7 + 6, none⟩) (.inl rfl) (.bool false))
            go_wp2
            go_roundw
            case rel => exact ⟨k + 1, by omega, by go_num, HG6, HW6, by rw [HN.out, HY.out]; exact HR6⟩
            case measure => simp [intOf]; omega
    · have hkk : k = es.length := by omega
      subst hkk
      have HE : Hid (es.take es.length = es) := Lib.hid (List.take_of_length_le (Nat.le_refl _))
      rw [HE.out] at HR
      rw [mid_all] at HW
      go_wp2
      go_ret
      exact ⟨⟨_, rfl, HR.out⟩, HX.out, HW.out⟩
end Go.Proofs.Ytmghigmegiainaa
