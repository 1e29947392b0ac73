/- Walks: which entry is later (cmp.Compare, cmp.Or, talk.later, R.Later). -/
import Derived.Test.YtmghigmegiainaaTk
namespace Go.Proofs.Ytmghigmegiainaa
open Go.RowKit

set_option maxHeartbeats 1000000 in
theorem nanI_any (x : Int) (w : World) : Calls Try.prog 25 #[.int .i64 x] w fun e w' => e = .returned (.bool false) ∧ w = w' := by
  go_enter Try.func25, Try.ntmps25
  go_wp2
  go_ret
  exact ⟨rfl, rfl⟩
set_option maxHeartbeats 1000000 in
theorem nanS_any (x : ByteArray) (w : World) : Calls Try.prog 26 #[.string x] w fun e w' => e = .returned (.bool false) ∧ w = w' := by
  go_enter Try.func26, Try.ntmps26
  go_wp2
  go_ret
  exact ⟨rfl, rfl⟩
set_option maxHeartbeats 1000000 in
theorem cmpI_any (x y : Int) (w : World) : Calls Try.prog 23 #[.int .i64 x, .int .i64 y] w fun e w' => e = .returned (.int .i64 (cmpI x y)) ∧ w = w' := by
  go_enter Try.func23, Try.ntmps23
  go_wp2_with (go_at_call 25; refine (nanI_any _ _).mono ?_; rintro e w' ⟨rfl, rfl⟩)
  all_goals go_ret
  all_goals refine ⟨?_, rfl⟩
  all_goals unfold cmpI
  all_goals (repeat' split) <;> first | rfl | (exfalso; omega)
set_option maxHeartbeats 1000000 in
theorem cmpS_any (x y : ByteArray) (w : World) : Calls Try.prog 24 #[.string x, .string y] w fun e w' => e = .returned (.int .i64 (cmpS x y)) ∧ w = w' := by
  have HC : Hid (cmpS x y = if strLt x y then -1 else if strGt x y then 1 else 0) := Lib.hid rfl
  unfold strLt strGt at HC
  go_enter Try.func24, Try.ntmps24
  cases h1 : Op.bytesLess x.toList y.toList
  all_goals cases h2 : (x.toList == y.toList)
  all_goals have H1 := Lib.hid h1
  all_goals have H2 := Lib.hid h2
  all_goals go_wp2_with (first | (go_at_call 26; refine (nanS_any _ _).mono ?_; rintro e w' ⟨rfl, rfl⟩))
  all_goals go_ret
  all_goals (have := HC.out; rw [H1.out, H2.out] at this; rw [this]; exact ⟨rfl, rfl⟩)

theorem run3 {w : World} {g t : Nat} {x y z : Value} (h : Blk w g t #[x, y, z]) : w.cell? ⟨g, 0, none⟩ = some x ∧ w.cell? ⟨g, 1, none⟩ = some y ∧ w.cell? ⟨g, 2, none⟩ = some z := by
  refine ⟨?_, ?_, ?_⟩ <;> rw [h.cell] <;> rfl
set_option maxHeartbeats 1000000 in
theorem or3_any {g t c : Nat} (a b d : Int) (w : World) (hc : 3 ≤ c) (h : Blk w g t #[.int .i64 a, .int .i64 b, .int .i64 d]) :
    Calls Try.prog 22 #[.slice (some ⟨g, 0, none⟩) 3 c] w fun e w' => e = .returned (.int .i64 (or3 a b d)) ∧ w = w' := by
  obtain ⟨c0, c1, c2⟩ := run3 h
  have HO : Hid (or3 a b d = if a ≠ 0 then a else if b ≠ 0 then b else d) := Lib.hid rfl
  clear h
  go_enter Try.func22, Try.ntmps22
  go_wp2
  go_loop [8] (fun i => i = .int .i64 0 ∨ (i = .int .i64 1 ∧ a = 0) ∨ (i = .int .i64 2 ∧ a = 0 ∧ b = 0) ∨ (i = .int .i64 3 ∧ a = 0 ∧ b = 0 ∧ d = 0)) (fun i => 3 - (intOf i).toNat)
  case atStart => exact .inl rfl
  case round =>
    rcases hrel with rfl | ⟨rfl, h0⟩ | ⟨rfl, h0, h1⟩ | ⟨rfl, h0, h1, h2⟩
    · by_cases h0 : a = 0
      · subst h0
        go_wp2
        go_round
        case rel => exact .inr (.inl ⟨rfl, by simp⟩)
        case measure => simp [intOf]
      · go_wp2
        go_ret
        rw [HO.out, if_pos h0]; exact ⟨rfl, rfl⟩
    · have H0 := Lib.hid h0
      clear h0
      by_cases h1 : b = 0
      · subst h1
        go_wp2
        go_round
        case rel => exact .inr (.inr (.inl ⟨rfl, H0.out, by simp⟩))
        case measure => simp [intOf]
      · go_wp2
        go_ret
        rw [HO.out, if_neg (by simp [H0.out]), if_pos h1]; exact ⟨rfl, rfl⟩
    · have H0 := Lib.hid (And.intro h0 h1)
      clear h0 h1
      by_cases h1 : d = 0
      · subst h1
        go_wp2
        go_round
        case rel => exact .inr (.inr (.inr ⟨rfl, H0.out.1, H0.out.2, by simp⟩))
        case measure => simp [intOf]
      · go_wp2
        go_ret
        rw [HO.out, if_neg (by simp [H0.out.1]), if_neg (by simp [H0.out.2])]; exact ⟨rfl, rfl⟩
    · have H0 := Lib.hid (And.intro h0 (And.intro h1 h2))
      clear h0 h1 h2
      go_wp2
      go_ret
      rw [HO.out, if_neg (by simp [H0.out.1]), if_neg (by simp [H0.out.2]), H0.out.2.2]; exact ⟨rfl, rfl⟩

theorem still_left {P : Program} {f : FuncId} {args : Array Value} {w : World} {v : Value}
    (h : Calls P f args w fun e w' => e = .returned v ∧ w = w') : Calls P f args w fun e w'' => e = .returned v ∧ w'' = w :=
  h.mono fun _ _ ⟨he, hm⟩ => ⟨he, hm.symm⟩
theorem blk5 {w : World} {g t : Nat} {a b c d e : Value} (h : Blk w g t #[a, b, c, d, e]) : w.cell? ⟨g, 0, none⟩ = some a ∧ w.cell? ⟨g, 1, none⟩ = some b ∧ w.cell? ⟨g, 2, none⟩ = some c ∧ w.cell? ⟨g, 3, none⟩ = some d ∧ w.cell? ⟨g, 4, none⟩ = some e := by
  refine ⟨?_, ?_, ?_, ?_, ?_⟩ <;> rw [h.cell] <;> rfl
def Told.val_ (x : Told) : Value := .agg #[.int .i64 x.slot, .int .i64 x.ver, .int .i64 x.who, .string x.val, .bool x.opn]
set_option maxHeartbeats 1000000 in
theorem later_any (a b : Told) (w : World) : Calls Try.prog 20 #[a.val_, b.val_] w fun e w' => e = .returned (.int .i64 (a.later b)) ∧ Below w.heap.size w w' := by
  unfold Told.val_
  have hA : Blk ((w.alloc (.cells #[.int .i64 a.slot, .int .i64 a.ver, .int .i64 a.who, .string a.val, .bool a.opn] 44)).alloc (.cells #[.int .i64 b.slot, .int .i64 b.ver, .int .i64 b.who, .string b.val, .bool b.opn] 44)) w.heap.size 44 #[.int .i64 a.slot, .int .i64 a.ver, .int .i64 a.who, .string a.val, .bool a.opn] := (Blk.new _ _ _).alloc _
  have hB : Blk ((w.alloc (.cells #[.int .i64 a.slot, .int .i64 a.ver, .int .i64 a.who, .string a.val, .bool a.opn] 44)).alloc (.cells #[.int .i64 b.slot, .int .i64 b.ver, .int .i64 b.who, .string b.val, .bool b.opn] 44)) (w.heap.size + 1) 44 #[.int .i64 b.slot, .int .i64 b.ver, .int .i64 b.who, .string b.val, .bool b.opn] := by
    have := Blk.new (w.alloc (.cells #[.int .i64 a.slot, .int .i64 a.ver, .int .i64 a.who, .string a.val, .bool a.opn] 44)) 44 #[.int .i64 b.slot, .int .i64 b.ver, .int .i64 b.who, .string b.val, .bool b.opn]
    rwa [World.size_alloc] at this
  have hX : Below w.heap.size w ((w.alloc (.cells #[.int .i64 a.slot, .int .i64 a.ver, .int .i64 a.who, .string a.val, .bool a.opn] 44)).alloc (.cells #[.int .i64 b.slot, .int .i64 b.ver, .int .i64 b.who, .string b.val, .bool b.opn] 44)) := ((Below.refl _ _).alloc (Nat.le_refl _) _).alloc (by simp) _
  have HA := Lib.hid hA; have HB := Lib.hid hB; have HX := Lib.hid hX
  clear hA hB hX
  have HO : Hid (a.later b = or3 (cmpI a.ver b.ver) (cmpI a.who b.who) (cmpS a.val b.val)) := Lib.hid rfl
  generalize a.later b = o at *
  go_enter Try.func20, Try.ntmps20
  go_upto_region 1 with fail
  generalize ((w.alloc (.cells #[.int .i64 a.slot, .int .i64 a.ver, .int .i64 a.who, .string a.val, .bool a.opn] 44)).alloc (.cells #[.int .i64 b.slot, .int .i64 b.ver, .int .i64 b.who, .string b.val, .bool b.opn] 44)) = w1 at *
  obtain ⟨a0, a1, a2, a3, a4⟩ := blk5 HA.out
  obtain ⟨b0, b1, b2, b3, b4⟩ := blk5 HB.out
  have HC1 := Lib.hid (cmpI_any a.ver b.ver)
  have HC2 := Lib.hid (cmpI_any a.who b.who)
  have HC3 := Lib.hid (cmpS_any a.val b.val)
  generalize a.ver = av at *
  generalize b.ver = bv at *
  generalize a.who = aw at *
  generalize b.who = bw at *
  generalize a.val = az at *
  generalize b.val = bz at *
  refine wp_region_still_tail 15 (by kernel_rfl) (by kernel_rfl) ?_
  simp only [List.take_succ_cons, List.take_zero, List.drop_succ_cons, List.drop_zero]
  repeat still_step
  still_call (still_left (HC1.out _))
  repeat still_step
  still_call (still_left (HC2.out _))
  repeat still_step
  still_call (still_left (HC3.out _))
  refine wpStill_nil ?_
  change wpList _ _ _ _ _ w1.drew
  have hb2 : Below w1.heap.size w1 w1.drew := (Below.refl _ _).drew
  generalize w1.drew = w2 at *
  have HN := Lib.hid (Blk.new w2 3 #[.int .i64 (cmpI av bv), .int .i64 (cmpI aw bw), .int .i64 (cmpS az bz)])
  have HB2 := Lib.hid (hb2.alloc hb2.size (.cells #[.int .i64 (cmpI av bv), .int .i64 (cmpI aw bw), .int .i64 (cmpS az bz)] 3))
  clear hb2
  go_wp2_with (go_at_call 22; refine (or3_any _ _ _ _ (Nat.le_refl _) (by exact HN.out)).mono ?_; rintro e w9 ⟨rfl, rfl⟩)
  go_ret
  refine ⟨by rw [HO.out]; rfl, HX.out.trans (HB2.out.mono HX.out.size)⟩
