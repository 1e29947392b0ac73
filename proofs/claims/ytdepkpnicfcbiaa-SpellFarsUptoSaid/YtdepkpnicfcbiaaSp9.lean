/- Spelling: what edits make of a text: the walk of Do. -/
import Derived.Test.YtdepkpnicfcbiaaSp8
namespace Go.Proofs.Ytdepkpnicfcbiaa
open Go.RowKit

theorem strCells_app (s t : ByteArray) : Lib.strCells (s ++ t) = Lib.strCells s ++ Lib.strCells t := by
  unfold Lib.strCells; rw [ByteArray.data_append, Array.toList_append, List.map_append]
theorem isB_alloc {T e : TypeId} {B b : Nat} {bs : List Value} {w : World} (h : Lib.IsBuilder T e B b bs w) (o : Obj) : Lib.IsBuilder T e B b bs (w.alloc o) := by
  have key : ∀ p, Lib.BuilderAt T e B b p bs w → Lib.BuilderAt T e B b p bs (w.alloc o) := by
    rintro p ⟨hB, v, hb, hown, hne⟩
    have hlt : b < w.heap.size := (Array.getElem?_eq_some_iff.1 hb).1
    exact ⟨hB, v, (Below.heap_alloc w o b hlt).trans hb, hown.alloc _, hne⟩
  exact h.imp (key _) (key _)
theorem isB_below {T e : TypeId} {B b K : Nat} {bs : List Value} {w w' : World} (h : Lib.IsBuilder T e B b bs w) (hb : Below K w w') (hK : K = w.heap.size) : Lib.IsBuilder T e B b bs w' := by
  subst hK
  have key : ∀ p, Lib.BuilderAt T e B b p bs w → Lib.BuilderAt T e B b p bs w' := by
    rintro p ⟨hB, v, hbk, hown, hne⟩
    have hlt : b < w.heap.size := (Array.getElem?_eq_some_iff.1 hbk).1
    exact ⟨hB, v, (hb.block b hlt).trans hbk, own_below_all hown hb, hne⟩
  exact h.imp (key _) (key _)
theorem isB_new (w : World) (T e : TypeId) : Lib.IsBuilder T e w.heap.size w.heap.size [] (w.alloc (.cells #[.pointer none, .slice none 0 0] T)) :=
  .inl ⟨Nat.le_refl _, .slice none 0 0, Blk.new _ _ _, ownsRow_none _ _ _ _, by simp [Value.ownBlock]⟩
theorem ed_at {w : World} {S : Nat → Prop} {A : Option Addr} {c : Nat} {l : List Ed} (h : Sl rEd w S A c l) {k : Nat} (hk : k < l.length) :
    ∃ ad, A = some ad ∧ S ad.block ∧ I64 (l[k]'hk).1 ∧ w.cell? (ad.add (k * 2)) = some (.int .i64 (l[k]'hk).1) ∧ w.cell? ⟨(ad.add (k * 2)).block, (ad.add (k * 2)).off + 1, none⟩ = some (.string (l[k]'hk).2) := by
  obtain ⟨ad, u, e, hs, ⟨c, d, rfl, ⟨rfl, hi⟩, ⟨rfl, _⟩⟩, h0, h1⟩ := h.fields hk
  exact ⟨ad, e, hs, hi, h0 _ rfl, h1 0 _ rfl⟩
theorem byteCells_str (s : ByteArray) : Lib.strCells s = Lib.byteCells s.data.toList := rfl
theorem txts_nil : txts ⟨#[]⟩ = [] := by unfold txts; rfl
theorem str_isB {B b : Nat} {out : ByteArray} {w : World} (h : Lib.IsBuilder 49 5 B b (Lib.strCells out) w) (hBw : B ≤ w.heap.size) :
    Calls Try.prog 17 #[.pointer (some ⟨b, 0, none⟩)] w fun e w' => e = .returned (.string out) ∧ Below B w w' := by
  have h2 := Try.Builder_String_any B b out.data.toList w (by rw [← byteCells_str]; exact h) hBw
  refine h2.mono ?_
  rintro e w' ⟨rfl, hb⟩
  exact ⟨rfl, hb⟩
theorem nil_toList : (⟨#[]⟩ : ByteArray).toList = [] := by rw [Lib.toList_data]
theorem ne_toList {x : ByteArray} (h : x ≠ none_) : x.toList.isEmpty = false := by
  rw [Lib.toList_data]
  cases hx : x.data.toList with
  | nil => exact absurd (ByteArray.ext (Array.toList_inj.1 hx)) h
  | cons _ _ => rfl
theorem drop_cons {α : Type} {l : List α} {k : Nat} (h : k < l.length) : l.drop k = l[k] :: l.drop (k + 1) := List.drop_eq_getElem_cons h
theorem cells2_box (w : World) (a b : Value) (t : TypeId) : (w.alloc (.cells #[a, b] t)).cell? ⟨w.heap.size, 0, none⟩ = some a ∧ (w.alloc (.cells #[a, b] t)).cell? ⟨w.heap.size, 1, none⟩ = some b := by
  have h := Blk.new w t #[a, b]
  exact ⟨(h.cell 0).trans rfl, (h.cell 1).trans rfl⟩

set_option maxRecDepth 100000 in
set_option maxHeartbeats 16000000 in
theorem do_any (S : Nat → Prop) (A : Option Addr) (ca : Nat) (s : ByteArray) (l : List Ed) (hs : s.size ≤ 4294967296) (w : World) (hl : Sl rEd w S A ca l) (hS : ∀ b, S b → b < w.heap.size) (hlen : l.length ≤ 4294967296) (ht : ∀ e ∈ l, e.2.size ≤ 4294967296) :
    Calls Try.prog 7 #[.string s, .slice A l.length ca] w fun e w' => e = .returned (.tuple #[.string (doA s l).1, .int .i64 (doA s l).2]) ∧ Below w.heap.size w w' := by
  have HDA : Hid (doA s l = if 200 < (txts s).length then (none_, 2) else doI (txts s) l 0 0 none_) := Lib.hid rfl
  obtain ⟨r1, hr1⟩ : ∃ r1, r1 = (doA s l).1 := ⟨_, rfl⟩
  obtain ⟨r2, hr2⟩ : ∃ r2, r2 = (doA s l).2 := ⟨_, rfl⟩
  rw [← hr1, ← hr2]
  have HR1 := Lib.hid hr1
  have HR2 := Lib.hid hr2
  clear hr1 hr2
  have HL := Lib.hid hl
  have HS := Lib.hid hS
  have HT := Lib.hid ht
  have hca := hl.le
  have hcam := hl.max
  unfold maxLen at hcam
  clear hl hS ht
  have HTS := Lib.hid (txts_small s)
  have hmk : ∀ W : World, W = W := fun _ => rfl
  clear hmk
  go_enter Try.func7, Try.ntmps7
  go_wp2_with fail
  refine (units2_any s hs _).mono ?_
  rintro e w1 ⟨v, rfl, hown, hb1⟩
  obtain ⟨Ap, cp, rfl, hsl⟩ := txts_sl hs hown
  clear hown
  have HP := Lib.hid hsl
  have HB1 := Lib.hid hb1
  clear hsl hb1
  generalize txts s = p at *
  by_cases hp : 200 < p.length
  · have hp1 : (decide ((200 : Int) < (p.length : Int))) = true := by simp; omega
    have HDA := Lib.hid (HDA.out.trans (if_pos hp))
    go_wp2_with fail
    refine (long_any _ _ _ _).mono ?_
    rintro e w4 ⟨rfl, rfl⟩
    rw [hp1]
    go_wp2
    go_ret2
    rw [HR1.out, HR2.out, HDA.out]
    exact ⟨rfl, HB1.out⟩
  · have hp1 : (decide ((200 : Int) < (p.length : Int))) = false := by simp; omega
    have HDA := Lib.hid (HDA.out.trans (if_neg hp))
    go_wp2_with fail
    refine (long_any _ _ _ _).mono ?_
    rintro e w2 ⟨rfl, rfl⟩
    rw [hp1]
    clear hp1
    have HI0 := Lib.hid (isB_new w2 49 5)
    have HX0 : Hid (Below w2.heap.size w2 (w2.alloc (.cells #[.pointer none, .slice none 0 0] 49))) := Lib.hid ((Below.refl _ _).alloc (Nat.le_refl _) _)
    have HD0 : Hid (doI p (l.drop 0) 0 0 none_ = doA s l) := Lib.hid (by rw [List.drop_zero]; exact HDA.out.symm)
    clear HDA
    go_wp2
    generalize hBB : w2.heap.size = BB at *
    have HBB := Lib.hid hBB
    clear hBB
    have HB2 : Hid (Below w.heap.size w w2) := HB1
    clear HB1
    generalize World.alloc w2 _ = w3 at *
    go_loopw [8, 9, 20] (fun av nv kv wr => ∃ (k a n : Nat) (out : ByteArray), k ≤ l.length ∧ kv = .int .i64 (k : Int) ∧ av = .int .i64 (a : Int) ∧ nv = .int .i64 (n : Int) ∧ a ≤ p.length ∧ n ≤ k ∧ out.size ≤ 4 * k ∧ Hid (doI p (l.drop k) a n out = doA s l) ∧ Hid (Lib.IsBuilder 49 5 BB BB (Lib.strCells out) wr) ∧ Hid (Below BB w2 wr)) (fun _ _ kv _ => l.length - (intOf kv).toNat)
    case atStart => exact ⟨0, 0, 0, none_, by omega, rfl, rfl, rfl, by omega, by omega, by decide, HD0, HI0, HX0⟩
    case round =>
      obtain ⟨k, a, n, out, hk, rfl, rfl, rfl, ha, hn, ho, HD, HI, HX⟩ := hrel
      clear HD0 HI0 HX0
      have hBw : BB ≤ wr.heap.size := by have := HX.out.size; rw [HBB.out] at this; exact this
      by_cases hlt : k < l.length
      · have HXw : Hid (Below w.heap.size w wr) := Lib.hid (HB2.out.trans (HX.out.mono (by rw [← HBB.out]; exact HB2.out.size)))
        obtain ⟨ad, rfl, _, hi64, c0, c1⟩ := ed_at (HL.out.below HS.out HXw.out) hlt
        have HD := Lib.hid ((congrArg (fun x => doI p x a n out) (drop_cons hlt)).symm.trans HD.out)
        have htx := HT.out _ (List.getElem_mem hlt)
        generalize l[k]'hlt = ed at *
        obtain ⟨kd, tx⟩ := ed
        dsimp only at c0 c1 htx hi64 HD
        have hkl : (k : Int) < (l.length : Int) := by omega
        by_cases hlo : kd < 1
        · have q4 : (kd != 4) = true := by simp; omega
          have q4e : (kd == 4) = false := by simp; omega
          have q2 : (kd == 2) = false := by simp; omega
          go_wp2_with fail
          go_quiet (fail)
          have b0 : (World.drewN (wr.alloc (.cells #[.int .i64 kd, .string tx] 34)) nq).cell? ⟨wr.heap.size, 0, none⟩ = some (.int .i64 kd) := (cells2_box wr _ _ _).1
          have b1 : (World.drewN (wr.alloc (.cells #[.int .i64 kd, .string tx] 34)) nq).cell? ⟨wr.heap.size, 1, none⟩ = some (.string tx) := (cells2_box wr _ _ _).2
          have HX4 : Hid (Below BB w2 (World.drewN (wr.alloc (.cells #[.int .i64 kd, .string tx] 34)) nq)) := Lib.hid (below_drewN (HX.out.alloc hBw _) nq)
          have HI4 : Hid (Lib.IsBuilder 49 5 BB BB (Lib.strCells out) (World.drewN (wr.alloc (.cells #[.int .i64 kd, .string tx] 34)) nq)) := Lib.hid (isB_alloc HI.out _)
          have hz4 : wr.heap.size < (World.drewN (wr.alloc (.cells #[.int .i64 kd, .string tx] 34)) nq).heap.size := by simp
          clear HX HI c0 c1
          generalize World.drewN (wr.alloc _) nq = w4 at *
          generalize wr.heap.size = g at *
          have HX6 := HX4
          have HE : Hid (doA s l = (none_, 1)) := Lib.hid (HD.out.symm.trans (do_bad (by unfold badE; exact Or.inl hlo)))
          clear HD
          go_wp2
          go_ret2
          rw [HR1.out, HR2.out, HE.out]
          exact ⟨rfl, HB2.out.trans (HX6.out.mono (by rw [← HBB.out]; exact HB2.out.size))⟩
        · by_cases hhi : 4 < kd
          · have q4 : (kd != 4) = true := by simp; omega
            have q4e : (kd == 4) = false := by simp; omega
            have q2 : (kd == 2) = false := by simp; omega
            go_wp2_with fail
            go_quiet (fail)
            have b0 : (World.drewN (wr.alloc (.cells #[.int .i64 kd, .string tx] 34)) nq).cell? ⟨wr.heap.size, 0, none⟩ = some (.int .i64 kd) := (cells2_box wr _ _ _).1
            have b1 : (World.drewN (wr.alloc (.cells #[.int .i64 kd, .string tx] 34)) nq).cell? ⟨wr.heap.size, 1, none⟩ = some (.string tx) := (cells2_box wr _ _ _).2
            have HX4 : Hid (Below BB w2 (World.drewN (wr.alloc (.cells #[.int .i64 kd, .string tx] 34)) nq)) := Lib.hid (below_drewN (HX.out.alloc hBw _) nq)
            have HI4 : Hid (Lib.IsBuilder 49 5 BB BB (Lib.strCells out) (World.drewN (wr.alloc (.cells #[.int .i64 kd, .string tx] 34)) nq)) := Lib.hid (isB_alloc HI.out _)
            have hz4 : wr.heap.size < (World.drewN (wr.alloc (.cells #[.int .i64 kd, .string tx] 34)) nq).heap.size := by simp
            clear HX HI c0 c1
            generalize World.drewN (wr.alloc _) nq = w4 at *
            generalize wr.heap.size = g at *
            have HX6 := HX4
            have HE : Hid (doA s l = (none_, 1)) := Lib.hid (HD.out.symm.trans (do_bad (by unfold badE; exact Or.inr (Or.inl hhi))))
            clear HD
            go_wp2
            go_ret2
            rw [HR1.out, HR2.out, HE.out]
            exact ⟨rfl, HB2.out.trans (HX6.out.mono (by rw [← HBB.out]; exact HB2.out.size))⟩
          · obtain rfl | rfl | rfl | rfl : kd = 1 ∨ kd = 2 ∨ kd = 3 ∨ kd = 4 := by omega
            all_goals clear hlo hhi hi64
            · skip
              -- {{K1
              go_wp2_with fail
              go_quiet (fail)
              have b0 : (World.drewN (wr.alloc (.cells #[.int .i64 1, .string tx] 34)) nq).cell? ⟨wr.heap.size, 0, none⟩ = some (.int .i64 1) := (cells2_box wr _ _ _).1
              have b1 : (World.drewN (wr.alloc (.cells #[.int .i64 1, .string tx] 34)) nq).cell? ⟨wr.heap.size, 1, none⟩ = some (.string tx) := (cells2_box wr _ _ _).2
              have HX4 : Hid (Below BB w2 (World.drewN (wr.alloc (.cells #[.int .i64 1, .string tx] 34)) nq)) := Lib.hid (below_drewN (HX.out.alloc hBw _) nq)
              have HI4 : Hid (Lib.IsBuilder 49 5 BB BB (Lib.strCells out) (World.drewN (wr.alloc (.cells #[.int .i64 1, .string tx] 34)) nq)) := Lib.hid (isB_alloc HI.out _)
              have hz4 : wr.heap.size < (World.drewN (wr.alloc (.cells #[.int .i64 1, .string tx] 34)) nq).heap.size := by simp
              clear HX HI c0 c1
              generalize World.drewN (wr.alloc _) nq = w4 at *
              generalize wr.heap.size = g at *
              by_cases htn : tx = none_
              · have HTN := Lib.hid htn
                have o5 : tx.toList = [] := by rw [htn]; exact nil_toList
                clear htn
                go_wp2_with fail
                refine (units2_any tx htx _).mono ?_
                rintro e w6 ⟨v, rfl, hown, hb6⟩
                obtain ⟨Au, cu, rfl, _⟩ := txts_sl htx hown
                replace b0 := (hb6.cell (p := ⟨g, 0, none⟩) hz4).trans b0
                replace b1 := (hb6.cell (p := ⟨g, 1, none⟩) hz4).trans b1
                have HX6 : Hid (Below BB w2 w6) := Lib.hid (HX4.out.trans (hb6.mono (by omega)))
                have HI6 : Hid (Lib.IsBuilder 49 5 BB BB (Lib.strCells out) w6) := Lib.hid (isB_below HI4.out hb6 rfl)
                have hz6 : g < w6.heap.size := by have := hb6.size; omega
                clear hown hb6 HX4 HI4 hz4
                generalize hq : txts tx = q at *
                have HQ := Lib.hid hq
                clear hq
                have hq0 : q.length = 0 := by rw [← HQ.out, HTN.out]; exact congrArg List.length txts_nil
                have o1 : ((q.length : Int) == 1) = false := by simp; omega
                by_cases hal : a = p.length
                · have o2 : ((a : Int) == (p.length : Int)) = true := by simp; omega
                  have o3 : (a == p.length) = true := by simp; omega
                  have HE : Hid (doA s l = (none_, 1)) := Lib.hid (HD.out.symm.trans (do_bad (by unfold badE; exact Or.inr (Or.inr (Or.inr (Or.inr ⟨show (1 : Int) ≠ 4 by decide, hal⟩))))))
                  clear HD
                  go_wp2
                  go_ret2
                  rw [HR1.out, HR2.out, HE.out]
                  exact ⟨rfl, HB2.out.trans (HX6.out.mono (by rw [← HBB.out]; exact HB2.out.size))⟩
                · have o2 : ((a : Int) == (p.length : Int)) = false := by simp; omega
                  have o3 : (a == p.length) = false := by simp; omega
                  have hpe : p[a]? = some (p[a]'(by omega)) := List.getElem?_eq_getElem (by omega)
                  have hpd : p.getD a none_ = p[a]'(by omega) := by rw [List.getD_eq_getElem?_getD, hpe]; rfl
                  have HK := Lib.hid (do_keep (p := p) (e := (1, tx)) (l := l.drop (k + 1)) (a := a) (n := n) (out := out) rfl HTN.out (by omega))
                  have HK2 : Hid (doI p ((1, tx) :: l.drop (k + 1)) a n out = doI p (l.drop (k + 1)) (a + 1) (n + 1) (out ++ p[a]'(by omega))) := Lib.hid (by rw [HK.out, hpd])
                  obtain ⟨ap, rfl, _, _, ca0⟩ := str_at (HP.out.below (fun b h => by rw [HBB.out]; exact h) (by rw [HBB.out]; exact HX6.out)) (k := a) (by omega)
                  have hx4 := HTS.out _ (List.getElem_mem (by omega : a < p.length))
                  clear hpe hpd HK
                  generalize p[a]'(by omega) = sp at *
                  have hwa : IntKind.i64.wrap ((a : Int) + 1) = (a : Int) + 1 := by rw [IntKind.wrap_i64]; omega
                  have hwb : (a : Int) + 1 - 1 = (a : Int) := by omega
                  have hal2 : (a : Int) < (p.length : Int) := by omega
                  go_wp2_with fail
                  refine (writeString_any BB BB _ sp _ HI6.out (by rw [Lib.strCells_length]; omega) (by omega)).mono ?_
                  rintro e w7 ⟨rfl, hB7, hb7, _⟩
                  have HI7 : Hid (Lib.IsBuilder 49 5 BB BB (Lib.strCells (out ++ sp)) w7) := Lib.hid (by rw [strCells_app]; exact hB7)
                  have HX7 : Hid (Below BB w2 w7) := Lib.hid (HX6.out.trans hb7)
                  have HN := Lib.hid ((HK2.out).symm.trans HD.out)
                  have hos : (out ++ sp).size ≤ 4 * (k + 1) := by rw [ByteArray.size_append]; omega
                  clear hB7 hb7 HI6 HX6 HD
                  go_wp2
                  go_roundw
                  case rel => exact ⟨k + 1, a + 1, n + 1, out ++ sp, by omega, by go_num, by go_num, by go_num, by omega, by omega, hos, HN, HI7, HX7⟩
                  case measure => simp [intOf]; omega
              · have o4 := ne_toList htn
                go_wp2_with fail
                refine (units2_any tx htx _).mono ?_
                rintro e w6 ⟨v, rfl, hown, hb6⟩
                obtain ⟨Au, cu, rfl, _⟩ := txts_sl htx hown
                replace b0 := (hb6.cell (p := ⟨g, 0, none⟩) hz4).trans b0
                replace b1 := (hb6.cell (p := ⟨g, 1, none⟩) hz4).trans b1
                have HX6 : Hid (Below BB w2 w6) := Lib.hid (HX4.out.trans (hb6.mono (by omega)))
                have HI6 : Hid (Lib.IsBuilder 49 5 BB BB (Lib.strCells out) w6) := Lib.hid (isB_below HI4.out hb6 rfl)
                have hz6 : g < w6.heap.size := by have := hb6.size; omega
                clear hown hb6 HX4 HI4 hz4
                generalize hq : txts tx = q at *
                have HQ := Lib.hid hq
                clear hq
                by_cases hq1 : q.length = 1
                · have o1 : ((q.length : Int) == 1) = true := by simp; omega
                  have HE : Hid (doA s l = (none_, 1)) := Lib.hid (HD.out.symm.trans (do_bad (by unfold badE; exact Or.inr (Or.inr (Or.inr (Or.inl ⟨Or.inl rfl, htn⟩))))))
                  clear HD
                  go_wp2
                  go_ret2
                  rw [HR1.out, HR2.out, HE.out]
                  exact ⟨rfl, HB2.out.trans (HX6.out.mono (by rw [← HBB.out]; exact HB2.out.size))⟩
                · have o1 : ((q.length : Int) == 1) = false := by simp; omega
                  have HE : Hid (doA s l = (none_, 1)) := Lib.hid (HD.out.symm.trans (do_bad (by unfold badE; exact Or.inr (Or.inr (Or.inr (Or.inl ⟨Or.inl rfl, htn⟩))))))
                  clear HD
                  go_wp2
                  go_ret2
                  rw [HR1.out, HR2.out, HE.out]
                  exact ⟨rfl, HB2.out.trans (HX6.out.mono (by rw [← HBB.out]; exact HB2.out.size))⟩
              -- }}
            · skip
              -- {{K2
              go_wp2_with fail
              go_quiet (fail)
              have b0 : (World.drewN (wr.alloc (.cells #[.int .i64 2, .string tx] 34)) nq).cell? ⟨wr.heap.size, 0, none⟩ = some (.int .i64 2) := (cells2_box wr _ _ _).1
              have b1 : (World.drewN (wr.alloc (.cells #[.int .i64 2, .string tx] 34)) nq).cell? ⟨wr.heap.size, 1, none⟩ = some (.string tx) := (cells2_box wr _ _ _).2
              have HX4 : Hid (Below BB w2 (World.drewN (wr.alloc (.cells #[.int .i64 2, .string tx] 34)) nq)) := Lib.hid (below_drewN (HX.out.alloc hBw _) nq)
              have HI4 : Hid (Lib.IsBuilder 49 5 BB BB (Lib.strCells out) (World.drewN (wr.alloc (.cells #[.int .i64 2, .string tx] 34)) nq)) := Lib.hid (isB_alloc HI.out _)
              have hz4 : wr.heap.size < (World.drewN (wr.alloc (.cells #[.int .i64 2, .string tx] 34)) nq).heap.size := by simp
              clear HX HI c0 c1
              generalize World.drewN (wr.alloc _) nq = w4 at *
              generalize wr.heap.size = g at *
              go_wp2_with fail
              refine (units2_any tx htx _).mono ?_
              rintro e w6 ⟨v, rfl, hown, hb6⟩
              obtain ⟨Au, cu, rfl, _⟩ := txts_sl htx hown
              replace b0 := (hb6.cell (p := ⟨g, 0, none⟩) hz4).trans b0
              replace b1 := (hb6.cell (p := ⟨g, 1, none⟩) hz4).trans b1
              have HX6 : Hid (Below BB w2 w6) := Lib.hid (HX4.out.trans (hb6.mono (by omega)))
              have HI6 : Hid (Lib.IsBuilder 49 5 BB BB (Lib.strCells out) w6) := Lib.hid (isB_below HI4.out hb6 rfl)
              have hz6 : g < w6.heap.size := by have := hb6.size; omega
              clear hown hb6 HX4 HI4 hz4
              generalize hq : txts tx = q at *
              have HQ := Lib.hid hq
              clear hq
              by_cases hq1 : q.length = 1
              · have o1 : ((q.length : Int) == 1) = true := by simp; omega
                by_cases hal : a = p.length
                · have o2 : ((a : Int) == (p.length : Int)) = true := by simp; omega
                  have o3 : (a == p.length) = true := by simp; omega
                  have HE : Hid (doA s l = (none_, 1)) := Lib.hid (HD.out.symm.trans (do_bad (by unfold badE; exact Or.inr (Or.inr (Or.inr (Or.inr ⟨show (2 : Int) ≠ 4 by decide, hal⟩))))))
                  clear HD
                  go_wp2
                  go_ret2
                  rw [HR1.out, HR2.out, HE.out]
                  exact ⟨rfl, HB2.out.trans (HX6.out.mono (by rw [← HBB.out]; exact HB2.out.size))⟩
                · have o2 : ((a : Int) == (p.length : Int)) = false := by simp; omega
                  have o3 : (a == p.length) = false := by simp; omega
                  have h4 : tx.size ≤ 4 := one_small tx (by rw [HQ.out]; exact hq1)
                  go_wp2_with fail
                  refine (writeString_any BB BB _ tx _ HI6.out (by rw [Lib.strCells_length]; omega) (by omega)).mono ?_
                  rintro e w7 ⟨rfl, hB7, hb7, _⟩
                  have HI7 : Hid (Lib.IsBuilder 49 5 BB BB (Lib.strCells (out ++ tx)) w7) := Lib.hid (by rw [strCells_app]; exact hB7)
                  have HX7 : Hid (Below BB w2 w7) := Lib.hid (HX6.out.trans hb7)
                  have HN := Lib.hid ((do_turn rfl (by rw [HQ.out]; exact hq1) (by omega)).symm.trans HD.out)
                  have hos : (out ++ tx).size ≤ 4 * (k + 1) := by rw [ByteArray.size_append]; omega
                  clear hB7 hb7 HI6 HX6 HD
                  go_wp2
                  go_roundw
                  case rel => exact ⟨k + 1, a + 1, n + 1, out ++ tx, by omega, by go_num, by go_num, by go_num, by omega, by omega, hos, HN, HI7, HX7⟩
                  case measure => simp [intOf]; omega
              · have o1 : ((q.length : Int) == 1) = false := by simp; omega
                have HE : Hid (doA s l = (none_, 1)) := Lib.hid (HD.out.symm.trans (do_bad (by unfold badE; exact Or.inr (Or.inr (Or.inl ⟨Or.inl rfl, by rw [HQ.out]; exact hq1⟩)))))
                clear HD
                go_wp2
                go_ret2
                rw [HR1.out, HR2.out, HE.out]
                exact ⟨rfl, HB2.out.trans (HX6.out.mono (by rw [← HBB.out]; exact HB2.out.size))⟩
              -- }}
            · skip
              -- {{K3
              go_wp2_with fail
              go_quiet (fail)
              have b0 : (World.drewN (wr.alloc (.cells #[.int .i64 3, .string tx] 34)) nq).cell? ⟨wr.heap.size, 0, none⟩ = some (.int .i64 3) := (cells2_box wr _ _ _).1
              have b1 : (World.drewN (wr.alloc (.cells #[.int .i64 3, .string tx] 34)) nq).cell? ⟨wr.heap.size, 1, none⟩ = some (.string tx) := (cells2_box wr _ _ _).2
              have HX4 : Hid (Below BB w2 (World.drewN (wr.alloc (.cells #[.int .i64 3, .string tx] 34)) nq)) := Lib.hid (below_drewN (HX.out.alloc hBw _) nq)
              have HI4 : Hid (Lib.IsBuilder 49 5 BB BB (Lib.strCells out) (World.drewN (wr.alloc (.cells #[.int .i64 3, .string tx] 34)) nq)) := Lib.hid (isB_alloc HI.out _)
              have hz4 : wr.heap.size < (World.drewN (wr.alloc (.cells #[.int .i64 3, .string tx] 34)) nq).heap.size := by simp
              clear HX HI c0 c1
              generalize World.drewN (wr.alloc _) nq = w4 at *
              generalize wr.heap.size = g at *
              by_cases htn : tx = none_
              · have HTN := Lib.hid htn
                have o5 : tx.toList = [] := by rw [htn]; exact nil_toList
                clear htn
                go_wp2_with fail
                refine (units2_any tx htx _).mono ?_
                rintro e w6 ⟨v, rfl, hown, hb6⟩
                obtain ⟨Au, cu, rfl, _⟩ := txts_sl htx hown
                replace b0 := (hb6.cell (p := ⟨g, 0, none⟩) hz4).trans b0
                replace b1 := (hb6.cell (p := ⟨g, 1, none⟩) hz4).trans b1
                have HX6 : Hid (Below BB w2 w6) := Lib.hid (HX4.out.trans (hb6.mono (by omega)))
                have HI6 : Hid (Lib.IsBuilder 49 5 BB BB (Lib.strCells out) w6) := Lib.hid (isB_below HI4.out hb6 rfl)
                have hz6 : g < w6.heap.size := by have := hb6.size; omega
                clear hown hb6 HX4 HI4 hz4
                generalize hq : txts tx = q at *
                have HQ := Lib.hid hq
                clear hq
                have hq0 : q.length = 0 := by rw [← HQ.out, HTN.out]; exact congrArg List.length txts_nil
                have o1 : ((q.length : Int) == 1) = false := by simp; omega
                by_cases hal : a = p.length
                · have o2 : ((a : Int) == (p.length : Int)) = true := by simp; omega
                  have o3 : (a == p.length) = true := by simp; omega
                  have HE : Hid (doA s l = (none_, 1)) := Lib.hid (HD.out.symm.trans (do_bad (by unfold badE; exact Or.inr (Or.inr (Or.inr (Or.inr ⟨show (3 : Int) ≠ 4 by decide, hal⟩))))))
                  clear HD
                  go_wp2
                  go_ret2
                  rw [HR1.out, HR2.out, HE.out]
                  exact ⟨rfl, HB2.out.trans (HX6.out.mono (by rw [← HBB.out]; exact HB2.out.size))⟩
                · have o2 : ((a : Int) == (p.length : Int)) = false := by simp; omega
                  have o3 : (a == p.length) = false := by simp; omega
                  have HN := Lib.hid ((do_drop rfl HTN.out (by omega)).symm.trans HD.out)
                  clear HD
                  go_wp2
                  go_roundw
                  case rel => exact ⟨k + 1, a + 1, n, out, by omega, by go_num, by go_num, rfl, by omega, by omega, by omega, HN, HI6, HX6⟩
                  case measure => simp [intOf]; omega
              · have o4 := ne_toList htn
                go_wp2_with fail
                refine (units2_any tx htx _).mono ?_
                rintro e w6 ⟨v, rfl, hown, hb6⟩
                obtain ⟨Au, cu, rfl, _⟩ := txts_sl htx hown
                replace b0 := (hb6.cell (p := ⟨g, 0, none⟩) hz4).trans b0
                replace b1 := (hb6.cell (p := ⟨g, 1, none⟩) hz4).trans b1
                have HX6 : Hid (Below BB w2 w6) := Lib.hid (HX4.out.trans (hb6.mono (by omega)))
                have HI6 : Hid (Lib.IsBuilder 49 5 BB BB (Lib.strCells out) w6) := Lib.hid (isB_below HI4.out hb6 rfl)
                have hz6 : g < w6.heap.size := by have := hb6.size; omega
                clear hown hb6 HX4 HI4 hz4
                generalize hq : txts tx = q at *
                have HQ := Lib.hid hq
                clear hq
                by_cases hq1 : q.length = 1
                · have o1 : ((q.length : Int) == 1) = true := by simp; omega
                  have HE : Hid (doA s l = (none_, 1)) := Lib.hid (HD.out.symm.trans (do_bad (by unfold badE; exact Or.inr (Or.inr (Or.inr (Or.inl ⟨Or.inr rfl, htn⟩))))))
                  clear HD
                  go_wp2
                  go_ret2
                  rw [HR1.out, HR2.out, HE.out]
                  exact ⟨rfl, HB2.out.trans (HX6.out.mono (by rw [← HBB.out]; exact HB2.out.size))⟩
                · have o1 : ((q.length : Int) == 1) = false := by simp; omega
                  have HE : Hid (doA s l = (none_, 1)) := Lib.hid (HD.out.symm.trans (do_bad (by unfold badE; exact Or.inr (Or.inr (Or.inr (Or.inl ⟨Or.inr rfl, htn⟩))))))
                  clear HD
                  go_wp2
                  go_ret2
                  rw [HR1.out, HR2.out, HE.out]
                  exact ⟨rfl, HB2.out.trans (HX6.out.mono (by rw [← HBB.out]; exact HB2.out.size))⟩
              -- }}
            · skip
              -- {{K4
              go_wp2_with fail
              go_quiet (fail)
              have b0 : (World.drewN (wr.alloc (.cells #[.int .i64 4, .string tx] 34)) nq).cell? ⟨wr.heap.size, 0, none⟩ = some (.int .i64 4) := (cells2_box wr _ _ _).1
              have b1 : (World.drewN (wr.alloc (.cells #[.int .i64 4, .string tx] 34)) nq).cell? ⟨wr.heap.size, 1, none⟩ = some (.string tx) := (cells2_box wr _ _ _).2
              have HX4 : Hid (Below BB w2 (World.drewN (wr.alloc (.cells #[.int .i64 4, .string tx] 34)) nq)) := Lib.hid (below_drewN (HX.out.alloc hBw _) nq)
              have HI4 : Hid (Lib.IsBuilder 49 5 BB BB (Lib.strCells out) (World.drewN (wr.alloc (.cells #[.int .i64 4, .string tx] 34)) nq)) := Lib.hid (isB_alloc HI.out _)
              have hz4 : wr.heap.size < (World.drewN (wr.alloc (.cells #[.int .i64 4, .string tx] 34)) nq).heap.size := by simp
              clear HX HI c0 c1
              generalize World.drewN (wr.alloc _) nq = w4 at *
              generalize wr.heap.size = g at *
              go_wp2_with fail
              refine (units2_any tx htx _).mono ?_
              rintro e w6 ⟨v, rfl, hown, hb6⟩
              obtain ⟨Au, cu, rfl, _⟩ := txts_sl htx hown
              replace b0 := (hb6.cell (p := ⟨g, 0, none⟩) hz4).trans b0
              replace b1 := (hb6.cell (p := ⟨g, 1, none⟩) hz4).trans b1
              have HX6 : Hid (Below BB w2 w6) := Lib.hid (HX4.out.trans (hb6.mono (by omega)))
              have HI6 : Hid (Lib.IsBuilder 49 5 BB BB (Lib.strCells out) w6) := Lib.hid (isB_below HI4.out hb6 rfl)
              have hz6 : g < w6.heap.size := by have := hb6.size; omega
              clear hown hb6 HX4 HI4 hz4
              generalize hq : txts tx = q at *
              have HQ := Lib.hid hq
              clear hq
              by_cases hq1 : q.length = 1
              · have o1 : ((q.length : Int) == 1) = true := by simp; omega
                have h4 : tx.size ≤ 4 := one_small tx (by rw [HQ.out]; exact hq1)
                go_wp2_with fail
                refine (writeString_any BB BB _ tx _ HI6.out (by rw [Lib.strCells_length]; omega) (by omega)).mono ?_
                rintro e w7 ⟨rfl, hB7, hb7, _⟩
                have HI7 : Hid (Lib.IsBuilder 49 5 BB BB (Lib.strCells (out ++ tx)) w7) := Lib.hid (by rw [strCells_app]; exact hB7)
                have HX7 : Hid (Below BB w2 w7) := Lib.hid (HX6.out.trans hb7)
                have HN := Lib.hid ((do_put rfl (by rw [HQ.out]; exact hq1)).symm.trans HD.out)
                have hos : (out ++ tx).size ≤ 4 * (k + 1) := by rw [ByteArray.size_append]; omega
                clear hB7 hb7 HI6 HX6 HD
                go_wp2
                go_roundw
                case rel => exact ⟨k + 1, a, n + 1, out ++ tx, by omega, by go_num, by go_num, by go_num, by omega, by omega, hos, HN, HI7, HX7⟩
                case measure => simp [intOf]; omega
              · have o1 : ((q.length : Int) == 1) = false := by simp; omega
                have HE : Hid (doA s l = (none_, 1)) := Lib.hid (HD.out.symm.trans (do_bad (by unfold badE; exact Or.inr (Or.inr (Or.inl ⟨Or.inr rfl, by rw [HQ.out]; exact hq1⟩)))))
                clear HD
                go_wp2
                go_ret2
                rw [HR1.out, HR2.out, HE.out]
                exact ⟨rfl, HB2.out.trans (HX6.out.mono (by rw [← HBB.out]; exact HB2.out.size))⟩
              -- }}
      · have hkk : k = l.length := by omega
        subst hkk
        have HDN : Hid (doI p [] a n out = doA s l) := Lib.hid (by have h := HD.out; rwa [List.drop_length] at h)
        clear HD
        by_cases h1 : a < p.length
        · have hI : (a : Int) < (p.length : Int) := by omega
          have HE : Hid (doA s l = (none_, 1)) := Lib.hid (by rw [← HDN.out, doI, if_pos h1])
          clear HDN
          go_wp2
          go_ret2
          rw [HR1.out, HR2.out, HE.out]
          exact ⟨rfl, HB2.out.trans (HX.out.mono (by rw [← HBB.out]; exact HB2.out.size))⟩
        · have hI : ¬ (a : Int) < (p.length : Int) := by omega
          by_cases h2 : 200 < n
          · have hI2 : (200 : Int) < (n : Int) := by omega
            have HE : Hid (doA s l = (none_, 2)) := Lib.hid (by rw [← HDN.out, doI, if_neg h1, if_pos h2])
            clear HDN
            go_wp2
            go_ret2
            rw [HR1.out, HR2.out, HE.out]
            exact ⟨rfl, HB2.out.trans (HX.out.mono (by rw [← HBB.out]; exact HB2.out.size))⟩
          · have hI2 : ¬ (200 : Int) < (n : Int) := by omega
            have HE : Hid (doA s l = (out, 0)) := Lib.hid (by rw [← HDN.out, doI, if_neg h1, if_neg h2])
            clear HDN
            go_wp2_with fail
            refine (str_isB HI.out hBw).mono ?_
            rintro e w9 ⟨rfl, hb9⟩
            have HY := Lib.hid hb9
            clear hb9
            go_wp2
            go_ret2
            rw [HR1.out, HR2.out, HE.out]
            exact ⟨rfl, HB2.out.trans ((HX.out.trans HY.out).mono (by rw [← HBB.out]; exact HB2.out.size))⟩
end Go.Proofs.Ytdepkpnicfcbiaa
