/- Walks: New, NewTalker. -/
import Derived.Test.YtmghigmegiainaaTkC
namespace Go.Proofs.Ytmghigmegiainaa
open Go.RowKit

theorem infoPE : (Try.prog.info? 56).map (fun i => (i.zero, i.size, i.bytes)) = some (some (.agg #[.int .i64 0, .int .i64 0, .int .i64 0, .string ⟨#[]⟩, .bool false, .bool false, .bool false]), 7, 56) := by kernel_rfl
theorem infoRE : (Try.prog.info? 61).map (fun i => (i.zero, i.size, i.bytes)) = some (some (.agg #[.int .i64 0, .int .i64 0, .int .i64 0, .string ⟨#[]⟩, .bool false, .bool false, .bool false]), 7, 56) := by kernel_rfl
theorem infoTO : (Try.prog.info? 44).map (fun i => (i.zero, i.size, i.bytes)) = some (some (.agg #[.int .i64 0, .int .i64 0, .int .i64 0, .string ⟨#[]⟩, .bool false]), 5, 48) := by kernel_rfl

def part (n k : Nat) : List Ent := (List.range n).map fun (i : Nat) => ent0 (if i < k then (i : Int) else 0)
theorem part_len (n k : Nat) : (part n k).length = n := by simp [part]
theorem part_get {n k i : Nat} (hi : i < n) : (part n k)[i]? = some (ent0 (if i < k then (i : Int) else 0)) := by simp [part, hi]
theorem part_end (n : Nat) : part n n = newS n := by
  refine List.map_congr_left fun i hi => ?_
  simp at hi; simp [hi]
theorem part_next {n k : Nat} (hk : k < n) : (part n k).set k (ent0 (k : Int)) = part n (k + 1) := by
  refine List.ext_getElem? fun i => ?_
  by_cases hi : i < n
  · by_cases hki : k = i
    · subst hki; rw [List.getElem?_set_self (by rw [part_len]; exact hk), part_get hk, if_pos (by omega)]
    · rw [List.getElem?_set_ne hki, part_get hi, part_get hi]
      by_cases h : i < k
      · rw [if_pos h, if_pos (by omega)]
      · rw [if_neg h, if_neg (by omega)]
  · rw [List.getElem?_eq_none (by simp [part_len]; omega), List.getElem?_eq_none (by simp [part_len]; omega)]
theorem ent0_fits {n : Nat} (h : n ≤ 1000) (x : Int) (hx : x = 0 ∨ x = n) : (ent0 x).t.fits := by
  refine ⟨i64_of ?_ ?_, i64_of ?_ ?_, i64_of ?_ ?_, Nat.zero_le _⟩ <;> simp [ent0, told0]
  all_goals rcases hx with rfl | rfl <;> omega
theorem made_slots (w : World) (et n : Nat) (hn : n ≤ 1000) : Slots (w.alloc (.cells (madeCells #[.int .i64 0, .int .i64 0, .int .i64 0, .string ⟨#[]⟩, .bool false, .bool false, .bool false] (n * 7)) et)) et w.heap.size n (part n 0) := by
  refine ⟨_, Blk.new _ _ _, size_madeCells _ _, by rw [part_len]; exact Nat.le_refl _, by unfold maxLen; omega, fun i e he => ?_⟩
  have hi : i < n := by have := (List.getElem?_eq_some_iff.1 he).1; rwa [part_len] at this
  rw [part_get hi, if_neg (by omega)] at he
  injection he with he
  subst he
  refine ⟨ent0_fits hn 0 (.inl rfl), fun j z hz => ?_⟩
  have hj := Ent.seven hz
  have hm : (i * 7 + j) % 7 = j := by omega
  have hlt : i * 7 + j < n * 7 := by omega
  simp only [madeCells, Array.getElem?_map, Array.getElem?_range, hlt, if_true, Option.map_some]
  match j, hj with
  | 0, _ | 1, _ | 2, _ | 3, _ | 4, _ | 5, _ | 6, _ => simp [ent0, told0, Ent.cells] at hz ⊢; subst hz; simp [hm]

set_option maxHeartbeats 2000000 in
theorem new_any (who slots : Int) (w : World) (hw : I64 who) (hi : I64 slots) :
    Calls Try.prog 6 #[.int .i64 who, .int .i64 slots] w fun e w' =>
      ((newE who slots ≠ 0 ∧ e = .returned (.tuple #[.pointer none, .int .i64 (newE who slots)])) ∨ (newE who slots = 0 ∧ ∃ g gs c, e = .returned (.tuple #[.pointer (some ⟨g, 0, none⟩), .int .i64 0]) ∧ w.heap.size ≤ g ∧ w.heap.size ≤ gs ∧ Tk w' 54 56 g gs c who (newS slots.toNat))) ∧ Below w.heap.size w w' := by
  have HE : Hid (newE who slots = if who < 1 ∨ 9 < who then 3 else if slots < 1 ∨ 20 < slots then 7 else 0) := Lib.hid rfl
  generalize newE who slots = er at *
  obtain ⟨i0, hinf, hz0, hz1, hz2⟩ := info_parts infoPE
  go_enter Try.func6, Try.ntmps6
  by_cases h1 : who < 1
  · have HE1 : Hid (er = 3) := Lib.hid (by rw [HE.out]; simp [h1])
    go_wp2
    go_ret2
    exact ⟨.inl ⟨by rw [HE1.out]; decide, by rw [HE1.out]; rfl⟩, Below.refl _ _⟩
  · by_cases h2 : 9 < who
    · have HE1 : Hid (er = 3) := Lib.hid (by rw [HE.out]; simp [h2])
      go_wp2
      go_ret2
      exact ⟨.inl ⟨by rw [HE1.out]; decide, by rw [HE1.out]; rfl⟩, Below.refl _ _⟩
    · by_cases h3 : slots < 1
      · have HE1 : Hid (er = 7) := Lib.hid (by rw [HE.out]; simp [h1, h2, h3])
        go_wp2
        go_ret2
        exact ⟨.inl ⟨by rw [HE1.out]; decide, by rw [HE1.out]; rfl⟩, Below.refl _ _⟩
      · by_cases h4 : 20 < slots
        · have HE1 : Hid (er = 7) := Lib.hid (by rw [HE.out]; simp [h1, h2, h4])
          go_wp2
          go_ret2
          exact ⟨.inl ⟨by rw [HE1.out]; decide, by rw [HE1.out]; rfl⟩, Below.refl _ _⟩
        · have HE1 : Hid (er = 0) := Lib.hid (by rw [HE.out]; simp [h1, h2, h3, h4])
          obtain ⟨n, rfl⟩ : ∃ n : Nat, slots = n := ⟨slots.toNat, by omega⟩
          have hmk := run_make_rowN (P := Try.prog) 52 56 i0 _ Try.underlying52 hinf hz0 .i64 .i64 n n (Nat.le_refl _) (by rw [hz2]; omega) (by omega)
          rw [hz1] at hmk
          have HM := Lib.hid (((made_slots w 56 n (by omega)).below ((Below.refl _ _).alloc (Nat.le_refl _) (.cells #[.int .i64 who, .slice (some ⟨w.heap.size, 0, none⟩) n n] 54))))
          have HG := Lib.hid (Blk.new (w.alloc (.cells (madeCells #[.int .i64 0, .int .i64 0, .int .i64 0, .string ⟨#[]⟩, .bool false, .bool false, .bool false] (n * 7)) 56)) 54 #[.int .i64 who, .slice (some ⟨w.heap.size, 0, none⟩) n n])
          have HX := Lib.hid (((Below.refl w.heap.size w).alloc (Nat.le_refl _) (.cells (madeCells #[.int .i64 0, .int .i64 0, .int .i64 0, .string ⟨#[]⟩, .bool false, .bool false, .bool false] (n * 7)) 56)).alloc (by simp) (.cells #[.int .i64 who, .slice (some ⟨w.heap.size, 0, none⟩) n n] 54))
          rw [World.size_alloc] at HG
          go_wp2
          go_loopw [30] (fun i wr => ∃ k : Nat, k ≤ n ∧ i = .int .i64 (k : Int) ∧ Hid (Below w.heap.size w wr) ∧ Hid (Slots wr 56 w.heap.size n (part n k)) ∧ Hid (Blk wr (w.heap.size + 1) 54 #[.int .i64 who, .slice (some ⟨w.heap.size, 0, none⟩) n n])) (fun i _ => n - (intOf i).toNat)
          case atStart => exact ⟨0, by omega, rfl, HX, HM, HG⟩
          case round =>
            obtain ⟨k, hk, rfl, HXR, HR, HB⟩ := hrel
            obtain ⟨c0, c1⟩ := blk2 HB.out
            by_cases hlt : k < n
            · obtain ⟨d0, _⟩ := HR.out.seven _ (i := k) (by rw [part_len]; exact hlt)
              have f0 := HR.out.frozen (k * 7)
              have HR2 := Lib.hid (HR.out.set1 (j := 0) (v := .int .i64 (k : Int)) (e' := ent0 (k : Int)) (by rw [part_len]; exact hlt) (by omega) (ent0_fits (n := k) (by omega) _ (.inr rfl)) (by
                have := part_get (k := k) hlt
                rw [List.getElem?_eq_getElem (by rw [part_len]; exact hlt)] at this
                injection this with this
                rw [this]; rfl))
              rw [part_next hlt] at HR2
              have HX2 := Lib.hid (HXR.out.setCell (p := ⟨w.heap.size, k * 7, none⟩) (Nat.le_refl _) (.int .i64 (k : Int)))
              have HB2 := Lib.hid (HB.out.far (p := ⟨w.heap.size, k * 7, none⟩) (by simp) (.int .i64 (k : Int)))
              go_wp2
              go_roundw
              case rel => exact ⟨k + 1, by omega, by go_num, HX2, HR2, HB2⟩
              case measure => simp [intOf]; omega
            · have hkn : k = n := by omega
              subst hkn
              rw [part_end] at HR
              go_wp2
              go_ret2
              refine ⟨.inr ⟨HE1.out, w.heap.size + 1, w.heap.size, k, rfl, by omega, Nat.le_refl _, ?_, HR.out, by omega⟩, HXR.out⟩
              rw [Int.toNat_natCast]
              have : (newS k).length = k := by simp [newS]
              rw [this]; exact HB.out

def flat (es : List Ent) : List Value := es.flatMap Ent.cells
theorem flat_len (es : List Ent) : (flat es).length = es.length * 7 := by
  induction es with
  | nil => rfl
  | cons e r ih => simp only [flat, List.flatMap_cons, List.length_append, List.length_cons] at ih ⊢; rw [ih]; simp [Ent.cells]; omega
theorem flat_snoc (es : List Ent) (e : Ent) : flat (es ++ [e]) = flat es ++ e.cells := by simp [flat]
theorem flat_get {es : List Ent} : ∀ {i : Nat} {e : Ent}, es[i]? = some e → ∀ {j : Nat} {z : Value}, e.cells[j]? = some z → (flat es)[i * 7 + j]? = some z := by
  induction es with
  | nil => intro i e h; simp at h
  | cons a r ih =>
    intro i e h j z hz
    have h7 : a.cells.length = 7 := rfl
    show (a.cells ++ flat r)[i * 7 + j]? = some z
    cases i with
    | zero =>
      simp at h; subst h
      rw [List.getElem?_append_left (by have := Ent.seven hz; omega), Nat.zero_mul, Nat.zero_add]; exact hz
    | succ i =>
      rw [List.getElem?_append_right (by omega), show (i + 1) * 7 + j - a.cells.length = i * 7 + j from by omega]
      exact ih (by simpa using h) hz
theorem own_blk {w : World} {B e s n : Nat} {v : Value} {xs : List Value} (h : w.ownsRow B e s v n xs) (hn : 0 < n) : ∃ g c cur, v = .slice (some ⟨g, 0, none⟩) n c ∧ B ≤ g ∧ Blk w g e cur ∧ n ≤ c ∧ c ≤ maxLen ∧ cur.size = c * s ∧ cur.toList.take (n * s) = xs := by
  rcases h.2 with ⟨_, h0⟩ | ⟨g, cap, cur, hv, hB, hh, hn, hc, hs, ht⟩
  · omega
  · exact ⟨g, cap, cur, hv, hB, hh, hn, hc, hs, ht⟩
theorem own_slots {w : World} {B et : Nat} {v : Value} {es : List Ent} (h : w.ownsRow B et 7 v es.length (flat es)) (hn : 0 < es.length) (hf : ∀ e ∈ es, e.t.fits) : ∃ gs c, v = .slice (some ⟨gs, 0, none⟩) es.length c ∧ B ≤ gs ∧ Slots w et gs c es := by
  obtain ⟨g, c, cur, hv, hB, hb, hle, hm, hs, ht⟩ := own_blk h hn
  refine ⟨g, c, hv, hB, cur, hb, hs, hle, hm, fun i e he => ⟨hf e (List.mem_of_getElem? he), fun j z hz => ?_⟩⟩
  have := flat_get he hz
  rw [← ht, List.getElem?_take] at this
  split at this
  · rw [← this, Array.getElem?_toList]
  · cases this
theorem newS_len (n : Nat) : (newS n).length = n := by simp [newS]
theorem newS_succ (n : Nat) : newS (n + 1) = newS n ++ [ent0 (n : Int)] := by simp [newS, List.range_succ]
theorem newS_fits {n : Nat} (h : n ≤ 1000) : ∀ e ∈ newS n, e.t.fits := by
  intro e he
  simp [newS] at he
  obtain ⟨i, hi, rfl⟩ := he
  exact ent0_fits (n := i) (by omega) _ (.inr rfl)
theorem one_ent (e : Ent) : ∀ u ∈ e.cells, u.oneCell' = true := by
  intro u hu; simp [Ent.cells] at hu; rcases hu with rfl | rfl | rfl | rfl | rfl | rfl | rfl <;> rfl

set_option maxHeartbeats 2000000 in
theorem rNew_any (who slots : Int) (w : World) (hw : I64 who) (hi : I64 slots) :
    Calls Try.prog 7 #[.int .i64 who, .int .i64 slots] w fun e w' =>
      ((newE who slots ≠ 0 ∧ e = .returned (.tuple #[.pointer none, .int .i64 (newE who slots)])) ∨ (newE who slots = 0 ∧ ∃ g gs c, e = .returned (.tuple #[.pointer (some ⟨g, 0, none⟩), .int .i64 0]) ∧ w.heap.size ≤ g ∧ w.heap.size ≤ gs ∧ Tk w' 59 61 g gs c who (newS slots.toNat))) ∧ Below w.heap.size w w' := by
  have HE : Hid (newE who slots = if who < 1 ∨ 9 < who then 3 else if slots < 1 ∨ 20 < slots then 7 else 0) := Lib.hid rfl
  generalize newE who slots = er at *
  obtain ⟨i0, hinf, hz0, hz1, hz2⟩ := info_parts infoRE
  go_enter Try.func7, Try.ntmps7
  by_cases h1 : who < 1
  · have HE1 : Hid (er = 3) := Lib.hid (by rw [HE.out]; simp [h1])
    go_wp2
    go_ret2
    exact ⟨.inl ⟨by rw [HE1.out]; decide, by rw [HE1.out]; rfl⟩, Below.refl _ _⟩
  · by_cases h2 : 9 < who
    · have HE1 : Hid (er = 3) := Lib.hid (by rw [HE.out]; simp [h2])
      go_wp2
      go_ret2
      exact ⟨.inl ⟨by rw [HE1.out]; decide, by rw [HE1.out]; rfl⟩, Below.refl _ _⟩
    · by_cases h3 : slots < 1
      · have HE1 : Hid (er = 7) := Lib.hid (by rw [HE.out]; simp [h1, h2, h3])
        go_wp2
        go_ret2
        exact ⟨.inl ⟨by rw [HE1.out]; decide, by rw [HE1.out]; rfl⟩, Below.refl _ _⟩
      · by_cases h4 : 20 < slots
        · have HE1 : Hid (er = 7) := Lib.hid (by rw [HE.out]; simp [h1, h2, h4])
          go_wp2
          go_ret2
          exact ⟨.inl ⟨by rw [HE1.out]; decide, by rw [HE1.out]; rfl⟩, Below.refl _ _⟩
        · have HE1 : Hid (er = 0) := Lib.hid (by rw [HE.out]; simp [h1, h2, h3, h4])
          obtain ⟨n, rfl⟩ : ∃ n : Nat, slots = n := ⟨slots.toNat, by omega⟩
          have HG := Lib.hid (Blk.new w 59 #[.int .i64 who, .slice none 0 0])
          have HX := Lib.hid ((Below.refl w.heap.size w).alloc (Nat.le_refl _) (.cells #[.int .i64 who, .slice none 0 0] 59))
          have HSZ : Hid ((w.alloc (.cells #[.int .i64 who, .slice none 0 0] 59)).heap.size = w.heap.size + 1) := Lib.hid (by simp)
          go_wp2
          go_loopw [7] (fun i wr => ∃ k : Nat, k ≤ n ∧ i = .int .i64 (k : Int) ∧ Hid (Below w.heap.size w wr) ∧ Hid (∃ v, Blk wr w.heap.size 59 #[.int .i64 who, v] ∧ wr.ownsRow (w.heap.size + 1) 61 7 v (newS k).length (flat (newS k)))) (fun i _ => n - (intOf i).toNat)
          case atStart => exact ⟨0, by omega, rfl, HX, Lib.hid ⟨_, HG.out, ownsRow_none _ _ _ _⟩⟩
          case round =>
            obtain ⟨k, hk, rfl, HXR, HR⟩ := hrel
            obtain ⟨v, hb, ho⟩ := HR.out
            obtain ⟨c0, c1⟩ := blk2 hb
            by_cases hlt : k < n
            · have hob := own_lt ho
              have hge := own_ge ho
              have hlk := newS_len k
              have ho2 := ho.alloc (.cells (ent0 (k : Int)).cells.toArray 61)
              have hb2 := hb.alloc (.cells (ent0 (k : Int)).cells.toArray 61)
              simp only [Ent.cells, ent0, told0] at ho2 hb2
              have HB2 := Lib.hid hb2
              have HX2 := Lib.hid (HXR.out.alloc HXR.out.size (.cells (ent0 (k : Int)).cells.toArray 61))
              have hwz := HXR.out.size
              have hbl := hb.lt
              clear hb hb2
              go_wp2_with (first
                | (refine step_append_any _ (by rfl) _ _ 57 (by rfl) (w.heap.size + 1) 61 i0 _ 7 56 Try.underlying57 hinf hz0 hz1 hz2 rfl (by omega) v _ _ (by rfl) (by exact ho2) (wr.heap.size + 1) (some ⟨wr.heap.size, 0, none⟩) 1 1 (ent0 (k : Int)).cells (by rfl) ⟨rfl, fun _ => ⟨_, rfl, by simp, cells_new _ (ent0 (k : Int)).cells _⟩⟩ (one_ent _) (by unfold maxLen; omega) (by omega) (by rw [World.size_alloc]; omega) ?_; intro v5 w5 hown5 hg5 hat5; obtain ⟨A5, c5, rfl⟩ := own_slice hown5; have HB5 := Lib.hid (HB2.out.grown hg5 (by intro e; have := hge _ e.symm; omega)); obtain ⟨e0, e1⟩ := blk2 HB5.out; have f1 := HB5.out.frozen 1)
                | (at_builtin; refine wpList_append_any _ rfl _ _ 57 rfl (w.heap.size + 1) 61 i0 _ 7 56 Try.underlying57 hinf hz0 hz1 hz2 rfl (by omega) v _ _ rfl ho2 (wr.heap.size + 1) (some ⟨wr.heap.size, 0, none⟩) 1 1 (ent0 (k : Int)).cells rfl ⟨rfl, fun _ => ⟨_, rfl, by simp, cells_new _ (ent0 (k : Int)).cells _⟩⟩ (one_ent _) (by unfold maxLen; omega) (by omega) (by rw [World.size_alloc]; omega) ?_; intro v5 w5 hown5 hg5 hat5; obtain ⟨A5, c5, rfl⟩ := own_slice hown5; have HB5 := Lib.hid (HB2.out.grown hg5 (by intro e; have := hge _ e.symm; omega)); obtain ⟨e0, e1⟩ := blk2 HB5.out; have f1 := HB5.out.frozen 1))
              rw [hlk] at hown5
              have HX5 := Lib.hid ((HX2.out.grown hg5 (by rw [World.size_alloc]; omega) (by intro g hg; have := hge _ hg; omega)).setCell (p := ⟨w.heap.size, 1, none⟩) (Nat.le_refl _) (.slice A5 (k + 1) c5))
              have HB6 : Hid (Blk (w5.setCell ⟨w.heap.size, 1, none⟩ (.slice A5 (k + 1) c5)) w.heap.size 59 #[.int .i64 who, .slice A5 (k + 1) c5]) := Lib.hid (by have := HB5.out.set_ 1 (.slice A5 (k + 1) c5); simpa using this)
              have ho6 := ownsRow_setCell_below hown5 (a := ⟨w.heap.size, 1, none⟩) (by simp) (.slice A5 (k + 1) c5)
              rw [← flat_snoc, ← newS_succ] at ho6
              go_roundw
              case rel => exact ⟨k + 1, by omega, by go_num, HX5, Lib.hid ⟨_, HB6.out, by rw [newS_len]; exact ho6⟩⟩
              case measure => simp [intOf]; omega
            · have hkn : k = n := by omega
              subst hkn
              obtain ⟨gs, c, rfl, hB, hs⟩ := own_slots ho (by rw [newS_len]; omega) (newS_fits (by omega))
              go_wp2
              go_ret2
              refine ⟨.inr ⟨HE1.out, w.heap.size, gs, c, rfl, by omega, by omega, ?_, ?_, by omega⟩, HXR.out⟩
              · rw [Int.toNat_natCast]; exact hb
              · rw [Int.toNat_natCast]; exact hs
end Go.Proofs.Ytmghigmegiainaa
