/- The walk of letters.Pieces. -/
import Derived.Test.YtebmdabdckebhaaA6
import Derived.Test.YtebmdabdckebhaaP3
namespace Go.Proofs.Ytebmdabdckebhaa
open Go.RowKit

theorem piece_info : (Try.prog.info? 35).map (fun i => (i.zero, i.size, i.bytes)) = some (some (.agg #[.int .i64 0, .int .i64 0, .int .i64 0]), 3, 24) := by kernel_rfl

def PRel (l : List Tri) (A : Option Addr) (c : Nat) (w wr : World) (v : Value) (k : Nat) : Prop :=
  wr.ownsRow w.heap.size 35 3 v (piecesTo l k).length (unitCells (piecesTo l k)) ∧ wr.ownsRow w.heap.size 26 3 (.slice A l.length c) l.length (unitCells l) ∧ Below w.heap.size w wr

theorem cells_new2 (w : World) (xs : List Value) (t : TypeId) {b : Nat} (hb : b = w.heap.size) : ∀ (j : Nat) (u : Value), xs[j]? = some u → (w.alloc (.cells xs.toArray t)).cell? (Addr.add ⟨b, 0, none⟩ j) = some u := by
  subst hb; exact cells_new w xs t
/-- a new piece -/
theorem pieces_new {l : List Tri} {A : Option Addr} {c k : Nat} {w wr w4 : World} {v v' : Value} {P : List Tri} {u : Tri} {o1 o2 : Obj} (hS : piecesTo l (k + 1) = pieceStep P u) (hN : pieceStep P u = P ++ [pieceOf u])
    (hP : (wr.alloc o1).ownsRow w.heap.size 35 3 v P.length (unitCells P)) (hO : (wr.alloc o1).ownsRow w.heap.size 26 3 (.slice A l.length c) l.length (unitCells l)) (hX : Below w.heap.size w wr)
    (h4 : w4.ownsRow w.heap.size 35 3 v' (P.length + 1) (unitCells P ++ [.int .i64 (kindS u.2.2), .int .i64 u.1, .int .i64 u.2.1])) (hg : ((wr.alloc o1).alloc o2).grownBy w4 v.ownBlock) : PRel l A c w w4 v' (k + 1) := by
  have hsz := hX.size
  refine ⟨?_, ?_, ?_⟩
  · rw [hS, hN, unitCells_append, List.length_append]; exact h4
  · refine (hO.alloc o2).kept hg ?_
    rcases hP.2 with ⟨rfl, _⟩ | ⟨g1, cap, cur, rfl, _, hh, _⟩
    · rcases hO.2 with ⟨hv, _⟩ | ⟨g2, cap2, cur2, hv, _⟩ <;> simp only [hv, Value.ownBlock] <;> simp
    · rcases hO.2 with ⟨hv, _⟩ | ⟨g2, cap2, cur2, hv, _, hh2, _⟩
      · left; rw [hv]; rfl
      · right; rw [hv]; simp only [Value.ownBlock, ne_eq, Option.some.injEq]
        rintro rfl; rw [hh] at hh2; simp only [Option.some.injEq, Obj.cells.injEq] at hh2; exact absurd hh2.2.1 (by decide)
  · exact ((hX.alloc hsz o1).alloc (by simp; omega) o2).grown hg (by simp; omega) (own_ge hP)

/-- the last piece grows -/
theorem pieces_store {l : List Tri} {c k g g2 n c2 : Nat} {w wr : World} {o : List Tri} {p0 p1 p2 x : Int} {u : Tri} (hS : piecesTo l (k + 1) = pieceStep (o ++ [(p0, p1, p2)]) u) (hN : pieceStep (o ++ [(p0, p1, p2)]) u = o ++ [(p0, p1, x)])
    (hP : wr.ownsRow w.heap.size 35 3 (.slice (some ⟨g2, 0, none⟩) n c2) n (unitCells (o ++ [(p0, p1, p2)]))) (hO : wr.ownsRow w.heap.size 26 3 (.slice (some ⟨g, 0, none⟩) l.length c) l.length (unitCells l))
    (hne : g2 ≠ g) (hX : Below w.heap.size w wr) (ob : Obj) : PRel l (some ⟨g, 0, none⟩) c w ((wr.setCell ⟨g2, o.length * 3 + 2, none⟩ (.int .i64 x)).alloc ob).drew (.slice (some ⟨g2, 0, none⟩) n c2) (k + 1) := by
  obtain ⟨s1, s2⟩ := World.ownsRow.stored hP (o.length * 3 + 2) (.int .i64 x)
  rw [unitCells_set] at s1
  have hn : n = (o ++ [(p0, p1, x)]).length := by
    have := s1.1
    rw [unitCells_len] at this; omega
  have hb := hX.setCell (p := ⟨g2, o.length * 3 + 2, none⟩) (own_ge hP _ rfl) (.int .i64 x)
  refine ⟨?_, ?_, (hb.alloc hb.size _).drew⟩
  · rw [hS, hN, ← hn]; exact s1.alloc _
  · exact (hO.kept s2 (.inr (by simp only [Value.ownBlock, ne_eq, Option.some.injEq]; exact fun e => hne e.symm))).alloc _

set_option maxRecDepth 100000 in
set_option maxHeartbeats 2000000 in
theorem pieces_any (s : ByteArray) (hs : s.size ≤ 4294967296) (w : World) :
    Calls Try.prog 12 #[.string s] w fun e w' => ∃ v, e = .returned v ∧
      w'.ownsRow w.heap.size 35 3 v (piecesTo (unitsFrom s s.size 0) (unitsFrom s s.size 0).length).length (unitCells (piecesTo (unitsFrom s s.size 0) (unitsFrom s s.size 0).length)) ∧ Below w.heap.size w w' := by
  obtain ⟨i0, hi, hz0, hz1, hz2⟩ := info_parts piece_info
  have hll := units_len s s.size 0
  have hm := unit_mem s s.size 0
  have hcg := Lib.hid (units_contig s s.size 0 (by omega) (by omega))
  go_enter Try.func12, Try.ntmps12
  go_wp2_with fail
  refine (units_any s hs _).mono ?_
  rintro e w2 ⟨v, rfl, hown, hb2⟩
  generalize hl : unitsFrom s s.size 0 = l at *
  have HLE := Lib.hid hl
  clear hl
  obtain ⟨A, c, rfl⟩ := own_slice hown
  have HM := Lib.hid hm
  have hrel0 : PRel l A c w w2 (.slice none 0 0) 0 := ⟨ownsRow_none _ _ _ _, hown, hb2⟩
  clear hown hb2 hm
  go_wp2
  go_loopw [3, 11] (fun v i wr => ∃ k : Nat, k ≤ l.length ∧ i = .int .i64 (k : Int) ∧ PRel l A c w wr v k) (fun _ i _ => l.length - (intOf i).toNat)
  case atStart => exact ⟨0, by omega, rfl, hrel0⟩
  case round =>
    obtain ⟨k, hk, rfl, hp, hown, hnx⟩ := hrel
    have hsz := hnx.size
    have HX := Lib.hid hnx
    clear hrel0
    by_cases hlt : k < l.length
    · obtain ⟨g, rfl, _, hg1, hg2, c0, c1, c2⟩ := row3_at hown hlt
      obtain ⟨a, ha, he⟩ := HM.out _ (List.getElem_mem hlt)
      have hend := atR_end s a ha
      have hn1 := atR_2 s a
      have hr := atR_1 s a
      have HS := Lib.hid (piecesTo_succ l k hlt)
      have hpl := pieces_len l k
      have HL := Lib.hid (pieces_last hcg.out (fun u hu => by obtain ⟨b, _, rfl⟩ := HM.out u hu; dsimp only; have := atR_2 s b; omega) k hk)
      have HEA := Lib.hid (endAt_lt (z := (s.size : Int)) hlt)
      rw [he] at HEA
      rw [he] at c0 c1 c2 HS
      dsimp only at c0 c1 c2
      obtain ⟨hk1, hk2⟩ := kind_bd (atR s a).1
      generalize piecesTo l k = P at *
      have hal := hown.alloc (.cells #[.int .i64 a, .int .i64 (atR s a).2, .int .i64 (atR s a).1] 26)
      have hpal := hp.alloc (.cells #[.int .i64 a, .int .i64 (atR s a).2, .int .i64 (atR s a).1] 26)
      have HO := Lib.hid hal
      have HP := Lib.hid hpal
      have HO0 := Lib.hid hown
      clear hnx he hal hpal hown
      rcases List.eq_nil_or_concat P with rfl | ⟨o, p, rfl⟩
      · obtain ⟨A2, c2', rfl⟩ := own_slice hp
        clear hp
        have HNEW := Lib.hid (step_nil ((a : Int), (atR s a).2, (atR s a).1))
        go_wp2_with (first
          | (go_at_call 26; refine (kind_any _ _).mono ?_; rintro e w' ⟨rfl, rfl⟩)
          | (at_builtin; refine wpList_append_own _ rfl (.tmp 46) (.tmp 53) 31 rfl w.heap.size 35 i0 _ 3 24 Try.underlying31 hi hz0 hz1 hz2 rfl (by decide) _ _ _ rfl (HP.out.alloc _) ⟨wr.heap.size + 1, 0, none⟩ 1 1 [.int .i64 (kindS (atR s a).1), .int .i64 a, .int .i64 (atR s a).2] rfl rfl (cells_new2 _ [_, _, _] _ (by simp)) (one3 _ _ _ _ _ _) (by unfold maxLen; omega) (by omega) (by simp; omega) ?_; intro v' w4 hown4 hgr4 _))
        have hfin : PRel l (some ⟨g, 0, none⟩) c w w4 v' (k + 1) := pieces_new HS.out HNEW.out HP.out HO.out HX.out hown4 hgr4
        go_roundw
        case rel => exact ⟨k + 1, by omega, by go_num, hfin⟩
        case measure => simp [intOf]; omega
      · rw [List.concat_eq_append] at *
        obtain ⟨A2, c2', rfl⟩ := own_slice hp
        obtain ⟨g2, rfl, hnn, hg3, hg4, d0, d1, d2⟩ := row3_at hp (k := o.length) (by simp)
        simp only [List.getElem_concat_length] at d0 d1 d2
        obtain ⟨p0, p1, p2⟩ := p
        dsimp only at d0 d1 d2
        rw [List.length_append] at *
        simp only [List.length_cons, List.length_nil, Nat.zero_add] at *
        have HP0 := Lib.hid hp
        clear hp
        by_cases hmerge : kindS (atR s a).1 ≤ 3 ∧ p0 = kindS (atR s a).1
        · obtain ⟨hm1, rfl⟩ := hmerge
          have HNEW := Lib.hid (step_merge o (kindS (atR s a).1, p1, p2) ((a : Int), (atR s a).2, (atR s a).1) hm1 rfl)
          have h4 : (kindS (atR s a).1 == kindS (atR s a).1) = true := by simp
          obtain ⟨q0, q2, q1⟩ := HL.out _ _ rfl
          rw [HEA.out] at q1
          dsimp only at q0 q1 q2
          have q3 : p1 ≤ 4294967296 := by omega
          have q4 : p2 ≤ 4294967296 := by omega
          clear q1
          have hne := own_ne HP0.out HO0.out (by decide)
          have hf : wr.frozen? ⟨g2, o.length * 3 + 2, none⟩ = false := by
            exact World.ownsRow.frozenAt HP0.out _
          have HST := Lib.hid (pieces_store (wr := wr) HS.out HNEW.out HP0.out HO0.out hne HX.out)
          clear hne
          go_wp2_with (go_at_call 26; refine (kind_any _ _).mono ?_; rintro e w' ⟨rfl, rfl⟩)
          go_region
          all_goals go_wp2
          all_goals exact ⟨⟨k + 1, by omega, by go_num, HST.out _⟩, by simp [intOf]; omega⟩
        · have HNEW := Lib.hid (step_new o (p0, p1, p2) ((a : Int), (atR s a).2, (atR s a).1) hmerge)
          by_cases h3 : kindS (atR s a).1 ≤ 3
          · have h4 : (p0 == kindS (atR s a).1) = false := by simp; omega
            clear hmerge
            go_wp2_with (first
              | (go_at_call 26; refine (kind_any _ _).mono ?_; rintro e w' ⟨rfl, rfl⟩)
              | (at_builtin; refine wpList_append_own _ rfl (.tmp 46) (.tmp 53) 31 rfl w.heap.size 35 i0 _ 3 24 Try.underlying31 hi hz0 hz1 hz2 rfl (by decide) _ _ _ rfl (HP.out.alloc _) ⟨wr.heap.size + 1, 0, none⟩ 1 1 [.int .i64 (kindS (atR s a).1), .int .i64 a, .int .i64 (atR s a).2] rfl rfl (cells_new2 _ [_, _, _] _ (by simp)) (one3 _ _ _ _ _ _) (by unfold maxLen; omega) (by omega) (by simp; omega) ?_; intro v' w4 hown4 hgr4 _))
            have hfin : PRel l (some ⟨g, 0, none⟩) c w w4 v' (k + 1) := pieces_new (P := o ++ [(p0, p1, p2)]) (v := .slice (some ⟨g2, 0, none⟩) (o.length + 1) c2') HS.out HNEW.out (by rw [List.length_append]; exact HP.out) HO.out HX.out (by rw [List.length_append]; exact hown4) hgr4
            go_roundw
            case rel => exact ⟨k + 1, by omega, by go_num, hfin⟩
            case measure => simp [intOf]; omega
          · clear hmerge
            go_wp2_with (first
              | (go_at_call 26; refine (kind_any _ _).mono ?_; rintro e w' ⟨rfl, rfl⟩)
              | (at_builtin; refine wpList_append_own _ rfl (.tmp 46) (.tmp 53) 31 rfl w.heap.size 35 i0 _ 3 24 Try.underlying31 hi hz0 hz1 hz2 rfl (by decide) _ _ _ rfl (HP.out.alloc _) ⟨wr.heap.size + 1, 0, none⟩ 1 1 [.int .i64 (kindS (atR s a).1), .int .i64 a, .int .i64 (atR s a).2] rfl rfl (cells_new2 _ [_, _, _] _ (by simp)) (one3 _ _ _ _ _ _) (by unfold maxLen; omega) (by omega) (by simp; omega) ?_; intro v' w4 hown4 hgr4 _))
            have hfin : PRel l (some ⟨g, 0, none⟩) c w w4 v' (k + 1) := pieces_new (P := o ++ [(p0, p1, p2)]) (v := .slice (some ⟨g2, 0, none⟩) (o.length + 1) c2') HS.out HNEW.out (by rw [List.length_append]; exact HP.out) HO.out HX.out (by rw [List.length_append]; exact hown4) hgr4
            go_roundw
            case rel => exact ⟨k + 1, by omega, by go_num, hfin⟩
            case measure => simp [intOf]; omega
    · have hke : k = l.length := by omega
      have HE := Lib.hid hke
      have HPP := Lib.hid hp
      clear hke hp hown hnx
      go_wp2
      go_ret
      rw [HLE.out]
      exact ⟨_, rfl, by rw [← HE.out]; exact HPP.out, HX.out⟩
end Go.Proofs.Ytebmdabdckebhaa
