/- The walk of R.Pieces. -/
import Derived.Test.YtebmdabdckebhaaA10
import Derived.Deep.RegionHeld3
import Derived.Deep.AppendLies
namespace Go.Proofs.Ytebmdabdckebhaa
open Go.RowKit

/-- at a boundary the next unit begins a piece of its own -/
def Bound (l : List Tri) (i : Nat) : Prop := ∀ h : i < l.length, pieceStep (piecesTo l i) (l[i]'h) = piecesTo l i ++ [pieceOf (l[i]'h)]
def Run (l : List Tri) (z : Int) (i j : Nat) (kd at_ : Int) : Prop := piecesTo l j = piecesTo l i ++ [(kd, at_, endAt l z j - at_)]
theorem run_first {l : List Tri} {z : Int} {i : Nat} (hc : contig l 0 z) (h : i < l.length) (hb : Bound l i) : Run l z i (i + 1) (kindS l[i].2.2) l[i].1 := by
  unfold Run
  rw [piecesTo_succ l i h, hb h, (contig_step hc).2 i h]
  unfold pieceOf
  rw [show l[i].1 + l[i].2.1 - l[i].1 = l[i].2.1 by omega]
theorem run_more {l : List Tri} {z : Int} {i j : Nat} {kd a : Int} (hc : contig l 0 z) (h : j < l.length) (hr : Run l z i j kd a) (h3 : kd < 4) (hk : kindS l[j].2.2 = kd) : Run l z i (j + 1) kd a := by
  unfold Run at *
  rw [piecesTo_succ l j h, hr, step_merge _ _ _ (by omega) hk.symm, (contig_step hc).2 j h, endAt_lt h]
  dsimp only
  rw [show l[j].1 - a + l[j].2.1 = l[j].1 + l[j].2.1 - a by omega]
theorem run_bound {l : List Tri} {z : Int} {i j : Nat} {kd a : Int} (hr : Run l z i j kd a) (h : ∀ hj : j < l.length, ¬ (kd < 4 ∧ kindS (l[j]'hj).2.2 = kd)) : Bound l j := by
  intro hj
  unfold Run at hr
  rw [hr]
  exact step_new _ _ _ (fun ⟨q1, q2⟩ => h hj ⟨by dsimp only at q2; omega, q2.symm⟩)
theorem bound_zero (l : List Tri) : Bound l 0 := fun h => by
  have : piecesTo l 0 = [] := rfl
  rw [this]; rfl

theorem own_ne2 {w : World} {B B' e e' s s' n n' g' c' : Nat} {v : Value} {xs xs' : List Value} (h : w.ownsRow B e s v n xs) (h' : w.ownsRow B' e' s' (.slice (some ⟨g', 0, none⟩) n' c') n' xs') (hne : e ≠ e') : v.ownBlock ≠ some g' := by
  rcases h.2 with ⟨rfl, _⟩ | ⟨g1, cap, cur, rfl, hr⟩
  · simp [Value.ownBlock]
  · simp only [Value.ownBlock, ne_eq, Option.some.injEq]
    have h2 : w.ownsRow B e s (.slice (some ⟨g1, 0, none⟩) n cap) n xs := ⟨h.1, .inr ⟨g1, cap, cur, rfl, hr⟩⟩
    exact own_ne h2 h' hne
/-- a piece more -/
theorem pieces_run {l : List Tri} {z : Int} {A : Option Addr} {c k q : Nat} {w wr wa w4 : World} {v v' : Value} {kd a en : Int} (hR : Run l z k q kd a) (hE : endAt l z q = en) (hX : Below w.heap.size w wr)
    (hO : wr.ownsRow w.heap.size 26 3 (.slice A l.length c) l.length (unitCells l)) (hP : wr.ownsRow w.heap.size 35 3 v (piecesTo l k).length (unitCells (piecesTo l k)))
    (ob : Obj) (hwa : wa = (wr.alloc ob).drew)
    (h4 : w4.ownsRow w.heap.size 35 3 v' ((piecesTo l k).length + 1) (unitCells (piecesTo l k) ++ [.int .i64 kd, .int .i64 a, .int .i64 (en - a)])) (hg : wa.grownBy w4 v.ownBlock) : PRel l A c w w4 v' q := by
  subst hwa
  have hsz := hX.size
  unfold Run at hR
  refine ⟨?_, ?_, ?_⟩
  · rw [hR, hE, unitCells_append, List.length_append]; exact h4
  · refine World.ownsRow.kept ((hO.alloc ob).drew) hg ?_
    rcases hO.2 with ⟨hv, _⟩ | ⟨g2, cap2, cur2, hv, hr⟩
    · left; rw [hv]; rfl
    · right; rw [hv] at hO ⊢; simp only [Value.ownBlock]; exact fun e => own_ne2 hP hO (by decide) e.symm
  · exact ((hX.alloc hsz ob).drew).grown hg (by simp; omega) (own_ge hP)

set_option maxRecDepth 100000 in
set_option maxHeartbeats 2000000 in
theorem rPieces_any (s : ByteArray) (hs : s.size ≤ 4294967296) (w : World) :
    Calls Try.prog 13 #[.string s] w fun e w' => ∃ v, e = .returned v ∧
      w'.ownsRow w.heap.size 35 3 v (piecesTo (unitsFrom s s.size 0) (unitsFrom s s.size 0).length).length (unitCells (piecesTo (unitsFrom s s.size 0) (unitsFrom s s.size 0).length)) ∧ Below w.heap.size w w' := by
  obtain ⟨i0, hi, hz0, hz1, hz2⟩ := info_parts piece_info
  have hll := units_len s s.size 0
  have hm := unit_mem s s.size 0
  have hcg := Lib.hid (units_contig s s.size 0 (by omega) (by omega))
  go_enter Try.func13, Try.ntmps13
  go_wp2_with fail
  refine (rUnits_any s hs _).mono ?_
  rintro e w2 ⟨v, rfl, hown, hb2⟩
  generalize hl : unitsFrom s s.size 0 = l at *
  have HLE := Lib.hid hl
  clear hl
  obtain ⟨A, c, rfl⟩ := own_slice hown
  have HM := Lib.hid hm
  have hrel0 : PRel l A c w w2 (.slice none 0 0) 0 := ⟨ownsRow_none _ _ _ _, hown, hb2⟩
  clear hown hb2 hm
  go_wp2
  go_loopw [3, 5] (fun v i wr => ∃ k : Nat, k ≤ l.length ∧ i = .int .i64 (k : Int) ∧ Hid (Bound l k) ∧ PRel l A c w wr v k) (fun _ i _ => l.length - (intOf i).toNat)
  case atStart => exact ⟨0, by omega, rfl, bound_zero l, hrel0⟩
  case round =>
    obtain ⟨k, hk, rfl, HB, hp, hown, hnx⟩ := hrel
    have hsz := hnx.size
    have HX := Lib.hid hnx
    clear hrel0
    obtain ⟨wo, rfl⟩ : ∃ wo : World, wo = wr := ⟨_, rfl⟩
    by_cases hlt : k < l.length
    · obtain ⟨g, rfl, _, hg1, hg2, c0, c1, c2⟩ := row3_at hown hlt
      have HA := Lib.hid (fun j (h : j < l.length) => row3_at hown h)
      obtain ⟨a, ha, he⟩ := HM.out _ (List.getElem_mem hlt)
      have HR := Lib.hid (run_first hcg.out hlt HB.out)
      rw [he] at c0 c1 c2 HR
      dsimp only at c0 c1 c2 HR
      obtain ⟨hk1, hk2⟩ := kind_bd (atR s a).1
      have HO := Lib.hid hown
      have HP := Lib.hid hp
      clear hnx he hown
      go_wp2_with (go_at_call 27; refine (kindOf_any _ _).mono ?_; rintro e w' ⟨rfl, rfl⟩)
      go_loop [7] (fun j => ∃ q : Nat, k + 1 ≤ q ∧ q ≤ l.length ∧ j = .int .i64 (q : Int) ∧ Hid (Run l s.size k q (kindS (atR s a).1) a)) (fun j => l.length - (intOf j).toNat)
      case atStart => exact ⟨k + 1, by omega, by omega, by go_num, HR⟩
      case round =>
        obtain ⟨q, hq1, hq2, rfl, HQ⟩ := hrel
        by_cases hql : q < l.length
        · obtain ⟨g', hgg, _, _, _, e0, e1, e2⟩ := HA.out q hql
          obtain ⟨b, hb, hbe⟩ := HM.out _ (List.getElem_mem hql)
          obtain ⟨rfl⟩ : g' = g := by simpa using hgg.symm
          have HMORE := Lib.hid (fun h3 hk => run_more hcg.out hql HQ.out h3 hk)
          have HEN := Lib.hid (endAt_lt (z := (s.size : Int)) hql)
          have HBD := Lib.hid (run_bound HQ.out)
          have HBE := Lib.hid hbe
          rw [hbe] at e0 e1 e2 HEN HMORE
          dsimp only at e0 e1 e2 HEN HMORE
          clear hbe hgg
          by_cases h4 : kindS (atR s a).1 < 4
          · by_cases h5 : kindS (atR s b).1 = kindS (atR s a).1
            · have h6 : (kindS (atR s b).1 == kindS (atR s a).1) = true := by simp [h5]
              have HQ2 := Lib.hid (HMORE.out h4 h5)
              clear h5
              go_wp2_with (go_at_call 27; refine (kindOf_any _ _).mono ?_; rintro e w' ⟨rfl, rfl⟩)
              go_round
              case rel => exact ⟨q + 1, by omega, by omega, by go_num, HQ2⟩
              case measure => simp [intOf]; omega
            · have h6 : (kindS (atR s b).1 == kindS (atR s a).1) = false := by simp [h5]
              have HBq : Hid (Bound l q) := Lib.hid (HBD.out (fun hj hh => h5 (by have := hh.2; rw [HBE.out] at this; exact this)))
              clear h5
              go_wp2_with (go_at_call 27; refine (kindOf_any _ _).mono ?_; rintro e w' ⟨rfl, rfl⟩)
              have hpl := pieces_len l k
              have AG := own_ne2 HP.out HO.out (by decide)
              have HW := IntWalk.i64_in ((b : Int) - (a : Int)) (by omega)
              go_region_held3 (fun w' => w'.cell? ⟨g, k * 3, none⟩ = some (.int .i64 a))
                (first
                  | go_keep
                  | (rw [hgr4.cell_far _ (by simp; omega) (Ne.symm AG)]; assumption))
                ((refine step_append_lies _ (by rfl) _ _ _ (by rfl) w.heap.size 35 i0 _ 3 24 Try.underlying31 hi hz0 hz1 hz2 rfl (by omega) u3 _ _ (by rfl) ((HP.out.alloc _).drew) ⟨wo.heap.size, 0, none⟩ 1 1 [.int .i64 (kindS (atR s a).1), .int .i64 a, .int .i64 (b - a)] (by rfl) (by rfl) (cells_new _ [_, _, _] _) (one3 _ _ _ _ _ _) (by omega) (by unfold maxLen; omega) (by omega) (by simp; omega) (wo.heap.size + 1) (by simp) ?_; intro gg cap w4 hown4 hgr4 hat4 hlt4))
              have hfin : PRel l (some ⟨g, 0, none⟩) c w w4 (.slice (some ⟨gg, 0, none⟩) ((piecesTo l k).length + 1) cap) q := pieces_run HQ.out HEN.out HX.out HO.out HP.out _ rfl hown4 hgr4
              clear hown4 hgr4 hat4 HW
              go_wp2
              exact ⟨⟨q, by omega, rfl, HBq, hfin⟩, by simp [intOf]; omega⟩
          · have HBq : Hid (Bound l q) := Lib.hid (HBD.out (fun hj hh => h4 hh.1))
            have hpl := pieces_len l k
            have AG := own_ne2 HP.out HO.out (by decide)
            have HW := IntWalk.i64_in ((b : Int) - (a : Int)) (by omega)
            go_wp2
            go_region_held3 (fun w' => w'.cell? ⟨g, k * 3, none⟩ = some (.int .i64 a))
              (first
                | go_keep
                | (rw [hgr4.cell_far _ (by simp; omega) (Ne.symm AG)]; assumption))
              ((refine step_append_lies _ (by rfl) _ _ _ (by rfl) w.heap.size 35 i0 _ 3 24 Try.underlying31 hi hz0 hz1 hz2 rfl (by omega) u3 _ _ (by rfl) ((HP.out.alloc _).drew) ⟨wo.heap.size, 0, none⟩ 1 1 [.int .i64 (kindS (atR s a).1), .int .i64 a, .int .i64 (b - a)] (by rfl) (by rfl) (cells_new _ [_, _, _] _) (one3 _ _ _ _ _ _) (by omega) (by unfold maxLen; omega) (by omega) (by simp; omega) (wo.heap.size + 1) (by simp) ?_; intro gg cap w4 hown4 hgr4 hat4 hlt4))
            have hfin : PRel l (some ⟨g, 0, none⟩) c w w4 (.slice (some ⟨gg, 0, none⟩) ((piecesTo l k).length + 1) cap) q := pieces_run HQ.out HEN.out HX.out HO.out HP.out _ rfl hown4 hgr4
            clear hown4 hgr4 hat4 HW
            go_wp2
            exact ⟨⟨q, by omega, rfl, HBq, hfin⟩, by simp [intOf]; omega⟩
        · have HEN := Lib.hid (endAt_ge (z := (s.size : Int)) hql)
          have HBq : Hid (Bound l q) := Lib.hid (fun hj => absurd hj hql)
          by_cases h4 : kindS (atR s a).1 < 4
          · have hpl := pieces_len l k
            have AG := own_ne2 HP.out HO.out (by decide)
            have HW := IntWalk.i64_in ((s.size : Int) - (a : Int)) (by omega)
            go_wp2
            go_region_held3 (fun w' => w'.cell? ⟨g, k * 3, none⟩ = some (.int .i64 a))
              (first
                | go_keep
                | (rw [hgr4.cell_far _ (by simp; omega) (Ne.symm AG)]; assumption))
              ((refine step_append_lies _ (by rfl) _ _ _ (by rfl) w.heap.size 35 i0 _ 3 24 Try.underlying31 hi hz0 hz1 hz2 rfl (by omega) u3 _ _ (by rfl) ((HP.out.alloc _).drew) ⟨wo.heap.size, 0, none⟩ 1 1 [.int .i64 (kindS (atR s a).1), .int .i64 a, .int .i64 (s.size - a)] (by rfl) (by rfl) (cells_new _ [_, _, _] _) (one3 _ _ _ _ _ _) (by omega) (by unfold maxLen; omega) (by omega) (by simp; omega) (wo.heap.size + 1) (by simp) ?_; intro gg cap w4 hown4 hgr4 hat4 hlt4))
            have hfin : PRel l (some ⟨g, 0, none⟩) c w w4 (.slice (some ⟨gg, 0, none⟩) ((piecesTo l k).length + 1) cap) q := pieces_run HQ.out HEN.out HX.out HO.out HP.out _ rfl hown4 hgr4
            clear hown4 hgr4 hat4 HW
            go_wp2
            exact ⟨⟨q, by omega, rfl, HBq, hfin⟩, by simp [intOf]; omega⟩
          · have hpl := pieces_len l k
            have AG := own_ne2 HP.out HO.out (by decide)
            have HW := IntWalk.i64_in ((s.size : Int) - (a : Int)) (by omega)
            go_wp2
            go_region_held3 (fun w' => w'.cell? ⟨g, k * 3, none⟩ = some (.int .i64 a))
              (first
                | go_keep
                | (rw [hgr4.cell_far _ (by simp; omega) (Ne.symm AG)]; assumption))
              ((refine step_append_lies _ (by rfl) _ _ _ (by rfl) w.heap.size 35 i0 _ 3 24 Try.underlying31 hi hz0 hz1 hz2 rfl (by omega) u3 _ _ (by rfl) ((HP.out.alloc _).drew) ⟨wo.heap.size, 0, none⟩ 1 1 [.int .i64 (kindS (atR s a).1), .int .i64 a, .int .i64 (s.size - a)] (by rfl) (by rfl) (cells_new _ [_, _, _] _) (one3 _ _ _ _ _ _) (by omega) (by unfold maxLen; omega) (by omega) (by simp; omega) (wo.heap.size + 1) (by simp) ?_; intro gg cap w4 hown4 hgr4 hat4 hlt4))
            have hfin : PRel l (some ⟨g, 0, none⟩) c w w4 (.slice (some ⟨gg, 0, none⟩) ((piecesTo l k).length + 1) cap) q := pieces_run HQ.out HEN.out HX.out HO.out HP.out _ rfl hown4 hgr4
            clear hown4 hgr4 hat4 HW
            go_wp2
            exact ⟨⟨q, by omega, rfl, HBq, hfin⟩, by simp [intOf]; omega⟩
    · have hke : k = l.length := by omega
      have HE := Lib.hid hke
      have HPP := Lib.hid hp
      clear hke hp hown hnx
      go_wp2
      go_ret
      rw [HLE.out]
      exact ⟨_, rfl, by rw [← HE.out]; exact HPP.out, HX.out⟩
end Go.Proofs.Ytebmdabdckebhaa
