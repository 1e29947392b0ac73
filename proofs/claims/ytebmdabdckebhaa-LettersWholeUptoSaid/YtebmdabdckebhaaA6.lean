/- The walk of letters.Fold. -/
import Derived.Test.YtebmdabdckebhaaA3
import Derived.Test.YtebmdabdckebhaaA4
import Derived.Test.YtebmdabdckebhaaA5
import Derived.Test.YtebmdabdckebhaaBld
namespace Go.Proofs.Ytebmdabdckebhaa
open Go.RowKit

theorem unit_mem (s : ByteArray) : ∀ (n a : Nat) (u : Int × Int × Int), u ∈ unitsFrom s n a → ∃ b : Nat, b < s.size ∧ u = ((b : Int), (atR s b).2, (atR s b).1)
  | 0, _, u, h => by simp [unitsFrom] at h
  | n + 1, a, u, h => by
    rw [unitsFrom] at h
    split at h
    · rcases List.mem_cons.1 h with rfl | h
      · exact ⟨a, by assumption, rfl⟩
      · exact unit_mem s n _ u h
    · simp at h
theorem units_len (s : ByteArray) : ∀ (n a : Nat), (unitsFrom s n a).length ≤ n
  | 0, _ => by simp [unitsFrom]
  | n + 1, a => by
    rw [unitsFrom]; split
    · have := units_len s n (a + (atR s a).2.toNat); simp; omega
    · simp
def foldU (s : ByteArray) (u : Int × Int × Int) : List UInt8 := if u.2.2 < 0 then [byteU s u.1.toNat] else Lib.encodeRune (smallS u.2.2)
def foldL (s : ByteArray) : List UInt8 := (unitsFrom s s.size 0).flatMap (foldU s)
theorem foldU_len (s : ByteArray) (u : Int × Int × Int) : (foldU s u).length ≤ 4 := by
  unfold foldU; split
  · simp
  · unfold Lib.encodeRune; rw [List.length_map]; exact (Lib.encodeRuneZ_length _).2
theorem foldTake_len (s : ByteArray) (l : List (Int × Int × Int)) : ∀ k, ((l.take k).flatMap (foldU s)).length ≤ 4 * k := by
  intro k
  induction k with
  | zero => simp
  | succ k ih =>
    rw [List.take_add_one, List.flatMap_append, List.length_append]
    have : ((l[k]?.toList).flatMap (foldU s)).length ≤ 4 := by
      cases l[k]? with
      | none => simp
      | some u => simpa using foldU_len s u
    omega
theorem foldTake_succ (s : ByteArray) (l : List (Int × Int × Int)) (k : Nat) (hk : k < l.length) : (l.take (k + 1)).flatMap (foldU s) = (l.take k).flatMap (foldU s) ++ foldU s l[k] := by
  rw [List.take_succ_eq_append_getElem hk, List.flatMap_append]; simp
theorem small_bd (c : Int) (h0 : 0 ≤ c) (h1 : c ≤ 1114111) : 0 ≤ smallS c ∧ smallS c ≤ 1114111 := by
  unfold smallS; (repeat' split) <;> omega
theorem isB_alloc {T e : TypeId} {B b : Nat} {bs : List Value} {w : World} (h : Lib.IsBuilder T e B b bs w) (o : Obj) : Lib.IsBuilder T e B b bs (w.alloc o) := by
  have key : ∀ p, Lib.BuilderAt T e B b p bs w → Lib.BuilderAt T e B b p bs (w.alloc o) := by
    rintro p ⟨hB, v, hb, hown, hne⟩
    have hlt : b < w.heap.size := (Array.getElem?_eq_some_iff.1 hb).1
    exact ⟨hB, v, (Below.heap_alloc w o b hlt).trans hb, hown.alloc _, hne⟩
  exact h.imp (key _) (key _)
theorem isB_below {T e : TypeId} {B b K : Nat} {bs : List Value} {w w' : World} (h : Lib.IsBuilder T e B b bs w) (hb : Below K w w') (hK : K = w.heap.size) : Lib.IsBuilder T e B b bs w' := by
  subst hK
  have key : ∀ p, Lib.BuilderAt T e B b p bs w → Lib.BuilderAt T e B b p bs w' := by
    rintro p ⟨hB, v, hbk, hown, hne⟩
    have hlt : b < w.heap.size := (Array.getElem?_eq_some_iff.1 hbk).1
    exact ⟨hB, v, (hb.block b hlt).trans hbk, own_below_all hown hb, hne⟩
  exact h.imp (key _) (key _)
theorem isB_lt {T e : TypeId} {B b : Nat} {bs : List Value} {w : World} (h : Lib.IsBuilder T e B b bs w) : b < w.heap.size := by
  rcases h with ⟨_, v, hb, _⟩ | ⟨_, v, hb, _⟩ <;> exact (Array.getElem?_eq_some_iff.1 hb).1
theorem isB_new (w : World) (T e : TypeId) : Lib.IsBuilder T e w.heap.size w.heap.size [] (w.alloc (.cells #[.pointer none, .slice none 0 0] T)) :=
  .inl ⟨Nat.le_refl _, .slice none 0 0, Blk.new _ _ _, ownsRow_none _ _ _ _, by simp [Value.ownBlock]⟩

/-- what a round of Fold hands on -/
def FoldRel (s : ByteArray) (l : List (Int × Int × Int)) (v : Value) (w wr : World) (k : Nat) : Prop :=
  Lib.IsBuilder 54 5 w.heap.size w.heap.size (Lib.byteCells ((l.take k).flatMap (foldU s))) wr ∧ wr.ownsRow (w.heap.size + 1) 26 3 v l.length (unitCells l) ∧ Below w.heap.size w wr

set_option maxRecDepth 100000 in
set_option maxHeartbeats 2000000 in
theorem fold_any (s : ByteArray) (hs : s.size ≤ 4294967296) (w : World) :
    Calls Try.prog 14 #[.string s] w fun e w' => e = .returned (.string ⟨(foldL s).toArray⟩) ∧ Below w.heap.size w w' := by
  have hll := units_len s s.size 0
  have hm := unit_mem s s.size 0
  have HF : Hid (foldL s = (unitsFrom s s.size 0).flatMap (foldU s)) := Lib.hid rfl
  go_enter Try.func14, Try.ntmps14
  go_wp2_with fail
  refine (units_any s hs _).mono ?_
  rintro e w2 ⟨v, rfl, hown, hb2⟩
  generalize unitsFrom s s.size 0 = l at *
  obtain ⟨A, c, rfl⟩ := own_slice hown
  have hrel0 : FoldRel s l (.slice A l.length c) w w2 0 := by
    refine ⟨?_, by simpa using hown, ((Below.refl _ _).alloc (Nat.le_refl _) _).trans (hb2.mono (by simp))⟩
    exact isB_below (isB_new w _ _) hb2 rfl
  have HM := Lib.hid hm
  clear hown hb2 hm
  go_wp2
  go_loopw [9] (fun i wr => ∃ k : Nat, k ≤ l.length ∧ i = .int .i64 (k : Int) ∧ FoldRel s l (.slice A l.length c) w wr k) (fun i _ => l.length - (intOf i).toNat)
  case atStart => exact ⟨0, by omega, rfl, hrel0⟩
  case round =>
    obtain ⟨k, hk, rfl, hB, hown, hnx⟩ := hrel
    have hsz := hnx.size
    have HX := Lib.hid hnx
    by_cases hlt : k < l.length
    · obtain ⟨g, rfl, _, hg1, hg2, c0, c1, c2⟩ := row3_at hown hlt
      obtain ⟨a, ha, he⟩ := HM.out _ (List.getElem_mem hlt)
      have hfl := foldTake_len s l k
      have HS := Lib.hid (foldTake_succ s l k hlt)
      rw [he] at c0 c1 c2 HS
      dsimp only at c0 c1 c2
      have hr := atR_1 s a
      have hb0 := isB_lt hB
      have E1 := byteI_eq s a ha
      have hne : (Value.slice (some ⟨g, 0, none⟩) l.length c).ownBlock ≠ some w.heap.size := by simp [Value.ownBlock]; omega
      have hal := hown.alloc (.cells #[.int .i64 a, .int .i64 (atR s a).2, .int .i64 (atR s a).1] 26)
      have HO := Lib.hid hal
      clear hnx he hal hown
      by_cases hneg : (atR s a).1 < 0
      · have HU : Hid (foldU s ((a : Int), (atR s a).2, (atR s a).1) = [byteU s a]) := Lib.hid (by unfold foldU; rw [if_pos hneg]; simp)
        go_wp2_with fail
        refine (writeByte_any w.heap.size w.heap.size _ _ _ (isB_alloc hB _) (by rw [Lib.byteCells_length]; omega) (by simp; omega)).mono ?_
        rintro e w3 ⟨rfl, hB3, hb3, hk3⟩
        have hfin : FoldRel s l (.slice (some ⟨g, 0, none⟩) l.length c) w w3 (k + 1) := by
          refine ⟨?_, own_others HO.out hk3 (by decide) hne, (HX.out.alloc (by omega) _).trans hb3⟩
          rw [HS.out, HU.out]
          have : Lib.byteCells ((l.take k).flatMap (foldU s) ++ [byteU s a]) = Lib.byteCells ((l.take k).flatMap (foldU s)) ++ [.int .u8 (byteI s a)] := by
            simp [Lib.byteCells, byteI, byteU]
          rw [this]; exact hB3
        clear hB3 hb3 hk3 hB
        go_wp2
        go_roundw
        case rel => exact ⟨k + 1, by omega, by go_num, hfin⟩
        case measure => simp [intOf]; omega
      · have HU : Hid (foldU s ((a : Int), (atR s a).2, (atR s a).1) = Lib.encodeRune (smallS (atR s a).1)) := Lib.hid (by unfold foldU; rw [if_neg hneg])
        have hsb := small_bd (atR s a).1 (by omega) hr.2
        obtain ⟨hr0, hr1⟩ := hr
        obtain ⟨hs0, hs1⟩ := hsb
        have hpos : 0 ≤ (atR s a).1 := by omega
        go_wp2_with fail
        refine (small_any _ hr0 hr1 _).mono ?_
        rintro e w3 ⟨rfl, hb3⟩
        go_wp2_with fail
        refine (writeRune_any w.heap.size w.heap.size _ _ hs0 hs1 _ (isB_below (isB_alloc hB _) hb3 rfl) (by rw [Lib.byteCells_length]; omega) (by have := hb3.size; simp at this; omega)).mono ?_
        rintro e w4 ⟨⟨n, rfl⟩, hB4, hb4, hk4⟩
        have hfin : FoldRel s l (.slice (some ⟨g, 0, none⟩) l.length c) w w4 (k + 1) := by
          refine ⟨?_, own_others (own_below_all HO.out hb3) hk4 (by decide) hne, ((HX.out.alloc (by omega) _).trans (hb3.mono (by simp; omega))).trans hb4⟩
          rw [HS.out, HU.out]
          have : Lib.byteCells ((l.take k).flatMap (foldU s) ++ Lib.encodeRune (smallS (atR s a).1)) = Lib.byteCells ((l.take k).flatMap (foldU s)) ++ Lib.runeCells (smallS (atR s a).1) := by
            rw [← Lib.byteCells_encodeRune]; simp [Lib.byteCells]
          rw [this]; exact hB4
        clear hB4 hb4 hk4 hB
        go_wp2
        go_roundw
        case rel => exact ⟨k + 1, by omega, by go_num, hfin⟩
        case measure => simp [intOf]; omega
    · have hE : (l.take k).flatMap (foldU s) = foldL s := by
        rw [HF.out, List.take_of_length_le (by omega)]
      rw [hE] at hB
      clear hE hown hnx
      go_wp2_with fail
      refine (Try.Builder_String_any w.heap.size w.heap.size _ _ hB hsz).mono ?_
      rintro e w3 ⟨rfl, hb3⟩
      go_wp2
      go_ret
      exact ⟨rfl, HX.out.trans hb3⟩
end Go.Proofs.Ytebmdabdckebhaa
