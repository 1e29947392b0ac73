/- The walk of letters.Units. -/
import Derived.Test.YtdepkpnicfcbiaaA2
namespace Go.Proofs.Ytdepkpnicfcbiaa
open Go.RowKit

theorem unitsFrom_step {s : ByteArray} {m a : Nat} (h : a < s.size) (hm : s.size - a ≤ m) (l : List (Int × Int × Int)) {r n : Int} (e : atR s a = (r, n)) {k : Nat} (hk : (k : Int) = n) :
    l ++ unitsFrom s m a = (l ++ [((a : Int), n, r)]) ++ unitsFrom s (m - 1) (a + k) := by
  obtain ⟨m', rfl⟩ : ∃ m', m = m' + 1 := ⟨m - 1, by omega⟩
  rw [unitsFrom, if_pos h, e]
  have : (r, n).2.toNat = k := by dsimp only; omega
  simp [this]
theorem unitsFrom_end {s : ByteArray} {m a : Nat} (h : ¬ a < s.size) : unitsFrom s m a = [] := by
  cases m <;> simp [unitsFrom, h]

def UnitsRel (s : ByteArray) (B : Nat) (w0 : World) (out : Value) (wr : World) (a m : Nat) (l : List (Int × Int × Int)) : Prop :=
  wr.heap[B]? = some (.stringIter s a) ∧ unitsFrom s s.size 0 = l ++ unitsFrom s m a ∧ s.size - a ≤ m ∧ wr.ownsRow B 45 3 out l.length (unitCells l) ∧ Below B w0 wr

theorem hasPrefix_is {s : ByteArray} {a : Nat} {b : Bool} (h : prefB fffd (s.extract a s.size) = b) (hs : s.size ≤ 4294967296) (w : World) :
    Calls Try.prog 22 #[.string (s.extract a s.size), .string ⟨#[239, 191, 189]⟩] w fun e w' => e = .returned (.bool b) ∧ w = w' := by
  rw [← h]
  exact hasPrefix_any _ _ (by simp; omega) (by decide) w

theorem unit_cells1 (a b c : Int) (l : List (Int × Int × Int)) : unitCells (l ++ [(a, b, c)]) = unitCells l ++ [.int .i64 a, .int .i64 b, .int .i64 c] := by simp [unitCells]
/-- one unit more -/
theorem units_more {s : ByteArray} {B : Nat} {w w1 w2 : World} {u v : Value} {a m k : Nat} {n r : Int} {l : List (Int × Int × Int)} (hB : B = w.heap.size) (hm : s.size - a ≤ m) (hk : a + k ≤ s.size) (hkk : (k : Int) = n) (hll : l.length ≤ a) (hk1 : 1 ≤ k)
    (hU : unitsFrom s s.size 0 = (l ++ [((a : Int), n, r)]) ++ unitsFrom s (m - 1) (a + k))
    (hg : w1.heap[B]? = some (.stringIter s (a + k))) (hnx : Below B w w1) (o : Obj) (hown : w1.ownsRow B 45 3 u l.length (unitCells l))
    (hown1 : w2.ownsRow B 45 3 v (l.length + 1) (unitCells l ++ [.int .i64 a, .int .i64 n, .int .i64 r])) (hgr : (w1.alloc o).grownBy w2 u.ownBlock) :
    (∃ (a' m' : Nat) (l' : List (Int × Int × Int)), a' ≤ s.size ∧ l'.length ≤ a' ∧ UnitsRel s B w v w2 a' m' l') ∧ w2.heap[B]? = some (.stringIter s (a + k)) := by
  have hlt : B < w1.heap.size := (Array.getElem?_eq_some_iff.1 hg).1
  have h1 : (w1.alloc o).heap[B]? = some (.stringIter s (a + k)) := (Below.heap_alloc w1 o B hlt).trans hg
  have h2 := (hgr.block B (by simp; omega) (own_ne_iter hown hg)).trans h1
  refine ⟨⟨a + k, m - 1, l ++ [((a : Int), n, r)], hk, by simp; omega, h2, hU, by omega, ?_, ?_⟩, h2⟩
  · rw [unit_cells1]; simpa using hown1
  · exact (hnx.alloc (by have := hnx.size; omega) o).grown hgr (by have := hnx.size; simp; omega) (fun k hk => own_ge hown k hk)
theorem iterPos_of {w : World} {g p : Nat} {s : ByteArray} (h : w.heap[g]? = some (.stringIter s p)) : w.iterPos g = p := by simp [World.iterPos, h]

set_option maxRecDepth 100000 in
set_option maxHeartbeats 2000000 in
theorem units_any (s : ByteArray) (hs : s.size ≤ 4294967296) (w : World) :
    Calls Try.prog 18 #[.string s] w fun e w' => ∃ v, e = .returned v ∧
      w'.ownsRow w.heap.size 45 3 v (unitsFrom s s.size 0).length (unitCells (unitsFrom s s.size 0)) ∧ Below w.heap.size w w' := by
  obtain ⟨i0, hi, hz0, hz1, hz2⟩ := info_parts unit_info
  go_enter Try.func18, Try.ntmps18
  go_wp2
  go_loopw [3] (fun out wr => ∃ (a m : Nat) (l : List (Int × Int × Int)), a ≤ s.size ∧ l.length ≤ a ∧ UnitsRel s w.heap.size w out wr a m l) (fun _ wr => s.size - wr.iterPos w.heap.size)
  case atStart => exact ⟨0, s.size, [], by omega, by simp, iter_new _ _ _, rfl, by omega, ownsRow_none _ _ _ _, below_iter (Below.refl _ _) (Nat.le_refl _) _ _⟩
  case round =>
    obtain ⟨a, m, l, ha, hl, HR⟩ := hrel
    obtain ⟨hg, HU, HM, hown, hnx⟩ := HR
    have HU := Lib.hid HU
    have HM := Lib.hid HM
    by_cases hlt : a < s.size
    · obtain ⟨w1, hrun, hg1, hown1, hnx1⟩ : ∃ w1, (∀ ty, (Instr.next (.pointer (some ⟨w.heap.size, 0, none⟩)) true ty).run Try.prog wr = .ok (.tuple #[.bool true, .int .i64 a, .int .i32 (Utf8.decode s a).1]) w1) ∧
          w1.heap[w.heap.size]? = some (.stringIter s (a + (Utf8.decode s a).2)) ∧ w1.ownsRow w.heap.size 45 3 u3 l.length (unitCells l) ∧ Below w.heap.size w w1 :=
        ⟨_, fun ty => run_next_at (P := Try.prog) ty hg hlt, setIter_get _ hg, own_setIter hown hg _, below_setIter hnx (Nat.le_refl _) _⟩
      have hw := decode_width s a hlt
      have hsz := hnx1.size
      have hpos : wr.iterPos w.heap.size = a := iterPos_of hg
      have HP := Lib.hid hpos
      clear hpos
      rcases unit_cases s a hlt with ⟨h1, h2, h3, h4⟩ | ⟨h1, h2, h3, h4⟩ | ⟨h1, h2, h4⟩
      · have HU1 := Lib.hid (HU.out.trans (unitsFrom_step hlt HM.out l h2 (k := (Utf8.decode s a).2) (by omega)))
        have K1 := Lib.hid hg1
        have K4 := Lib.hid h4
        clear h2 h4 HU hg hg1 hown hnx
        go_wp2_with (first
          | (go_at_call 21; refine (runeLen_any _ _).mono ?_; rintro e w' ⟨rfl, rfl⟩)
          | (go_at_call 22; refine (hasPrefix_is h3 hs _).mono ?_; rintro e w' ⟨rfl, rfl⟩)
          | (at_builtin; refine wpList_append_own _ rfl (.tmp 24) (.tmp 27) 42 rfl w.heap.size 45 i0 _ 3 24 Try.underlying42 hi hz0 hz1 hz2 rfl (by decide) _ _ _ rfl (hown1.alloc _) ⟨w1.heap.size, 0, none⟩ 1 1 [.int .i64 a, .int .i64 1, .int .i64 (-1)] rfl rfl (cells_new _ [_, _, _] _) (one3 _ _ _ _ _ _) (by unfold maxLen; omega) (by omega) (by simp; omega) ?_; intro v' w2 hown2 hgr2 _))
        obtain ⟨HX, hit⟩ := units_more (n := 1) (r := -1) rfl HM.out hw.2 (by have := K4.out; omega) hl hw.1 HU1.out K1.out hnx1 _ hown1 hown2 hgr2
        refine ⟨HX, ?_⟩
        rw [iterPos_of hit, HP.out]; omega
      · have HU1 := Lib.hid (HU.out.trans (unitsFrom_step hlt HM.out l h2 (k := (Utf8.decode s a).2) (by omega)))
        have K1 := Lib.hid hg1
        have K4 := Lib.hid h4
        have h1b : (((Utf8.decode s a).1 : Int) == 65533) = true := by simp [h1]
        have hbd : ((Utf8.decode s a).1 : Int) ≤ 1114111 := by omega
        have H1 := Lib.hid h1
        clear h1 h2 h4 HU hg hg1 hown hnx
        go_wp2_with (first
          | (go_at_call 21; refine (runeLen_any _ _).mono ?_; rintro e w' ⟨rfl, rfl⟩)
          | (go_at_call 22; refine (hasPrefix_is h3 hs _).mono ?_; rintro e w' ⟨rfl, rfl⟩)
          | (at_builtin; refine wpList_append_own _ rfl (.tmp 29) (.tmp 35) 42 rfl w.heap.size 45 i0 _ 3 24 Try.underlying42 hi hz0 hz1 hz2 rfl (by decide) _ _ _ rfl (hown1.alloc _) ⟨w1.heap.size, 0, none⟩ 1 1 [.int .i64 a, .int .i64 (runeLenS (Utf8.decode s a).1), .int .i64 (Utf8.decode s a).1] rfl rfl (cells_new _ [_, _, _] _) (one3 _ _ _ _ _ _) (by unfold maxLen; omega) (by omega) (by simp; omega) ?_; intro v' w2 hown2 hgr2 _))
        obtain ⟨HX, hit⟩ := units_more (n := runeLenS (Utf8.decode s a).1) (r := (Utf8.decode s a).1) rfl HM.out hw.2 (by rw [H1.out, K4.out]; rfl) hl hw.1 (by rw [H1.out]; exact HU1.out) K1.out hnx1 _ hown1 hown2 hgr2
        refine ⟨HX, ?_⟩
        rw [iterPos_of hit, HP.out]; omega
      · have HU1 := Lib.hid (HU.out.trans (unitsFrom_step hlt HM.out l h2 (k := (Utf8.decode s a).2) (by omega)))
        have K1 := Lib.hid hg1
        have K4 := Lib.hid h4
        have h1b : (((Utf8.decode s a).1 : Int) == 65533) = false := by simp; omega
        have hbd : ((Utf8.decode s a).1 : Int) ≤ 1114111 := by have := atR_1 s a; rw [h2] at this; exact this.2
        clear h1 h2 h4 HU hg hg1 hown hnx
        go_wp2_with (first
          | (go_at_call 21; refine (runeLen_any _ _).mono ?_; rintro e w' ⟨rfl, rfl⟩)
          | (go_at_call 22; refine (hasPrefix_is h3 hs _).mono ?_; rintro e w' ⟨rfl, rfl⟩)
          | (at_builtin; refine wpList_append_own _ rfl (.tmp 29) (.tmp 35) 42 rfl w.heap.size 45 i0 _ 3 24 Try.underlying42 hi hz0 hz1 hz2 rfl (by decide) _ _ _ rfl (hown1.alloc _) ⟨w1.heap.size, 0, none⟩ 1 1 [.int .i64 a, .int .i64 (runeLenS (Utf8.decode s a).1), .int .i64 (Utf8.decode s a).1] rfl rfl (cells_new _ [_, _, _] _) (one3 _ _ _ _ _ _) (by unfold maxLen; omega) (by omega) (by simp; omega) ?_; intro v' w2 hown2 hgr2 _))
        obtain ⟨HX, hit⟩ := units_more (n := runeLenS (Utf8.decode s a).1) (r := (Utf8.decode s a).1) rfl HM.out hw.2 (by have := K4.out; omega) hl hw.1 HU1.out K1.out hnx1 _ hown1 hown2 hgr2
        refine ⟨HX, ?_⟩
        rw [iterPos_of hit, HP.out]; omega
    · have HE := Lib.hid (show unitsFrom s s.size 0 = l by rw [HU.out, unitsFrom_end hlt, List.append_nil])
      have hrun := fun ty => run_next_over (P := Try.prog) ty hg hlt
      clear HU hg
      go_wp2
      go_ret
      rw [HE.out]
      exact ⟨_, rfl, hown, hnx⟩
end Go.Proofs.Ytdepkpnicfcbiaa
