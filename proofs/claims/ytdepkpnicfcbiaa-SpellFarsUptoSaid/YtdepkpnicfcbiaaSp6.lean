/- Spelling: a way turned round (slices.Reverse at edits). -/
import Derived.Test.YtdepkpnicfcbiaaSp5
import Derived.BigRegion
namespace Go.Proofs.Ytdepkpnicfcbiaa
open Go.RowKit

def rEd : Rep Ed := rPair rInt rStr
def edC (l : List Ed) : List Value := l.flatMap fun e => [.int .i64 e.1, .string e.2]
theorem edC_snoc (l : List Ed) (e : Ed) : edC (l ++ [e]) = edC l ++ [.int .i64 e.1, .string e.2] := by unfold edC; rw [List.flatMap_append]; simp
theorem edC_len (l : List Ed) : (edC l).length = l.length * 2 := by
  unfold edC
  induction l with
  | nil => rfl
  | cons e l ih => rw [List.flatMap_cons, List.length_append, ih, List.length_cons]; simp; omega
theorem edC_get : ∀ (l : List Ed) (k : Nat) (h : k < l.length), (edC l)[k * 2]? = some (.int .i64 (l[k]'h).1) ∧ (edC l)[k * 2 + 1]? = some (.string (l[k]'h).2)
  | e :: l, 0, _ => ⟨rfl, rfl⟩
  | e :: l, k + 1, h => by
    have ih := edC_get l k (by simpa using h)
    have q : ∀ j, (edC (e :: l))[(k + 1) * 2 + j]? = (edC l)[k * 2 + j]? := by
      intro j
      show ([Value.int .i64 e.1, .string e.2] ++ edC l)[(k + 1) * 2 + j]? = _
      rw [List.getElem?_append_right (by simp; omega)]
      congr 1; simp; omega
    have q0 := q 0
    simp only [Nat.add_zero] at q0
    rw [q0, q 1]
    exact ih
/-- an element, as it stands while the list is turned round: i are done at each end -/
def revAt (l : List Ed) (i m : Nat) : Ed := if m < i ∨ l.length - 1 - i < m then l.getD (l.length - 1 - m) (0, none_) else l.getD m (0, none_)
theorem rev_start (l : List Ed) {m : Nat} (h : m < l.length) : revAt l 0 m = l[m] := by
  unfold revAt; rw [if_neg (by omega), List.getD_eq_getElem?_getD, List.getElem?_eq_getElem h]; rfl
theorem rev_end (l : List Ed) {i m : Nat} (hm : m < l.length) (hi : l.length ≤ 2 * i + 1) : revAt l i m = l.reverse[m]'(by simpa using hm) := by
  rw [List.getElem_reverse]
  unfold revAt
  split
  · rw [List.getD_eq_getElem?_getD, List.getElem?_eq_getElem (by omega)]; rfl
  · have : l.length - 1 - m = m := by omega
    rw [List.getD_eq_getElem?_getD, List.getElem?_eq_getElem (by omega)]
    simp only [this]; rfl
theorem rev_i (l : List Ed) {i j : Nat} (hj : i + j + 1 = l.length) (hij : i < j) : revAt l (i + 1) i = revAt l i j ∧ revAt l (i + 1) j = revAt l i i := by
  unfold revAt
  rw [if_pos (by omega), if_neg (by omega), if_pos (by omega), if_neg (by omega)]
  constructor <;> congr 1 <;> omega
theorem rev_o (l : List Ed) {i j m : Nat} (hj : i + j + 1 = l.length) (h1 : m ≠ i) (h2 : m ≠ j) : revAt l (i + 1) m = revAt l i m := by
  unfold revAt
  by_cases h : m < i ∨ l.length - 1 - i < m
  · rw [if_pos h, if_pos (by omega)]
  · rw [if_neg h, if_neg (by omega)]
/-- the list, while it is turned round -/
structure Rev (l : List Ed) (B M g i : Nat) (w0 w : World) : Prop where
  old : Below B w0 w
  lo : B ≤ g
  fit : l.length * 2 ≤ M
  row : ∃ F, w.rowIs g 34 M F ∧ ∀ m, m < l.length → F (m * 2) = .int .i64 (revAt l i m).1 ∧ F (m * 2 + 1) = .string (revAt l i m).2
section
variable {l : List Ed} {B M g i : Nat} {w0 w : World}
theorem Rev.cell (h : Rev l B M g i w0 w) {k : Nat} (hk : k < l.length) : w.cell? ⟨g, k * 2, none⟩ = some (.int .i64 (revAt l i k).1) ∧ w.cell? ⟨g, k * 2 + 1, none⟩ = some (.string (revAt l i k).2) := by
  obtain ⟨F, hF, hv⟩ := h.row
  have := h.fit
  rw [hF.cell (by omega), hF.cell (by omega), (hv k hk).1, (hv k hk).2]; exact ⟨rfl, rfl⟩
theorem Rev.free (h : Rev l B M g i w0 w) (k : Nat) : w.frozen? ⟨g, k, none⟩ = false := by
  obtain ⟨F, hF, hv⟩ := h.row
  exact hF.frozen k
theorem Rev.swap (h : Rev l B M g i w0 w) {j : Nat} (hj : i + j + 1 = l.length) (hij : i < j) :
    Rev l B M g (i + 1) w0 ((((w.setCell ⟨g, i * 2, none⟩ (.int .i64 (revAt l i j).1)).setCell ⟨g, i * 2 + 1, none⟩ (.string (revAt l i j).2)).setCell ⟨g, j * 2, none⟩ (.int .i64 (revAt l i i).1)).setCell ⟨g, j * 2 + 1, none⟩ (.string (revAt l i i).2)) where
  old := (((h.old.setCell (p := ⟨g, i * 2, none⟩) h.lo _).setCell (p := ⟨g, i * 2 + 1, none⟩) h.lo _).setCell (p := ⟨g, j * 2, none⟩) h.lo _).setCell (p := ⟨g, j * 2 + 1, none⟩) h.lo _
  lo := h.lo
  fit := h.fit
  row := by
    obtain ⟨F, hF, hv⟩ := h.row
    obtain ⟨e1, e2⟩ := rev_i l hj hij
    refine ⟨_, (((hF.set (i * 2) _).set (i * 2 + 1) _).set (j * 2) _).set (j * 2 + 1) _, fun m hm => ?_⟩
    by_cases m1 : m = i
    · subst m1
      rw [e1]
      constructor
      · rw [if_neg (by omega), if_neg (by omega), if_neg (by omega), if_pos rfl]
      · rw [if_neg (by omega), if_neg (by omega), if_pos rfl]
    · by_cases m2 : m = j
      · subst m2
        rw [e2]
        constructor
        · rw [if_neg (by omega), if_pos rfl]
        · rw [if_pos rfl]
      · rw [rev_o l hj m1 m2]
        constructor
        · rw [if_neg (by omega), if_neg (by omega), if_neg (by omega), if_neg (by omega)]; exact (hv m hm).1
        · rw [if_neg (by omega), if_neg (by omega), if_neg (by omega), if_neg (by omega)]; exact (hv m hm).2
theorem Rev.drew (h : Rev l B M g i w0 w) : Rev l B M g i w0 w.drew := ⟨h.old.drew, h.lo, h.fit, by obtain ⟨F, hF, hv⟩ := h.row; exact ⟨F, hF.drew, hv⟩⟩
theorem Rev.start {n c : Nat} (h : w.ownsRow B 34 2 (.slice (some ⟨g, 0, none⟩) l.length c) l.length (edC l)) : ∃ M, Rev l B M g 0 w w ∧ c ≤ maxLen ∧ l.length ≤ c := by
  have hc := h.1
  rcases h.2 with ⟨h2, _⟩ | ⟨g', cap, cur, hv, hB, hh, hn, hcap, hs, ht⟩
  · exact absurd h2 (by simp)
  · simp only [Value.slice.injEq, Option.some.injEq, Addr.mk.injEq] at hv
    obtain ⟨⟨rfl, _⟩, _, rfl⟩ := hv
    refine ⟨cur.size, ⟨Below.refl _ _, hB, by omega, fun k => cur.getD k (.bool false), ⟨cur, hh, rfl, fun i hi => by simp [Array.getD, hi]⟩, fun m hm => ?_⟩, by omega, by omega⟩
    obtain ⟨e1, e2⟩ := edC_get l m hm
    rw [rev_start l hm]
    have get : ∀ j v, (edC l)[j]? = some v → cur.getD j (.bool false) = v := by
      intro j v hj
      rw [← ht] at hj
      rw [List.getElem?_take] at hj
      split at hj
      · rw [Array.getElem?_toList] at hj
        obtain ⟨hlt, e⟩ := Array.getElem?_eq_some_iff.1 hj
        simp [Array.getD, hlt, e]
      · cases hj
    exact ⟨get _ _ e1, get _ _ e2⟩
theorem Rev.done (h : Rev l B M g i w0 w) (hi : l.length ≤ 2 * i + 1) {c : Nat} (hc : l.length ≤ c) (hm : c ≤ maxLen) (hg : ∀ e ∈ l, I64 e.1 ∧ e.2.size ≤ maxLen) : Sl rEd w (fun b => b < w.heap.size) (some ⟨g, 0, none⟩) c l.reverse := by
  refine ⟨by simpa using hc, hm, fun k x hx => ?_⟩
  obtain ⟨hk, rfl⟩ := List.getElem?_eq_some_iff.1 hx
  have hk' : k < l.length := by simpa using hk
  obtain ⟨c1, c2⟩ := h.cell hk'
  rw [rev_end l hk' hi] at c1 c2
  obtain ⟨F, hF, _⟩ := h.row
  obtain ⟨g1, g2⟩ := hg _ (List.mem_reverse.1 (List.getElem_mem hk))
  generalize l.reverse[k] = x at *
  refine ⟨_, [.int .i64 x.1, .string x.2], rfl, hF.lt, ⟨_, _, rfl, ⟨rfl, g1⟩, ⟨rfl, g2⟩⟩, fun j z hz => ?_⟩
  have e : ∀ j, (⟨g, 0, none⟩ : Addr).add (k * rEd.size + j) = ⟨g, k * 2 + j, none⟩ := fun j => by
    rw [Addr.add_lit]; simp [rEd, rPair, rInt, rStr]
  rw [e]
  match j, hz with
  | 0, hz => simp at hz; subst hz; exact c1
  | 1, hz => simp at hz; subst hz; exact c2
end

set_option maxRecDepth 100000 in
set_option maxHeartbeats 4000000 in
theorem reverse_nil (A : Option Addr) (c : Nat) (w : World) :
    Calls Try.prog 14 #[.slice A 0 c] w fun e w' => e = .returned (.tuple #[]) ∧ w' = w := by
  go_enter Try.func14, Try.ntmps14
  go_wp2
  go_loopw [2, 3] (fun s2 s3 wr => s2 = .int .i64 0 ∧ s3 = .int .i64 (-1) ∧ wr = w) (fun _ _ _ => 0)
  case atStart => exact ⟨rfl, rfl, rfl⟩
  case round =>
    obtain ⟨rfl, rfl, rfl⟩ := hrel
    go_wp2
    go_end0
    exact ⟨rfl, rfl⟩

set_option maxRecDepth 100000 in
set_option maxHeartbeats 4000000 in
theorem reverse_any (l : List Ed) (B g c : Nat) (w : World) (hown : w.ownsRow B 34 2 (.slice (some ⟨g, 0, none⟩) l.length c) l.length (edC l)) (hlen : l.length ≤ 4294967296) (hg : ∀ e ∈ l, I64 e.1 ∧ e.2.size ≤ maxLen) :
    Calls Try.prog 14 #[.slice (some ⟨g, 0, none⟩) l.length c] w fun e w' => e = .returned (.tuple #[]) ∧ Sl rEd w' (fun b => b < w'.heap.size) (some ⟨g, 0, none⟩) c l.reverse ∧ Below B w w' := by
  obtain ⟨M, hrev, hcm, hlc⟩ := Rev.start (n := 0) hown
  have HR0 := Lib.hid hrev
  have HG := Lib.hid hg
  have hw1 : IntKind.i64.wrap ((l.length : Int) - 1) = (l.length : Int) - 1 := by rw [IntKind.wrap_i64]; omega
  have HC := Lib.hid (And.intro hcm hlc)
  clear hown hrev hg hcm hlc
  generalize hn : l.length = n at *
  go_enter Try.func14, Try.ntmps14
  go_wp2
  go_loopw [2, 3] (fun s2 s3 wr => ∃ (i : Nat) (jz : Int), 2 * i ≤ n ∧ s2 = .int .i64 (i : Int) ∧ s3 = .int .i64 jz ∧ jz = (n : Int) - 1 - i ∧ Hid (Rev l B M g i w wr)) (fun i _ _ => n - (intOf i).toNat)
  case atStart => exact ⟨0, _, by omega, rfl, rfl, by omega, HR0⟩
  case round =>
    obtain ⟨i, jz, hi, rfl, rfl, hjz, HR⟩ := hrel
    clear HR0
    by_cases hlt : (i : Int) < jz
    · obtain ⟨j, rfl⟩ : ∃ j : Nat, jz = (j : Int) := ⟨jz.toNat, by omega⟩
      have hij : i < j := by omega
      have hj : i + j + 1 = l.length := by omega
      obtain ⟨i1, i2⟩ := HR.out.cell (k := i) (by omega)
      obtain ⟨j1, j2⟩ := HR.out.cell (k := j) (by omega)
      have fi1 := HR.out.free (i * 2)
      have fi2 := HR.out.free (i * 2 + 1)
      have fj1 := HR.out.free (j * 2)
      have fj2 := HR.out.free (j * 2 + 1)
      have hb1 : (i : Int) < (n : Int) := by omega
      have hb2 : (j : Int) < (n : Int) := by omega
      have HN := Lib.hid (HR.out.drew.swap hj hij)
      generalize revAt l i i = x at *
      generalize revAt l i j = y at *
      obtain ⟨x1, x2⟩ := x
      obtain ⟨y1, y2⟩ := y
      dsimp only at i1 i2 j1 j2 HN
      have hJ := Lib.hid (And.intro hjz hj)
      clear HR hjz
      go_wp2_with fail
      go_region
      go_wp2
      go_roundw
      case rel => exact ⟨i + 1, _, by omega, by go_num, rfl, by have := hJ.out; omega, HN⟩
      case measure => simp [intOf]; omega
    · go_wp2
      go_end0
      exact ⟨rfl, HR.out.done (by omega) (by have := HC.out; omega) HC.out.1 HG.out, HR.out.old⟩
end Go.Proofs.Ytdepkpnicfcbiaa
