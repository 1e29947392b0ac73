/- Walks: Tell. -/
import Derived.Test.YtmghigmegiainaaTkD
namespace Go.Proofs.Ytmghigmegiainaa
open Go.RowKit

def flatT (l : List Told) : List Value := l.flatMap Told.cells
theorem flatT_len (l : List Told) : (flatT l).length = l.length * 5 := by
  induction l with
  | nil => rfl
  | cons e r ih => simp only [flatT, List.flatMap_cons, List.length_append, List.length_cons] at ih ⊢; rw [ih]; simp [Told.cells]; omega
theorem flatT_snoc (l : List Told) (x : Told) : flatT (l ++ [x]) = flatT l ++ x.cells := by simp [flatT]
theorem one_told (x : Told) : ∀ u ∈ x.cells, u.oneCell' = true := by
  intro u hu; simp [Told.cells] at hu; rcases hu with rfl | rfl | rfl | rfl | rfl <;> rfl
theorem elems_told {w : World} {S : Nat → Prop} {l : List Told} (h : ∀ x ∈ l, x.fits) : Elems rTold w S (flatT l) l := by
  induction l with
  | nil => exact Elems.nil_
  | cons x r ih =>
    have h1 : Elems rTold w S x.cells [x] := Elems.single (ρ := rTold) ⟨rfl, h x (by simp)⟩
    exact h1.app (ih fun y hy => h y (by simp [hy]))
theorem told_of_elems {w : World} {S : Nat → Prop} {cs : List Value} {l : List Told} (h : Elems rTold w S cs l) : cs = flatT l ∧ ∀ x ∈ l, x.fits := by
  obtain ⟨h1, _, h3⟩ := h
  have hs : rTold.size = 5 := rfl
  simp only [hs] at h1 h3
  refine ⟨List.ext_getElem? fun i => ?_, fun x hx => ?_⟩
  · by_cases hi : i < l.length * 5
    · have hk : i / 5 < l.length := by omega
      obtain ⟨u, ⟨rfl, _⟩, hc⟩ := h3 (i / 5) _ (List.getElem?_eq_getElem hk)
      obtain ⟨_, _, g3⟩ := elems_told (w := w) (S := S) (l := l) fun x hx => by
        obtain ⟨i, hi⟩ := List.getElem?_of_mem hx
        obtain ⟨u, ⟨_, h⟩, _⟩ := h3 i x hi
        exact h
      obtain ⟨u', ⟨rfl, _⟩, gc⟩ := g3 (i / 5) _ (List.getElem?_eq_getElem hk)
      have hz := List.getElem?_eq_getElem (l := (l[i / 5]'hk).cells) (i := i % 5) (by simp [Told.cells]; omega)
      have a := hc _ _ hz
      have b := gc _ _ hz
      simp only [hs] at b
      rw [show i / 5 * 5 + i % 5 = i from by omega] at a b
      rw [a, b]
    · rw [List.getElem?_eq_none (by omega), List.getElem?_eq_none (by rw [flatT_len]; omega)]
  · obtain ⟨i, hi⟩ := List.getElem?_of_mem hx
    obtain ⟨u, ⟨_, h⟩, _⟩ := h3 i x hi
    exact h
theorem reads_new1 (w : World) (x : Told) (t : Nat) : Reads (w.alloc (.cells #[.int .i64 x.slot, .int .i64 x.ver, .int .i64 x.who, .string x.val, .bool x.opn] t)) (w.heap.size + 1) 5 (some ⟨w.heap.size, 0, none⟩) 1 x.cells :=
  ⟨rfl, fun _ => ⟨_, rfl, by simp, cells_new w x.cells _⟩⟩
theorem reads_new2 (w : World) (o : Obj) (x : Told) (t : Nat) : Reads ((w.alloc o).alloc (.cells #[.int .i64 x.slot, .int .i64 x.ver, .int .i64 x.who, .string x.val, .bool x.opn] t)) (w.heap.size + 1 + 1) 5 (some ⟨w.heap.size + 1, 0, none⟩) 1 x.cells := by
  have := reads_new1 (w.alloc o) x t
  rwa [World.size_alloc] at this
/-- a row of told entries that is the call's own -/
def ToldRow (w : World) (base : Nat) (v : Value) (l : List Told) : Prop := w.ownsRow base 44 5 v l.length (flatT l) ∧ ∀ x ∈ l, x.fits
theorem ToldRow.nil_ (w : World) (base : Nat) : ToldRow w base (.slice none 0 0) [] := ⟨ownsRow_none _ _ _ _, by simp⟩
theorem ToldRow.sl {w : World} {base : Nat} {v : Value} {l : List Told} (h : ToldRow w base v l) : ∃ A c, v = .slice A l.length c ∧ Sl rTold w (fun b => base ≤ b ∧ b < w.heap.size) A c l ∧ w.ownsRow base 44 5 (.slice A l.length c) l.length (flatT l) := by
  obtain ⟨A, c, rfl⟩ := own_slice h.1
  exact ⟨A, c, rfl, Sl.of_own (ρ := rTold) h.1 (elems_told h.2) fun g hg => ⟨own_ge h.1 g hg, own_lt h.1 g hg⟩, h.1⟩
theorem ToldRow.below {w w' : World} {base : Nat} {v : Value} {l : List Told} (h : ToldRow w base v l) (hb : Below w.heap.size w w') : ToldRow w' base v l := ⟨own_below_all h.1 hb, h.2⟩
theorem ToldRow.grown {w w' : World} {base : Nat} {v : Value} {l : List Told} {row : Option Nat} (h : ToldRow w base v l) (hg : w.grownBy w' row) (hne : v.ownBlock = none ∨ v.ownBlock ≠ row) : ToldRow w' base v l := ⟨h.1.kept hg hne, h.2⟩
theorem tellL_next {es : List Ent} {k : Nat} (hk : k < es.length) : tellL (es.take (k + 1)) = tellL (es.take k) ++ (es[k]'hk).says := by
  unfold tellL; rw [List.take_succ_eq_append_getElem hk, List.flatMap_append]; simp
theorem tellL_le (es : List Ent) : (tellL es).length ≤ es.length := by
  induction es with
  | nil => simp [tellL]
  | cons e r ih => simp only [tellL, List.flatMap_cons, List.length_append, List.length_cons] at ih ⊢; have : e.says.length ≤ 1 := by (unfold Ent.says; split <;> simp)
                   omega

set_option maxHeartbeats 4000000 in
theorem tell_any (g gs c : Nat) (who : Int) (es : List Ent) (w : World) (h : Tk w 54 56 g gs c who es) (hlen : es.length ≤ 20) :
    Calls Try.prog 16 #[.pointer (some ⟨g, 0, none⟩)] w fun e w' => (∃ v, e = .returned v ∧ ToldRow w' w.heap.size v (tellL es)) ∧ Below w.heap.size w w' := by
  obtain ⟨c0, c1⟩ := blk2 h.head
  obtain ⟨i0, hinf, hz0, hz1, hz2⟩ := info_parts infoTO
  have hle := h.row.le
  unfold maxLen at hle
  have HT := Lib.hid h
  clear h
  go_enter Try.func16, Try.ntmps16
  go_wp2
  go_loopw [3, 11] (fun v i wr => ∃ k : Nat, k ≤ es.length ∧ i = .int .i64 (k : Int) ∧ Hid (Below w.heap.size w wr) ∧ Hid (ToldRow wr w.heap.size v (tellL (es.take k)))) (fun _ i _ => es.length - (intOf i).toNat)
  case atStart => exact ⟨0, by omega, rfl, Lib.hid (Below.refl _ _), Lib.hid (ToldRow.nil_ _ _)⟩
  case round =>
    obtain ⟨k, hk, rfl, HX, HR⟩ := hrel
    by_cases hlt : k < es.length
    · have hrow := HT.out.row.below HX.out
      obtain ⟨d0, d1, d2, d3, d4, d5, d6⟩ := hrow.seven _ hlt
      have HN := Lib.hid (tellL_next hlt)
      have HF := Lib.hid (hrow.fits hlt)
      have hcnt := tellL_le (es.take k)
      rw [List.length_take] at hcnt
      clear hrow c0 c1
      generalize es[k]'hlt = x at *
      generalize tellL (es.take k) = l at *
      have HX2 := Lib.hid (HX.out.alloc HX.out.size (.cells #[.int .i64 x.t.slot, .int .i64 x.t.ver, .int .i64 x.t.who, .string x.t.val, .bool x.t.opn, .bool x.known, .bool x.owed] 56))
      have HR2 := Lib.hid (HR.out.below ((Below.refl wr.heap.size wr).alloc (Nat.le_refl _) (.cells #[.int .i64 x.t.slot, .int .i64 x.t.ver, .int .i64 x.t.who, .string x.t.val, .bool x.t.opn, .bool x.known, .bool x.owed] 56)))
      by_cases hv : 0 < x.t.ver
      · have HS : Hid (x.says = [x.t]) := Lib.hid (by unfold Ent.says; rw [if_pos hv])
        have ho2 := HR2.out.1.alloc (.cells #[.int .i64 x.t.slot, .int .i64 x.t.ver, .int .i64 x.t.who, .string x.t.val, .bool x.t.opn] 44)
        have HX3 := Lib.hid (HX2.out.alloc HX2.out.size (.cells #[.int .i64 x.t.slot, .int .i64 x.t.ver, .int .i64 x.t.who, .string x.t.val, .bool x.t.opn] 44))
        have hwz := HX2.out.size
        have hge := own_ge HR.out.1
        go_wp2_with (at_builtin; refine unhide ?_)
        unfold Hid
        refine wpList_append_any _ rfl _ _ 36 rfl w.heap.size 44 i0 _ 5 48 Try.underlying36 hinf hz0 hz1 hz2 rfl (by omega) u3 _ _ rfl ho2 (wr.heap.size + 1 + 1) (some ⟨wr.heap.size + 1, 0, none⟩) 1 1 (x.t.cells) rfl (reads_new2 _ _ _ _) (one_told _) (by unfold maxLen; omega) (by omega) (by have h8 := hwz; (try simp only [World.size_alloc] at h8); simp only [World.size_alloc]; omega) ?_
        intro v5 w5 hown5 hg5 hat5
        have HX5 := Lib.hid (HX3.out.grown hg5 (by simp only [World.size_alloc]; have := HX.out.size; omega) (by intro g hg; exact hge _ hg))
        have HR5 : Hid (ToldRow w5 w.heap.size v5 (l ++ [x.t])) := Lib.hid ⟨by rw [flatT_snoc, List.length_append]; exact hown5, fun y hy => by
          rcases List.mem_append.1 hy with hy | hy
          · exact HR.out.2 y hy
          · simp at hy; subst hy; exact HF.out⟩
        clear hown5 hg5 hat5 ho2 hge
        go_wp2
        go_roundw
        case rel => exact ⟨k + 1, by omega, by go_num, HX5, by rw [HN.out, HS.out]; exact HR5⟩
        case measure => simp [intOf]; omega
      · have HS : Hid (x.says = []) := Lib.hid (by unfold Ent.says; rw [if_neg hv])
        go_wp2
        go_roundw
        case rel => exact ⟨k + 1, by omega, by go_num, HX2, by rw [HN.out, HS.out, List.append_nil]; exact HR2⟩
        case measure => simp [intOf]; omega
    · have HE : Hid (es.take k = es) := Lib.hid (List.take_of_length_le (by omega))
      rw [HE.out] at HR
      go_wp2
      go_ret
      exact ⟨⟨_, rfl, HR.out⟩, HX.out⟩

set_option maxHeartbeats 4000000 in
theorem rTell_any (g gs c : Nat) (who : Int) (es : List Ent) (w : World) (h : Tk w 59 61 g gs c who es) (hlen : es.length ≤ 20) :
    Calls Try.prog 17 #[.pointer (some ⟨g, 0, none⟩)] w fun e w' => (∃ v, e = .returned v ∧ ToldRow w' w.heap.size v (tellL es)) ∧ Below w.heap.size w w' := by
  obtain ⟨i0, hinf, hz0, hz1, hz2⟩ := info_parts infoTO
  have hle := h.row.le
  unfold maxLen at hle
  have HT := Lib.hid h
  clear h
  go_enter Try.func17, Try.ntmps17
  go_wp2
  go_loopw [3, 4] (fun v i wr => ∃ k : Nat, k ≤ es.length ∧ i = .int .i64 (k : Int) ∧ Hid (Below w.heap.size w wr) ∧ Hid (ToldRow wr w.heap.size v (tellL (es.take k)))) (fun _ i _ => es.length - (intOf i).toNat)
  case atStart => exact ⟨0, by omega, rfl, Lib.hid (Below.refl _ _), Lib.hid (ToldRow.nil_ _ _)⟩
  case round =>
    obtain ⟨k, hk, rfl, HX, HR⟩ := hrel
    obtain ⟨c0, c1⟩ := blk2 (HT.out.below HX.out).head
    by_cases hlt : k < es.length
    · have hrow := HT.out.row.below HX.out
      obtain ⟨d0, d1, d2, d3, d4, d5, d6⟩ := hrow.seven _ hlt
      have HN := Lib.hid (tellL_next hlt)
      have HF := Lib.hid (hrow.fits hlt)
      have hcnt := tellL_le (es.take k)
      rw [List.length_take] at hcnt
      clear hrow
      generalize es[k]'hlt = x at *
      generalize tellL (es.take k) = l at *
      by_cases hv : 0 < x.t.ver
      · have HS : Hid (x.says = [x.t]) := Lib.hid (by unfold Ent.says; rw [if_pos hv])
        have ho2 := HR.out.1.alloc (.cells #[.int .i64 x.t.slot, .int .i64 x.t.ver, .int .i64 x.t.who, .string x.t.val, .bool x.t.opn] 44)
        have HX3 := Lib.hid (HX.out.alloc HX.out.size (.cells #[.int .i64 x.t.slot, .int .i64 x.t.ver, .int .i64 x.t.who, .string x.t.val, .bool x.t.opn] 44))
        have hwz := HX.out.size
        have hge := own_ge HR.out.1
        go_wp2_with (at_builtin; refine unhide ?_)
        unfold Hid
        refine wpList_append_any _ rfl _ _ 36 rfl w.heap.size 44 i0 _ 5 48 Try.underlying36 hinf hz0 hz1 hz2 rfl (by omega) u3 _ _ rfl ho2 (wr.heap.size + 1) (some ⟨wr.heap.size, 0, none⟩) 1 1 (x.t.cells) rfl (reads_new1 _ _ _) (one_told _) (by unfold maxLen; omega) (by omega) (by have h8 := hwz; (try simp only [World.size_alloc] at h8); simp only [World.size_alloc]; omega) ?_
        intro v5 w5 hown5 hg5 hat5
        have HX5 := Lib.hid (HX3.out.grown hg5 (by simp only [World.size_alloc]; have := HX.out.size; omega) (by intro g hg; exact hge _ hg))
        have HR5 : Hid (ToldRow w5 w.heap.size v5 (l ++ [x.t])) := Lib.hid ⟨by rw [flatT_snoc, List.length_append]; exact hown5, fun y hy => by
          rcases List.mem_append.1 hy with hy | hy
          · exact HR.out.2 y hy
          · simp at hy; subst hy; exact HF.out⟩
        clear hown5 hg5 hat5 ho2 hge
        go_wp2
        go_roundw
        case rel => exact ⟨k + 1, by omega, by go_num, HX5, by rw [HN.out, HS.out]; exact HR5⟩
        case measure => simp [intOf]; omega
      · have HS : Hid (x.says = []) := Lib.hid (by unfold Ent.says; rw [if_neg hv])
        go_wp2
        go_roundw
        case rel => exact ⟨k + 1, by omega, by go_num, HX, by rw [HN.out, HS.out, List.append_nil]; exact HR⟩
        case measure => simp [intOf]; omega
    · have HE : Hid (es.take k = es) := Lib.hid (List.take_of_length_le (by omega))
      rw [HE.out] at HR
      go_wp2
      go_ret
      exact ⟨⟨_, rfl, HR.out⟩, HX.out⟩
end Go.Proofs.Ytmghigmegiainaa
