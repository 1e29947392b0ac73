/- Spelling: how far two texts are from each other: Far, by the program and by the document. -/
import Derived.Test.YtdepkpnicfcbiaaSp3
import Derived.BigQuiet
namespace Go.Proofs.Ytdepkpnicfcbiaa
open Go.RowKit

theorem elems_strs {w : World} {S : Nat → Prop} {xs : List ByteArray} (h : ∀ x ∈ xs, x.size ≤ maxLen) : Elems rStr w S (strs xs) xs := by
  refine ⟨by simp [strs, rStr], fun u hu => ?_, fun i x hx => ?_⟩
  · simp [strs] at hu; obtain ⟨x, _, rfl⟩ := hu; rfl
  · refine ⟨[.string x], ⟨rfl, h x (List.mem_of_getElem? hx)⟩, fun j z hz => ?_⟩
    have : j = 0 := by have := (List.getElem?_eq_some_iff.1 hz).1; simpa using this
    subst this
    simp at hz; subst hz
    simp [strs, rStr, hx]
theorem txts_mem (s : ByteArray) (hs : s.size ≤ 4294967296) : ∀ x ∈ txts s, x.size ≤ maxLen := by
  intro x hx
  unfold txts at hx
  obtain ⟨u, _, rfl⟩ := List.mem_map.1 hx
  have := txt1_size s u
  unfold maxLen; omega
theorem txts_sl {w : World} {B : Nat} {v : Value} {s : ByteArray} (hs : s.size ≤ 4294967296) (h : w.ownsRow B 9 1 v (txts s).length (strs (txts s))) :
    ∃ A c, v = .slice A (txts s).length c ∧ Sl rStr w (fun b => b < w.heap.size) A c (txts s) := by
  obtain ⟨A, c, rfl⟩ := own_slice h
  exact ⟨A, c, rfl, Sl.of_own h (elems_strs (txts_mem s hs)) (fun g hg => own_lt h g hg)⟩

set_option maxRecDepth 100000 in
set_option maxHeartbeats 4000000 in
theorem long_any (A : Option Addr) (n c : Nat) (w : World) :
    Calls Try.prog 12 #[.slice A n c] w fun e w' => e = .returned (.bool (decide ((200 : Int) < (n : Int)))) ∧ w' = w := by
  go_enter Try.func12, Try.ntmps12
  go_wp2
  go_ret
  exact ⟨rfl, rfl⟩

/-- what Far answers -/
def farOf (s t : ByteArray) : Int × Int := if 200 < (txts s).length ∨ 200 < (txts t).length then ((0 : Int), (2 : Int)) else (((dpI (txts s) (txts t) (txts s).length (txts t).length : Nat) : Int), 0)

set_option maxRecDepth 100000 in
set_option maxHeartbeats 4000000 in
theorem far_any (s t : ByteArray) (hs : s.size ≤ 4294967296) (ht : t.size ≤ 4294967296) (w : World) :
    Calls Try.prog 4 #[.string s, .string t] w fun e w' => e = .returned (.tuple #[.int .i64 (farOf s t).1, .int .i64 (farOf s t).2]) ∧ Below w.heap.size w w' := by
  have HF : Hid (farOf s t = if 200 < (txts s).length ∨ 200 < (txts t).length then ((0 : Int), (2 : Int)) else (((dpI (txts s) (txts t) (txts s).length (txts t).length : Nat) : Int), 0)) := Lib.hid rfl
  generalize farOf s t = ff at *
  go_enter Try.func4, Try.ntmps4
  go_wp2_with fail
  refine (units2_any s hs _).mono ?_
  rintro e w2 ⟨v, rfl, hown, hb2⟩
  obtain ⟨A, ca, rfl, hsl⟩ := txts_sl hs hown
  clear hown
  go_wp2_with fail
  refine (units2_any t ht _).mono ?_
  rintro e w3 ⟨v, rfl, hown, hb3⟩
  obtain ⟨B, cb, rfl, hsb⟩ := txts_sl ht hown
  clear hown
  have HP := Lib.hid ((hsl.below (fun _ h => h) hb3).more (fun b h => Nat.lt_of_lt_of_le h hb3.size))
  have HQ := Lib.hid hsb
  have HB := Lib.hid (hb2.trans (hb3.mono hb2.size))
  clear hsl hsb hb2 hb3
  generalize txts s = p at *
  generalize txts t = q at *
  by_cases hp : 200 < p.length
  · have hp1 : (decide ((200 : Int) < (p.length : Int))) = true := by simp; omega
    have HF := Lib.hid (HF.out.trans (if_pos (Or.inl hp)))
    go_wp2_with fail
    refine (long_any _ _ _ _).mono ?_
    rintro e w4 ⟨rfl, rfl⟩
    rw [hp1]
    go_wp2
    go_ret2
    rw [HF.out]
    exact ⟨rfl, HB.out⟩
  · have hp1 : (decide ((200 : Int) < (p.length : Int))) = false := by simp; omega
    by_cases hq : 200 < q.length
    · have hq1 : (decide ((200 : Int) < (q.length : Int))) = true := by simp; omega
      have HF := Lib.hid (HF.out.trans (if_pos (Or.inr hq)))
      go_wp2_with fail
      refine (long_any _ _ _ _).mono ?_
      rintro e w4 ⟨rfl, rfl⟩
      rw [hp1]
      go_wp2_with fail
      refine (long_any _ _ _ _).mono ?_
      rintro e w4 ⟨rfl, rfl⟩
      rw [hq1]
      go_wp2
      go_ret2
      rw [HF.out]
      exact ⟨rfl, HB.out⟩
    · have hq1 : (decide ((200 : Int) < (q.length : Int))) = false := by simp; omega
      have HF := Lib.hid (HF.out.trans (if_neg (fun h => Or.elim h hp hq)))
      go_wp2_with fail
      refine (long_any _ _ _ _).mono ?_
      rintro e w4 ⟨rfl, rfl⟩
      rw [hp1]
      go_wp2_with fail
      refine (long_any _ _ _ _).mono ?_
      rintro e w4 ⟨rfl, rfl⟩
      rw [hq1]
      go_wp2_with fail
      refine (table_any _ _ _ _ _ _ _ _ HP.out HQ.out (fun _ h => h) (by omega) (by omega)).mono ?_
      rintro e w5 ⟨ob, G, f, rfl, hT, hW⟩
      have oi := hT.ocell (k := p.length) (by omega) (by omega)
      have hcl := hT.cell (k := p.length) (j := q.length) (by omega) (by omega)
      rw [hW.1 p.length q.length (by omega) (by omega)] at hcl
      have HB5 := Lib.hid (HB.out.trans (hT.old.mono HB.out.size))
      clear hT hW
      have hl1 : (p.length : Int) < (p.length : Int) + 1 := by omega
      have hl2 : (q.length : Int) < (q.length : Int) + 1 := by omega
      go_wp2
      go_ret2
      rw [HF.out]
      exact ⟨rfl, HB5.out⟩

/-- two rows: one is done, of the other one j are done -/
structure Two (p q : List ByteArray) (w0 w : World) (rb nb i j : Nat) (g : Nat → Int) : Prop where
  old : Below w0.heap.size w0 w
  row : w.rowIs rb 3 (q.length + 1) (fun l => .int .i64 (dpI p q i l : Nat))
  nxt : w.rowIs nb 3 (q.length + 1) (fun l => .int .i64 (g l))
  done : ∀ l, l ≤ j → g l = (dpI p q (i + 1) l : Nat)
  ne : rb ≠ nb
  rlo : w0.heap.size ≤ rb
  nlo : w0.heap.size ≤ nb
theorem alloc_set0 (w : World) (c : Array Value) (t : TypeId) (v : Value) : (w.alloc (.cells c t)).setCell ⟨w.heap.size, 0, none⟩ v = w.alloc (.cells (c.setIfInBounds 0 v) t) := by
  have h : (w.heap.push (Obj.cells c t)).modify w.heap.size (fun
      | .cells c elem frozen => .cells (if (none : Option Nat).isSome then c else c.setIfInBounds 0 v) elem frozen
      | o => o) = w.heap.push (Obj.cells (c.setIfInBounds 0 v) t) := by
    apply Array.ext (by simp)
    intro i h1 h2
    rw [Array.getElem_modify, Array.getElem_push, Array.getElem_push]
    by_cases e : i < w.heap.size
    · simp [e]; omega
    · have : i = w.heap.size := by simp at h2; omega
      subst this
      simp
  exact congrArg (fun x => ({ w with heap := x } : World)) h
section
variable {p q : List ByteArray} {w0 w w' : World} {rb nb i j : Nat} {g : Nat → Int}
theorem Two.start (hb : Below w0.heap.size w0 w) (hr : w.rowIs rb 3 (q.length + 1) (fun l => .int .i64 (dpI p q i l : Nat))) (hl : w0.heap.size ≤ rb) :
    Two p q w0 ((w.alloc (.cells (madeCells #[.int .i64 0] (q.length + 1)) 3)).setCell ⟨w.heap.size, 0, none⟩ (.int .i64 ((i : Int) + 1))) rb w.heap.size i 0 (fun l => if l = 0 then (i : Int) + 1 else 0) where
  old := (hb.alloc hb.size _).setCell (p := ⟨w.heap.size, 0, none⟩) (show w0.heap.size ≤ w.heap.size from hb.size) _
  row := (hr.alloc _).setOther (show rb ≠ w.heap.size by have := hr.lt; omega) _
  nxt := ((World.rowIs_made w (.int .i64 0) (q.length + 1) _).set 0 _).congr fun l _ => by by_cases h : l = 0 <;> simp [h]
  done l hl := by
    have : l = 0 := by omega
    subst this
    rw [if_pos rfl, dpI_left]; omega
  ne := by have := hr.lt; omega
  rlo := hl
  nlo := hb.size
theorem Two.below (h : Two p q w0 w rb nb i j g) (hb : Below w.heap.size w w') : Two p q w0 w' rb nb i j g where
  old := h.old.trans (hb.mono h.old.size)
  row := h.row.of_block (hb.block _ h.row.lt)
  nxt := h.nxt.of_block (hb.block _ h.nxt.lt)
  done := h.done
  ne := h.ne
  rlo := h.rlo
  nlo := h.nlo
theorem Two.put (h : Two p q w0 w rb nb i j g) {jn : Nat} (hj : j + 1 = jn) {v : Int} (hv : v = (dpI p q (i + 1) jn : Nat)) : Two p q w0 (w.setCell ⟨nb, jn, none⟩ (.int .i64 v)) rb nb i jn (updN g jn v) where
  old := h.old.setCell (p := ⟨nb, jn, none⟩) h.nlo _
  row := h.row.setOther h.ne _
  nxt := (h.nxt.set jn _).congr fun l _ => by unfold updN; by_cases e : l = jn <;> simp [e]
  done l hl := by
    by_cases e : l = jn
    · subst e; rw [updN_at]; exact hv
    · rw [updN_ne _ _ e]; exact h.done l (by omega)
  ne := h.ne
  rlo := h.rlo
  nlo := h.nlo
theorem Two.next (h : Two p q w0 w rb nb i q.length g) : w.rowIs nb 3 (q.length + 1) (fun l => .int .i64 (dpI p q (i + 1) l : Nat)) := h.nxt.congr fun l hl => by rw [h.done l (by omega)]
end

set_option maxRecDepth 100000 in
set_option maxHeartbeats 4000000 in
theorem rFar_any (S : Nat → Prop) (A B : Option Addr) (ca cb : Nat) (p q : List ByteArray) (w : World) (hp : Sl rStr w S A ca p) (hq : Sl rStr w S B cb q) (hS : ∀ b, S b → b < w.heap.size) (hpl : p.length ≤ 200) (hql : q.length ≤ 200) :
    Calls Try.prog 10 #[.slice A p.length ca, .slice B q.length cb] w fun e w' => e = .returned (.int .i64 (dpI p q p.length q.length : Nat)) ∧ Below w.heap.size w w' := by
  have hca := hp.le; have hcam := hp.max; have hcb := hq.le; have hcbm := hq.max
  unfold maxLen at hcam hcbm
  have HP := Lib.hid hp
  have HQ := Lib.hid hq
  have HS := Lib.hid hS
  clear hp hq hS
  have hmk1 : ∀ w : World, (Instr.makeSlice 38 (.int .i64 ((q.length : Int) + 1)) (.int .i64 ((q.length : Int) + 1))).run Try.prog w = .ok (.slice (some ⟨w.heap.size, 0, none⟩) (q.length + 1) (q.length + 1)) (w.alloc (.cells (madeCells #[.int .i64 0] (q.length + 1)) 3)) := fun w => by
    have := run_make_row' (P := Try.prog) 38 3 (.int .i64 0) 8 Try.underlying38 infoINT rfl .i64 .i64 (q.length + 1) (by omega) (by omega) w
    rwa [Int.natCast_add, Int.natCast_one] at this
  have HR0 : Hid ((w.alloc (.cells (madeCells #[.int .i64 0] (q.length + 1)) 3)).rowIs w.heap.size 3 (q.length + 1) (fun l => .int .i64 ((fun _ => 0 : Nat → Int) l))) := Lib.hid (World.rowIs_made w (.int .i64 0) (q.length + 1) _)
  have HB0 : Hid (Below w.heap.size w (w.alloc (.cells (madeCells #[.int .i64 0] (q.length + 1)) 3))) := Lib.hid ((Below.refl _ _).alloc (Nat.le_refl _) _)
  go_enter Try.func10, Try.ntmps10
  go_wp2
  generalize hob : w.heap.size = ob at *
  generalize World.alloc w _ = w2 at *
  go_loopw [6] (fun j wr => ∃ l : Nat, l ≤ q.length + 1 ∧ j = .int .i64 (l : Int) ∧ Hid (Below ob w wr) ∧ ∃ g : Nat → Int, Hid (wr.rowIs ob 3 (q.length + 1) (fun l => .int .i64 (g l))) ∧ Hid (∀ k, k < l → g k = k)) (fun j _ => (q.length + 1) - (intOf j).toNat)
  case atStart => exact ⟨0, by omega, rfl, HB0, _, HR0, Lib.hid (fun k hk => by omega)⟩
  case round =>
    obtain ⟨l, hl, rfl, HB, g, HR, HG⟩ := hrel
    clear HR0 HB0
    by_cases hlt : l < q.length + 1
    · have hcl := HR.out.cell hlt
      have hfr := HR.out.frozen l
      have hle : (l : Int) ≤ (q.length : Int) := by omega
      go_wp2
      go_roundw
      case rel => exact ⟨l + 1, by omega, by go_num, Lib.hid (HB.out.setCell (p := ⟨ob, l, none⟩) (Nat.le_refl _) _), updN g l (l : Int), Lib.hid ((HR.out.set l _).congr fun k _ => by unfold updN; by_cases e : k = l <;> simp [e]), Lib.hid (fun k hk => by
        by_cases e : k = l
        · subst e; exact updN_at _ _ _
        · rw [updN_ne _ _ e]; exact HG.out k (by omega))⟩
      case measure => simp [intOf]; omega
    · have hll : l = q.length + 1 := by omega
      subst hll
      have HRW : Hid (wr.rowIs ob 3 (q.length + 1) (fun l => .int .i64 (dpI p q 0 l : Nat))) := Lib.hid (HR.out.congr fun k hk => by rw [HG.out k hk, dpI_zero])
      clear HR HG
      have hgt : ¬ ((q.length + 1 : Nat) : Int) ≤ (q.length : Int) := by omega
      go_wp2
      obtain ⟨w4, hw4⟩ : ∃ w4, w4 = wr := ⟨_, rfl⟩
      subst hw4
      go_loopw [5, 7] (fun rv iv wr => ∃ i : Nat, i ≤ p.length ∧ iv = .int .i64 (i : Int) ∧ Hid (Below ob w wr) ∧ ∃ rb : Nat, rv = .slice (some ⟨rb, 0, none⟩) (q.length + 1) (q.length + 1) ∧ ob ≤ rb ∧ Hid (wr.rowIs rb 3 (q.length + 1) (fun l => .int .i64 (dpI p q i l : Nat)))) (fun _ iv _ => p.length - (intOf iv).toNat)
      case atStart => exact ⟨0, by omega, rfl, HB, ob, rfl, Nat.le_refl _, HRW⟩
      case round =>
        obtain ⟨i, hi, rfl, HB, rb, rfl, hrb, HRW⟩ := hrel
        by_cases hlt : i < p.length
        · have HT0 := Lib.hid (Two.start (by rw [hob]; exact HB.out) HRW.out (by rw [hob]; exact hrb))
          rw [alloc_set0] at HT0
          have hsz : ob ≤ wr.heap.size := by have h := HB.out.size; omega
          have hc0 : (wr.alloc (.cells (madeCells #[.int .i64 0] (q.length + 1)) 3)).cell? ⟨wr.heap.size, 0, none⟩ = some (.int .i64 0) := (World.rowIs_made wr (.int .i64 0) (q.length + 1) _).cell (by omega)
          have hf0 : (wr.alloc (.cells (madeCells #[.int .i64 0] (q.length + 1)) 3)).frozen? ⟨wr.heap.size, 0, none⟩ = false := (World.rowIs_made wr (.int .i64 0) (q.length + 1) _).frozen 0
          have hwi : IntKind.i64.wrap ((i : Int) + 1) = (i : Int) + 1 := by rw [IntKind.wrap_i64]; omega
          have hq0 : (0 : Int) < (q.length : Int) + 1 := by omega
          clear HB HRW
          go_wp2
          clear hc0 hf0
          generalize hnb : wr.heap.size = nb at *
          generalize World.alloc wr _ = w5 at *
          clear hnb
          go_loopw [9] (fun jv wr => ∃ j : Nat, j ≤ q.length ∧ jv = .int .i64 (j : Int) ∧ ∃ g, Hid (Two p q w wr rb nb i j g)) (fun jv _ => q.length - (intOf jv).toNat)
          case atStart => exact ⟨0, by omega, rfl, _, HT0⟩
          case round =>
            obtain ⟨j, hj, rfl, g, HT⟩ := hrel
            clear HT0
            by_cases hltj : j < q.length
            · obtain ⟨jn, hjn⟩ : ∃ jn : Nat, j + 1 = jn := ⟨_, rfl⟩
              have ej : (j : Int) + 1 = (jn : Int) := by omega
              have hwj : IntKind.i64.wrap (jn : Int) = (jn : Int) := by rw [IntKind.wrap_i64]; omega
              have hjs : (j : Int) < (q.length : Int) + 1 := by omega
              have hjs2 : (jn : Int) < (q.length : Int) + 1 := by omega
              have cd := HT.out.row.cell (i := j) (by omega)
              have cu := HT.out.row.cell (i := jn) (by omega)
              have cl := HT.out.nxt.cell (i := j) (by omega)
              have cn := HT.out.nxt.cell (i := jn) (by omega)
              have fn := HT.out.nxt.frozen jn
              rw [HT.out.done j (by omega)] at cl
              have hdp := dpI_succ p q i j
              rw [hjn] at hdp
              have b0 := dpI_le p q i j
              have b1 := dpI_le p q i jn
              have b2 := dpI_le p q (i + 1) j
              have hbl : Below w.heap.size w wr := HT.out.old
              obtain ⟨ap, rfl, _, _, ca0⟩ := str_at (HP.out.below (fun b hb => by rw [hob]; exact HS.out b hb) hbl) (k := i) (by omega)
              obtain ⟨aq, rfl, _, _, cb0⟩ := str_at (HQ.out.below (fun b hb => by rw [hob]; exact HS.out b hb) hbl) (k := j) (by omega)
              rw [List.getElem?_eq_getElem hlt, List.getElem?_eq_getElem hltj] at hdp
              generalize p[i]'(by omega) = sp at *
              generalize q[j]'(by omega) = sq at *
              generalize hx0 : dpI p q i j = x0 at *
              generalize hx1 : dpI p q i jn = x1 at *
              generalize hx2 : dpI p q (i + 1) j = x2 at *
              have hb0' : x0 ≤ 400 := by omega
              have hb1' : x1 ≤ 400 := by omega
              have hb2' : x2 ≤ 402 := by omega
              have hwx0 : IntKind.i64.wrap ((x0 : Int) + 1) = (x0 : Int) + 1 := by rw [IntKind.wrap_i64]; omega
              have hwx1 : IntKind.i64.wrap ((x1 : Int) + 1) = (x1 : Int) + 1 := by rw [IntKind.wrap_i64]; omega
              have hwx2 : IntKind.i64.wrap ((x2 : Int) + 1) = (x2 : Int) + 1 := by rw [IntKind.wrap_i64]; omega
              clear hx0 hx1 hx2 hbl b0 b1 b2
              by_cases hsame : sp = sq
              · subst hsame
                rw [if_pos rfl, Nat.add_zero] at hdp
                go_wp2_with fail
                go_quiet (fail)
                have HT5 := Lib.hid (HT.out.below (below_drewN (Below.refl wr.heap.size wr) nq))
                have cd : (World.drewN wr nq).cell? ⟨rb, j, none⟩ = _ := cd
                have cu : (World.drewN wr nq).cell? ⟨rb, jn, none⟩ = _ := cu
                have cl : (World.drewN wr nq).cell? ⟨nb, j, none⟩ = _ := cl
                have cn : (World.drewN wr nq).cell? ⟨nb, jn, none⟩ = _ := cn
                have fn : (World.drewN wr nq).frozen? ⟨nb, jn, none⟩ = _ := fn
                clear HT ca0 cb0
                generalize World.drewN wr nq = w6 at *
                go_wp2
                all_goals (go_roundw; (case rel => exact ⟨jn, by omega, by go_num, _, Lib.hid (HT5.out.put hjn (by rw [hdp]; omega))⟩); (case measure => simp [intOf]; omega))
              · have hne : (sp.toList == sq.toList) = false := str_ne hsame
                rw [if_neg (fun e => hsame (Option.some.inj e))] at hdp
                go_wp2_with fail
                go_quiet (fail)
                have HT5 := Lib.hid (HT.out.below (below_drewN (Below.refl wr.heap.size wr) nq))
                have cd : (World.drewN wr nq).cell? ⟨rb, j, none⟩ = _ := cd
                have cu : (World.drewN wr nq).cell? ⟨rb, jn, none⟩ = _ := cu
                have cl : (World.drewN wr nq).cell? ⟨nb, j, none⟩ = _ := cl
                have cn : (World.drewN wr nq).cell? ⟨nb, jn, none⟩ = _ := cn
                have fn : (World.drewN wr nq).frozen? ⟨nb, jn, none⟩ = _ := fn
                clear HT ca0 cb0
                generalize World.drewN wr nq = w6 at *
                go_wp2
                all_goals (go_roundw; (case rel => exact ⟨jn, by omega, by go_num, _, Lib.hid (HT5.out.put hjn (by rw [hdp]; omega))⟩); (case measure => simp [intOf]; omega))
            · have hjj : j = q.length := by omega
              subst hjj
              have HRn := Lib.hid HT.out.next
              have HBn := Lib.hid HT.out.old
              have hnl := HT.out.nlo
              clear HT
              go_wp2
              go_roundw
              case rel => exact ⟨i + 1, by omega, by go_num, (by rw [hob] at HBn; exact HBn), nb, rfl, by omega, HRn⟩
              case measure => simp [intOf]; omega
        · have hii : i = p.length := by omega
          subst hii
          have hcl := HRW.out.cell (i := q.length) (by omega)
          have hq2 : (q.length : Int) < (q.length : Int) + 1 := by omega
          go_wp2
          go_ret
          exact ⟨rfl, by rw [hob]; exact HB.out⟩
end Go.Proofs.Ytdepkpnicfcbiaa
