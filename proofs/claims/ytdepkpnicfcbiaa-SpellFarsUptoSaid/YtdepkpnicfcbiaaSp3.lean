/- Spelling: how far the beginnings of two texts are from each other: the table. -/
import Derived.Test.YtdepkpnicfcbiaaSp2
import Derived.Deep.OwnRows
namespace Go.Proofs.Ytdepkpnicfcbiaa
open Go.RowKit

/-- how far the first i units of one text are from the first j of another one -/
def dpI (p q : List ByteArray) : Nat → Nat → Nat
  | 0, j => j
  | i + 1, 0 => i + 1
  | i + 1, j + 1 => min (min (dpI p q i j + if p[i]? = q[j]? then 0 else 1) (dpI p q i (j + 1) + 1)) (dpI p q (i + 1) j + 1)
theorem dpI_zero (p q : List ByteArray) (j : Nat) : dpI p q 0 j = j := by unfold dpI; rfl
theorem dpI_left (p q : List ByteArray) (i : Nat) : dpI p q i 0 = i := by cases i <;> (unfold dpI; rfl)
theorem dpI_succ (p q : List ByteArray) (i j : Nat) : dpI p q (i + 1) (j + 1) = min (min (dpI p q i j + if p[i]? = q[j]? then 0 else 1) (dpI p q i (j + 1) + 1)) (dpI p q (i + 1) j + 1) := by rw [dpI]
theorem dpI_le (p q : List ByteArray) : ∀ i j, dpI p q i j ≤ i + j
  | 0, j => by rw [dpI_zero]; omega
  | i + 1, 0 => by rw [dpI_left]; omega
  | i + 1, j + 1 => by have := dpI_le p q i (j + 1); rw [dpI_succ]; omega
def updN {α : Type} (f : Nat → α) (k : Nat) (x : α) : Nat → α := fun j => if j = k then x else f j
theorem updN_at {α : Type} (f : Nat → α) (k : Nat) (x : α) : updN f k x k = x := by simp [updN]
theorem updN_ne {α : Type} (f : Nat → α) {k j : Nat} (x : α) (h : j ≠ k) : updN f k x j = f j := by simp [updN, h]
def rowV (M : Nat) (G : Nat → Nat) (i : Nat) : Nat → Value := fun k => if k < i then .slice (some ⟨G k, 0, none⟩) M M else .slice none 0 0
theorem rowIs_ne {w : World} {b g t t' n n' : Nat} {f f' : Nat → Value} (h : w.rowIs b t n f) (h' : w.rowIs g t' n' f') (ht : t ≠ t') : b ≠ g := fun e => by
  obtain ⟨c, h1, _⟩ := h
  obtain ⟨c', h2, _⟩ := h'
  subst e; rw [h1] at h2; injection h2 with h2; injection h2 with _ h2; exact ht h2
/-- i rows of the table are made -/
structure Tab (w0 w : World) (ob N M i : Nat) (G : Nat → Nat) (f : Nat → Nat → Int) : Prop where
  old : Below w0.heap.size w0 w
  outer : w.rowIs ob 38 N (rowV M G i)
  rows : ∀ k, k < i → w.rowIs (G k) 3 M (fun j => .int .i64 (f k j))
  lo : w0.heap.size ≤ ob
  glo : ∀ k, k < i → w0.heap.size ≤ G k
  inj : ∀ k l, k < i → l < i → G k = G l → k = l
section
variable {w0 w w' : World} {ob N M i : Nat} {G : Nat → Nat} {f f' : Nat → Nat → Int}
theorem Tab.start (h : Below w0.heap.size w0 w) (N M : Nat) : Tab w0 (w.alloc (.cells (madeCells #[.slice none 0 0] N) 38)) w.heap.size N M 0 (fun _ => 0) (fun _ _ => 0) where
  old := h.alloc h.size _
  outer := (World.rowIs_made w (.slice none 0 0) N _).congr fun k _ => by simp [rowV]
  rows k hk := by omega
  lo := h.size
  glo k hk := by omega
  inj k l hk := by omega
theorem Tab.below (h : Tab w0 w ob N M i G f) (hb : Below w.heap.size w w') : Tab w0 w' ob N M i G f where
  old := h.old.trans (hb.mono h.old.size)
  outer := h.outer.of_block (hb.block _ h.outer.lt)
  rows k hk := (h.rows k hk).of_block (hb.block _ (h.rows k hk).lt)
  lo := h.lo
  glo := h.glo
  inj := h.inj
theorem Tab.congr (h : Tab w0 w ob N M i G f) (e : ∀ k j, k < i → j < M → f k j = f' k j) : Tab w0 w ob N M i G f' where
  old := h.old
  outer := h.outer
  rows k hk := (h.rows k hk).congr fun j hj => by rw [e k j hk hj]
  lo := h.lo
  glo := h.glo
  inj := h.inj
theorem Tab.ocell (h : Tab w0 w ob N M i G f) {k : Nat} (hk : k < i) (hi : i ≤ N) : w.cell? ⟨ob, k, none⟩ = some (.slice (some ⟨G k, 0, none⟩) M M) := by
  rw [h.outer.cell (by omega)]; simp [rowV, hk]
theorem Tab.cell (h : Tab w0 w ob N M i G f) {k j : Nat} (hk : k < i) (hj : j < M) : w.cell? ⟨G k, j, none⟩ = some (.int .i64 (f k j)) := (h.rows k hk).cell hj
theorem Tab.more (h : Tab w0 w ob N M i G f) (hi : i < N) : Tab w0 ((w.alloc (.cells (madeCells #[.int .i64 0] M) 3)).setCell ⟨ob, i, none⟩ (.slice (some ⟨w.heap.size, 0, none⟩) M M)) ob N M (i + 1) (updN G i w.heap.size) (fun k j => if k = i then 0 else f k j) where
  old := (h.old.alloc h.old.size _).setCell (p := ⟨ob, i, none⟩) h.lo _
  outer := ((h.outer.alloc _).set i _).congr fun k hk => by
    unfold rowV updN
    by_cases hki : k = i
    · subst hki; simp
    · by_cases hlt : k < i
      · simp [hki, hlt, show k < i + 1 from by omega]
      · simp [hki, hlt, show ¬ k < i + 1 from by omega]
  rows k hk := by
    have hob : w.heap.size ≠ ob := by have := h.outer.lt; omega
    by_cases hki : k = i
    · subst hki
      rw [updN_at]
      exact ((World.rowIs_made w (.int .i64 0) M _).setOther hob _).congr fun j _ => by simp
    · rw [updN_ne _ _ hki]
      have hne : G k ≠ ob := (rowIs_ne h.outer (h.rows k (by omega)) (by decide)).symm
      exact (((h.rows k (by omega)).alloc _).setOther hne _).congr fun j _ => by simp [hki]
  lo := h.lo
  glo k hk := by
    by_cases hki : k = i
    · subst hki; rw [updN_at]; exact h.old.size
    · rw [updN_ne _ _ hki]; exact h.glo k (by omega)
  inj k l hk hl e := by
    by_cases hki : k = i
    · subst hki
      by_cases hli : l = k
      · exact hli.symm
      · rw [updN_at, updN_ne _ _ hli] at e
        have := (h.rows l (by omega)).lt; omega
    · by_cases hli : l = i
      · subst hli
        rw [updN_at, updN_ne _ _ hki] at e
        have := (h.rows k (by omega)).lt; omega
      · rw [updN_ne _ _ hki, updN_ne _ _ hli] at e
        exact h.inj k l (by omega) (by omega) e
def updF (f : Nat → Nat → Int) (k j : Nat) (v : Int) : Nat → Nat → Int := fun k' j' => if k' = k ∧ j' = j then v else f k' j'
theorem Tab.put (h : Tab w0 w ob N M i G f) {k j : Nat} (hk : k < i) (v : Int) : Tab w0 (w.setCell ⟨G k, j, none⟩ (.int .i64 v)) ob N M i G (updF f k j v) where
  old := h.old.setCell (p := ⟨G k, j, none⟩) (h.glo k hk) _
  outer := h.outer.setOther (rowIs_ne h.outer (h.rows k hk) (by decide)) _
  rows l hl := by
    by_cases hlk : l = k
    · subst hlk
      exact ((h.rows l hl).set j _).congr fun j' _ => by unfold updF; by_cases e : j' = j <;> simp [e]
    · exact ((h.rows l hl).setOther (fun e => hlk (h.inj l k hl hk e)) _).congr fun j' _ => by unfold updF; simp [hlk]
  lo := h.lo
  glo := h.glo
  inj := h.inj
end
/-- a table that is whole so far: all rows above, and of one row the first j -/
def Whole (p q : List ByteArray) (i j : Nat) (f : Nat → Nat → Int) (M : Nat) : Prop := (∀ k l, k < i → l < M → f k l = (dpI p q k l : Nat)) ∧ ∀ l, l < j → f i l = (dpI p q i l : Nat)
theorem Whole.put {p q : List ByteArray} {i j M : Nat} {f : Nat → Nat → Int} (h : Whole p q i j f M) {v : Int} (hv : v = (dpI p q i j : Nat)) : Whole p q i (j + 1) (updF f i j v) M := by
  refine ⟨fun k l hk hl => ?_, fun l hl => ?_⟩
  · unfold updF; rw [if_neg (by omega)]; exact h.1 k l hk hl
  · unfold updF
    by_cases hlj : l = j
    · subst hlj; simp [hv]
    · rw [if_neg (by omega)]; exact h.2 l (by omega)
theorem Whole.next {p q : List ByteArray} {i M : Nat} {f : Nat → Nat → Int} (h : Whole p q i M f M) : Whole p q (i + 1) 0 f M := ⟨fun k l hk hl => by
  by_cases hki : k = i
  · subst hki; exact h.2 l hl
  · exact h.1 k l (by omega) hl, fun l hl => by omega⟩
theorem str_at {w : World} {S : Nat → Prop} {A : Option Addr} {c : Nat} {l : List ByteArray} (h : Sl rStr w S A c l) {k : Nat} (hk : k < l.length) : ∃ ad, A = some ad ∧ S ad.block ∧ (l[k]'hk).size ≤ maxLen ∧ w.cell? (ad.add k) = some (.string (l[k]'hk)) := by
  obtain ⟨ad, u, e, hs, ⟨rfl, hf⟩, h0⟩ := h.at_ hk
  have := h0 0 _ rfl
  rw [show rStr.size = 1 from rfl, Nat.mul_one, Nat.add_zero] at this
  exact ⟨ad, e, hs, hf, this⟩
theorem str_ne {x y : ByteArray} (h : x ≠ y) : (x.toList == y.toList) = false := by
  rw [Bool.eq_false_iff]
  intro hb
  have h' := eq_of_beq hb
  rw [Lib.toList_data, Lib.toList_data] at h'
  apply h
  cases x; cases y
  simpa using h'
theorem infoINT : (Try.prog.info? 3).map (fun i => (i.zero, i.size, i.bytes)) = some (some (.int .i64 0), 1, 8) := by kernel_rfl
theorem infoLI : (Try.prog.info? 38).map (fun i => (i.zero, i.size, i.bytes)) = some (some (.slice none 0 0), 1, 24) := by kernel_rfl

set_option maxRecDepth 100000 in
set_option maxHeartbeats 4000000 in
theorem table_any (S : Nat → Prop) (A B : Option Addr) (ca cb : Nat) (p q : List ByteArray) (w : World) (hp : Sl rStr w S A ca p) (hq : Sl rStr w S B cb q) (hS : ∀ b, S b → b < w.heap.size) (hpl : p.length ≤ 200) (hql : q.length ≤ 200) :
    Calls Try.prog 13 #[.slice A p.length ca, .slice B q.length cb] w fun e w' => ∃ ob G f, e = .returned (.slice (some ⟨ob, 0, none⟩) (p.length + 1) (p.length + 1)) ∧ Tab w w' ob (p.length + 1) (q.length + 1) (p.length + 1) G f ∧ Whole p q (p.length + 1) 0 f (q.length + 1) := by
  have hca := hp.le; have hcam := hp.max; have hcb := hq.le; have hcbm := hq.max
  unfold maxLen at hcam hcbm
  have HP := Lib.hid hp
  have HQ := Lib.hid hq
  have HS := Lib.hid hS
  clear hp hq hS
  have hmk0 : ∀ w : World, (Instr.makeSlice 39 (.int .i64 ((p.length : Int) + 1)) (.int .i64 ((p.length : Int) + 1))).run Try.prog w = .ok (.slice (some ⟨w.heap.size, 0, none⟩) (p.length + 1) (p.length + 1)) (w.alloc (.cells (madeCells #[.slice none 0 0] (p.length + 1)) 38)) := fun w => by
    have := run_make_row' (P := Try.prog) 39 38 (.slice none 0 0) 24 Try.underlying39 infoLI rfl .i64 .i64 (p.length + 1) (by omega) (by omega) w
    rwa [Int.natCast_add, Int.natCast_one] at this
  have hmk1 : ∀ w : World, (Instr.makeSlice 38 (.int .i64 ((q.length : Int) + 1)) (.int .i64 ((q.length : Int) + 1))).run Try.prog w = .ok (.slice (some ⟨w.heap.size, 0, none⟩) (q.length + 1) (q.length + 1)) (w.alloc (.cells (madeCells #[.int .i64 0] (q.length + 1)) 3)) := fun w => by
    have := run_make_row' (P := Try.prog) 38 3 (.int .i64 0) 8 Try.underlying38 infoINT rfl .i64 .i64 (q.length + 1) (by omega) (by omega) w
    rwa [Int.natCast_add, Int.natCast_one] at this
  have HT0 := Lib.hid (Tab.start (Below.refl w.heap.size w) (p.length + 1) (q.length + 1))
  have HW0 : Hid (Whole p q 0 0 (fun _ _ => 0) (q.length + 1)) := Lib.hid ⟨fun k l hk => by omega, fun l hl => by omega⟩
  go_enter Try.func13, Try.ntmps13
  go_wp2
  generalize hob : w.heap.size = ob at *
  generalize World.alloc w _ = w2 at *
  go_loopw [15] (fun i wr => ∃ k : Nat, k ≤ (p.length + 1) ∧ i = .int .i64 (k : Int) ∧ ∃ G f, Hid (Tab w wr ob (p.length + 1) (q.length + 1) k G f) ∧ Hid (Whole p q k 0 f (q.length + 1))) (fun i _ => (p.length + 1) - (intOf i).toNat)
  case atStart => exact ⟨0, by omega, rfl, _, _, HT0, HW0⟩
  case round =>
    obtain ⟨i, hi, rfl, G, f, HT, HW⟩ := hrel
    clear HT0 HW0
    by_cases hlt : i < (p.length + 1)
    · have HM := Lib.hid (HT.out.more hlt)
      have hW1 : Whole p q i 0 (fun k j => if k = i then 0 else f k j) (q.length + 1) := ⟨fun k l hk hl => by
        have := HW.out.1 k l hk hl
        show (if k = i then 0 else f k l) = _
        rw [if_neg (by omega)]; exact this, fun l hl => by omega⟩
      have HW1 := Lib.hid hW1
      have hoc : (wr.alloc (.cells (madeCells #[.int .i64 0] (q.length + 1)) 3)).cell? ⟨ob, i, none⟩ = some (.slice none 0 0) := by
        rw [(HT.out.outer.alloc _).cell hlt]; simp [rowV]
      have hof : (wr.alloc (.cells (madeCells #[.int .i64 0] (q.length + 1)) 3)).frozen? ⟨ob, i, none⟩ = false := (HT.out.outer.alloc _).frozen i
      have hoc2 := HM.out.ocell (k := i) (by omega) (by omega)
      rw [updN_at] at hoc2
      clear hW1
      go_wp2
      have hgi : updN G i wr.heap.size i = wr.heap.size := updN_at _ _ _
      clear hoc hof hoc2 HT HW
      generalize World.setCell (World.alloc wr _) _ _ = w4 at *
      generalize updN G i wr.heap.size = G2 at *
      rw [← hgi]
      clear hgi
      rw [show (decide ((i : Int) < (p.length : Int) + 1)) = true from decide_eq_true (by omega)]
      go_loopw [30] (fun j wr => ∃ l : Nat, l ≤ q.length + 1 ∧ j = .int .i64 (l : Int) ∧ ∃ f, Hid (Tab w wr ob (p.length + 1) (q.length + 1) (i + 1) G2 f) ∧ Hid (Whole p q i l f (q.length + 1))) (fun j _ => q.length + 1 - (intOf j).toNat)
      case atStart => exact ⟨0, by omega, rfl, _, HM, HW1⟩
      case round =>
        obtain ⟨l, hl, rfl, f, HTb, HWb⟩ := hrel
        clear HM HW1
        by_cases hltl : l < q.length + 1
        · have oi := HTb.out.ocell (k := i) (by omega) (by omega)
          have hcl := HTb.out.cell (k := i) (j := l) (by omega) hltl
          have hfr := (HTb.out.rows i (by omega)).frozen l
          by_cases h0 : i = 0
          · have hb0 : ((i : Int) == 0) = true := by simp [h0]
            have HT9 := Lib.hid (HTb.out.put (k := i) (j := l) (by omega) ((l : Int)))
            have HW9 := Lib.hid (HWb.out.put (v := (l : Int)) (by rw [h0, dpI_zero]))
            clear HTb HWb
            clear h0
            go_wp2
            go_roundw
            case rel => exact ⟨l + 1, by omega, by go_num, _, HT9, HW9⟩
            case measure => simp [intOf]; omega
          · have hb0 : ((i : Int) == 0) = false := beq_eq_false_iff_ne.2 (by omega)
            by_cases h1 : l = 0
            · have hb1 : ((l : Int) == 0) = true := by simp [h1]
              have HT9 := Lib.hid (HTb.out.put (k := i) (j := l) (by omega) ((i : Int)))
              have HW9 := Lib.hid (HWb.out.put (v := (i : Int)) (by rw [h1, dpI_left]))
              clear HTb HWb
              clear h0 h1
              go_wp2
              go_roundw
              case rel => exact ⟨l + 1, by omega, by go_num, _, HT9, HW9⟩
              case measure => simp [intOf]; omega
            · have hb1 : ((l : Int) == 0) = false := beq_eq_false_iff_ne.2 (by omega)
              obtain ⟨im, him⟩ : ∃ im : Nat, i = im + 1 := ⟨i - 1, by omega⟩
              obtain ⟨lm, hlm⟩ : ∃ lm : Nat, l = lm + 1 := ⟨l - 1, by omega⟩
              have hdp := dpI_succ p q im lm
              rw [← him, ← hlm] at hdp
              have e1 : (i : Int) - 1 = (im : Int) := by omega
              have e2 : (l : Int) - 1 = (lm : Int) := by omega
              have hi1 : (im : Int) < (p.length : Int) := by omega
              have hi2 : (im : Int) < (p.length : Int) + 1 := by omega
              have hl1 : (lm : Int) < (q.length : Int) := by omega
              have hl2 : (lm : Int) < (q.length : Int) + 1 := by omega
              have hwi : IntKind.i64.wrap (im : Int) = (im : Int) := by rw [IntKind.wrap_i64]; omega
              have hwl : IntKind.i64.wrap (lm : Int) = (lm : Int) := by rw [IntKind.wrap_i64]; omega
              have om := HTb.out.ocell (k := im) (by omega) (by omega)
              have cd := HTb.out.cell (k := im) (j := lm) (by omega) (by omega)
              have cu := HTb.out.cell (k := im) (j := l) (by omega) hltl
              have cl := HTb.out.cell (k := i) (j := lm) (by omega) (by omega)
              rw [HWb.out.1 im lm (by omega) (by omega)] at cd
              rw [HWb.out.1 im l (by omega) hltl] at cu
              rw [HWb.out.2 lm (by omega)] at cl
              have b0 := dpI_le p q im lm
              have b1 := dpI_le p q im l
              have b2 := dpI_le p q i lm
              have hbl : Below w.heap.size w wr := HTb.out.old
              obtain ⟨ap, rfl, _, _, ca0⟩ := str_at (HP.out.below (fun b hb => by rw [hob]; exact HS.out b hb) hbl) (k := im) (by omega)
              obtain ⟨aq, rfl, _, _, cb0⟩ := str_at (HQ.out.below (fun b hb => by rw [hob]; exact HS.out b hb) hbl) (k := lm) (by omega)
              rw [List.getElem?_eq_getElem (show im < p.length by omega), List.getElem?_eq_getElem (show lm < q.length by omega)] at hdp
              generalize p[im]'(by omega) = sp at *
              generalize q[lm]'(by omega) = sq at *
              generalize hx0 : dpI p q im lm = x0 at *
              generalize hx1 : dpI p q im l = x1 at *
              generalize hx2 : dpI p q i lm = x2 at *
              have hb0' : x0 ≤ 400 := by omega
              have hb1' : x1 ≤ 400 := by omega
              have hb2' : x2 ≤ 400 := by omega
              have hwx0 : IntKind.i64.wrap ((x0 : Int) + 1) = (x0 : Int) + 1 := by rw [IntKind.wrap_i64]; omega
              have hwx1 : IntKind.i64.wrap ((x1 : Int) + 1) = (x1 : Int) + 1 := by rw [IntKind.wrap_i64]; omega
              have hwx2 : IntKind.i64.wrap ((x2 : Int) + 1) = (x2 : Int) + 1 := by rw [IntKind.wrap_i64]; omega
              clear h0 h1 him hlm hx0 hx1 hx2 hbl b0 b1 b2
              by_cases hsame : sp = sq
              · subst hsame
                rw [if_pos rfl, Nat.add_zero] at hdp
                go_wp2_with fail
                go_quiet (fail)
                have HT5 := Lib.hid (HTb.out.below (below_drewN (Below.refl wr.heap.size wr) nq))
                have HW5 := HWb
                have oi : (World.drewN wr nq).cell? ⟨ob, i, none⟩ = _ := oi
                have om : (World.drewN wr nq).cell? ⟨ob, im, none⟩ = _ := om
                have cd : (World.drewN wr nq).cell? ⟨G2 im, lm, none⟩ = _ := cd
                have cu : (World.drewN wr nq).cell? ⟨G2 im, l, none⟩ = _ := cu
                have cl : (World.drewN wr nq).cell? ⟨G2 i, lm, none⟩ = _ := cl
                have hcl : (World.drewN wr nq).cell? ⟨G2 i, l, none⟩ = _ := hcl
                have hfr : (World.drewN wr nq).frozen? ⟨G2 i, l, none⟩ = _ := hfr
                clear HTb HWb ca0 cb0
                generalize World.drewN wr nq = w5 at *
                obtain ⟨mv, hmv⟩ : ∃ mv : Int, mv = min (min ((x0 : Nat) : Int) ((x1 : Int) + 1)) ((x2 : Int) + 1) := ⟨_, rfl⟩
                have hmn : mv = (dpI p q i l : Nat) := by rw [hmv, hdp]; omega
                have HSW : Hid (w5.drew.cell? ⟨ob, i, none⟩ = some (.slice (some ⟨G2 i, 0, none⟩) (q.length + 1) (q.length + 1)) ∧ w5.drew.cell? ⟨ob, im, none⟩ = some (.slice (some ⟨G2 im, 0, none⟩) (q.length + 1) (q.length + 1)) ∧ w5.drew.cell? ⟨G2 im, l, none⟩ = some (.int .i64 (x1 : Int)) ∧ w5.drew.cell? ⟨G2 i, lm, none⟩ = some (.int .i64 (x2 : Int))) := Lib.hid ⟨oi, om, cu, cl⟩
                have hcl2 : w5.drew.cell? ⟨G2 i, l, none⟩ = some (.int .i64 (f i l)) := hcl
                have hfr2 : w5.drew.frozen? ⟨G2 i, l, none⟩ = false := hfr
                have HTb := Lib.hid (HT5.out.below (Below.refl w5.heap.size w5).drew)
                have HWb := HW5
                have HT9 := Lib.hid (HTb.out.put (k := i) (j := l) (by omega) (mv))
                have HW9 := Lib.hid (HWb.out.put (v := mv) hmn)
                clear HTb HWb
                clear oi om cd cu cl hcl hfr HT5 HW5
                go_wp2_with fail
                refine wp_region_peel (n := 26) (peel_of (by kernel_rfl)) (by kernel_rfl) ?_
                refine wpAny_of_held (S := fun w' => w'.cell? ⟨ob, i, none⟩ = some (.slice (some ⟨G2 i, 0, none⟩) (q.length + 1) (q.length + 1)) ∧ w'.cell? ⟨ob, im, none⟩ = some (.slice (some ⟨G2 im, 0, none⟩) (q.length + 1) (q.length + 1)) ∧ w'.cell? ⟨G2 im, l, none⟩ = some (.int .i64 (x1 : Int)) ∧ w'.cell? ⟨G2 i, lm, none⟩ = some (.int .i64 (x2 : Int))) _ _ _ _ ?_
                refine takeD (i := 0) (some 55) (v := .slice (some ⟨ob, 0, none⟩) (p.length + 1) (p.length + 1)) rfl rfl (by kernel_rfl) (by kernel_rfl) (by kernel_rfl) (fun _ _ _ h => h) (.inl ⟨by rfl, fun w' hw' => by rfl⟩) HSW.out ?_
                simp only [Act.put, List.setIfInBounds_toArray, List.set_cons_zero, List.set_cons_succ]
                refine takeD (i := 1) (some 56) (v := .int .i64 (i : Int)) rfl rfl (by kernel_rfl) (by kernel_rfl) (by kernel_rfl) (fun _ _ _ h => h) (.inl ⟨by rfl, fun w' hw' => by rfl⟩) HSW.out ?_
                simp only [Act.put, List.setIfInBounds_toArray, List.set_cons_zero, List.set_cons_succ]
                refine takeD (i := 2) (some 57) (v := .pointer (some ⟨ob, i, none⟩)) rfl rfl (by kernel_rfl) (by kernel_rfl) (by kernel_rfl) (fun _ _ _ h => h) (.inl ⟨by rfl, fun w' hw' => by obtain ⟨q1, q2, q3, q4⟩ := hw'; go_simp⟩) HSW.out ?_
                simp only [Act.put, List.setIfInBounds_toArray, List.set_cons_zero, List.set_cons_succ]
                refine takeD (i := 3) (some 58) (v := .slice (some ⟨G2 i, 0, none⟩) (q.length + 1) (q.length + 1)) rfl rfl (by kernel_rfl) (by kernel_rfl) (by kernel_rfl) (fun _ _ _ h => h) (.inl ⟨by rfl, fun w' hw' => by obtain ⟨q1, q2, q3, q4⟩ := hw'; go_simp⟩) HSW.out ?_
                simp only [Act.put, List.setIfInBounds_toArray, List.set_cons_zero, List.set_cons_succ]
                refine takeD (i := 4) (some 59) (v := .int .i64 (l : Int)) rfl rfl (by kernel_rfl) (by kernel_rfl) (by kernel_rfl) (fun _ _ _ h => h) (.inl ⟨by rfl, fun w' hw' => by rfl⟩) HSW.out ?_
                simp only [Act.put, List.setIfInBounds_toArray, List.set_cons_zero, List.set_cons_succ]
                refine takeD (i := 5) (some 60) (v := .int .i64 ((x0 : Nat) : Int)) rfl rfl (by kernel_rfl) (by kernel_rfl) (by kernel_rfl) (fun _ _ _ h => h) (.inl ⟨by rfl, fun w' hw' => by rfl⟩) HSW.out ?_
                simp only [Act.put, List.setIfInBounds_toArray, List.set_cons_zero, List.set_cons_succ]
                refine takeD (i := 6) (some 61) (v := .slice (some ⟨ob, 0, none⟩) (p.length + 1) (p.length + 1)) rfl rfl (by kernel_rfl) (by kernel_rfl) (by kernel_rfl) (fun _ _ _ h => h) (.inl ⟨by rfl, fun w' hw' => by rfl⟩) HSW.out ?_
                simp only [Act.put, List.setIfInBounds_toArray, List.set_cons_zero, List.set_cons_succ]
                refine takeD (i := 7) (some 62) (v := .int .i64 (i : Int)) rfl rfl (by kernel_rfl) (by kernel_rfl) (by kernel_rfl) (fun _ _ _ h => h) (.inl ⟨by rfl, fun w' hw' => by rfl⟩) HSW.out ?_
                simp only [Act.put, List.setIfInBounds_toArray, List.set_cons_zero, List.set_cons_succ]
                refine takeD (i := 8) (some 63) (v := .int .i64 (im : Int)) rfl rfl (by kernel_rfl) (by kernel_rfl) (by kernel_rfl) (fun _ _ _ h => h) (.inl ⟨by rfl, fun w' hw' => by obtain ⟨q1, q2, q3, q4⟩ := hw'; go_simp⟩) HSW.out ?_
                simp only [Act.put, List.setIfInBounds_toArray, List.set_cons_zero, List.set_cons_succ]
                refine takeD (i := 9) (some 64) (v := .pointer (some ⟨ob, im, none⟩)) rfl rfl (by kernel_rfl) (by kernel_rfl) (by kernel_rfl) (fun _ _ _ h => h) (.inl ⟨by rfl, fun w' hw' => by obtain ⟨q1, q2, q3, q4⟩ := hw'; go_simp⟩) HSW.out ?_
                simp only [Act.put, List.setIfInBounds_toArray, List.set_cons_zero, List.set_cons_succ]
                refine takeD (i := 10) (some 65) (v := .slice (some ⟨G2 im, 0, none⟩) (q.length + 1) (q.length + 1)) rfl rfl (by kernel_rfl) (by kernel_rfl) (by kernel_rfl) (fun _ _ _ h => h) (.inl ⟨by rfl, fun w' hw' => by obtain ⟨q1, q2, q3, q4⟩ := hw'; go_simp⟩) HSW.out ?_
                simp only [Act.put, List.setIfInBounds_toArray, List.set_cons_zero, List.set_cons_succ]
                refine takeD (i := 11) (some 66) (v := .int .i64 (l : Int)) rfl rfl (by kernel_rfl) (by kernel_rfl) (by kernel_rfl) (fun _ _ _ h => h) (.inl ⟨by rfl, fun w' hw' => by rfl⟩) HSW.out ?_
                simp only [Act.put, List.setIfInBounds_toArray, List.set_cons_zero, List.set_cons_succ]
                refine takeD (i := 12) (some 67) (v := .pointer (some ⟨G2 im, l, none⟩)) rfl rfl (by kernel_rfl) (by kernel_rfl) (by kernel_rfl) (fun _ _ _ h => h) (.inl ⟨by rfl, fun w' hw' => by obtain ⟨q1, q2, q3, q4⟩ := hw'; go_simp⟩) HSW.out ?_
                simp only [Act.put, List.setIfInBounds_toArray, List.set_cons_zero, List.set_cons_succ]
                refine takeD (i := 13) (some 68) (v := .int .i64 (x1 : Int)) rfl rfl (by kernel_rfl) (by kernel_rfl) (by kernel_rfl) (fun _ _ _ h => h) (.inl ⟨by rfl, fun w' hw' => by obtain ⟨q1, q2, q3, q4⟩ := hw'; go_simp⟩) HSW.out ?_
                simp only [Act.put, List.setIfInBounds_toArray, List.set_cons_zero, List.set_cons_succ]
                refine takeD (i := 14) (some 69) (v := .int .i64 ((x1 : Int) + 1)) rfl rfl (by kernel_rfl) (by kernel_rfl) (by kernel_rfl) (fun _ _ _ h => h) (.inl ⟨by rfl, fun w' hw' => by obtain ⟨q1, q2, q3, q4⟩ := hw'; go_simp⟩) HSW.out ?_
                simp only [Act.put, List.setIfInBounds_toArray, List.set_cons_zero, List.set_cons_succ]
                refine takeD (i := 15) (some 70) (v := .slice (some ⟨ob, 0, none⟩) (p.length + 1) (p.length + 1)) rfl rfl (by kernel_rfl) (by kernel_rfl) (by kernel_rfl) (fun _ _ _ h => h) (.inl ⟨by rfl, fun w' hw' => by rfl⟩) HSW.out ?_
                simp only [Act.put, List.setIfInBounds_toArray, List.set_cons_zero, List.set_cons_succ]
                refine takeD (i := 16) (some 71) (v := .int .i64 (i : Int)) rfl rfl (by kernel_rfl) (by kernel_rfl) (by kernel_rfl) (fun _ _ _ h => h) (.inl ⟨by rfl, fun w' hw' => by rfl⟩) HSW.out ?_
                simp only [Act.put, List.setIfInBounds_toArray, List.set_cons_zero, List.set_cons_succ]
                refine takeD (i := 17) (some 72) (v := .pointer (some ⟨ob, i, none⟩)) rfl rfl (by kernel_rfl) (by kernel_rfl) (by kernel_rfl) (fun _ _ _ h => h) (.inl ⟨by rfl, fun w' hw' => by obtain ⟨q1, q2, q3, q4⟩ := hw'; go_simp⟩) HSW.out ?_
                simp only [Act.put, List.setIfInBounds_toArray, List.set_cons_zero, List.set_cons_succ]
                refine takeD (i := 18) (some 73) (v := .slice (some ⟨G2 i, 0, none⟩) (q.length + 1) (q.length + 1)) rfl rfl (by kernel_rfl) (by kernel_rfl) (by kernel_rfl) (fun _ _ _ h => h) (.inl ⟨by rfl, fun w' hw' => by obtain ⟨q1, q2, q3, q4⟩ := hw'; go_simp⟩) HSW.out ?_
                simp only [Act.put, List.setIfInBounds_toArray, List.set_cons_zero, List.set_cons_succ]
                refine takeD (i := 19) (some 74) (v := .int .i64 (l : Int)) rfl rfl (by kernel_rfl) (by kernel_rfl) (by kernel_rfl) (fun _ _ _ h => h) (.inl ⟨by rfl, fun w' hw' => by rfl⟩) HSW.out ?_
                simp only [Act.put, List.setIfInBounds_toArray, List.set_cons_zero, List.set_cons_succ]
                refine takeD (i := 20) (some 75) (v := .int .i64 (lm : Int)) rfl rfl (by kernel_rfl) (by kernel_rfl) (by kernel_rfl) (fun _ _ _ h => h) (.inl ⟨by rfl, fun w' hw' => by obtain ⟨q1, q2, q3, q4⟩ := hw'; go_simp⟩) HSW.out ?_
                simp only [Act.put, List.setIfInBounds_toArray, List.set_cons_zero, List.set_cons_succ]
                refine takeD (i := 21) (some 76) (v := .pointer (some ⟨G2 i, lm, none⟩)) rfl rfl (by kernel_rfl) (by kernel_rfl) (by kernel_rfl) (fun _ _ _ h => h) (.inl ⟨by rfl, fun w' hw' => by obtain ⟨q1, q2, q3, q4⟩ := hw'; go_simp⟩) HSW.out ?_
                simp only [Act.put, List.setIfInBounds_toArray, List.set_cons_zero, List.set_cons_succ]
                refine takeD (i := 22) (some 77) (v := .int .i64 (x2 : Int)) rfl rfl (by kernel_rfl) (by kernel_rfl) (by kernel_rfl) (fun _ _ _ h => h) (.inl ⟨by rfl, fun w' hw' => by obtain ⟨q1, q2, q3, q4⟩ := hw'; go_simp⟩) HSW.out ?_
                simp only [Act.put, List.setIfInBounds_toArray, List.set_cons_zero, List.set_cons_succ]
                refine takeD (i := 23) (some 78) (v := .int .i64 ((x2 : Int) + 1)) rfl rfl (by kernel_rfl) (by kernel_rfl) (by kernel_rfl) (fun _ _ _ h => h) (.inl ⟨by rfl, fun w' hw' => by obtain ⟨q1, q2, q3, q4⟩ := hw'; go_simp⟩) HSW.out ?_
                simp only [Act.put, List.setIfInBounds_toArray, List.set_cons_zero, List.set_cons_succ]
                refine takeD (i := 24) (some 79) (v := .int .i64 mv) rfl rfl (by kernel_rfl) (by kernel_rfl) (by kernel_rfl) (fun _ _ _ h => h) (.inl ⟨by rfl, fun w' hw' => by rw [hmv]; clear hmv hmn HT9 HW9; go_simp; (repeat' split) <;> omega⟩) HSW.out ?_
                simp only [Act.put, List.setIfInBounds_toArray, List.set_cons_zero, List.set_cons_succ]
                clear hmv hmn
                refine takeD (i := 25) (some 80) (v := .pointer (some ⟨G2 i, l, none⟩)) rfl rfl (by kernel_rfl) (by kernel_rfl) (by kernel_rfl) (fun _ _ _ h => h) (.inl ⟨by rfl, fun w' hw' => by obtain ⟨q1, q2, q3, q4⟩ := hw'; go_simp⟩) HSW.out ?_
                simp only [Act.put, List.setIfInBounds_toArray, List.set_cons_zero, List.set_cons_succ]
                refine wpAnyH_done (by kernel_rfl) ?_ _
                refine peelQ_step rfl (fun K hK => ?_)
                go_simp
                refine hK _ _ ?_
                clear hK K HSW
                go_wp2
                go_roundw
                case rel => exact ⟨l + 1, by omega, by go_num, _, HT9, HW9⟩
                case measure => simp [intOf]; omega
              · skip
                have hne : (sp.toList == sq.toList) = false := str_ne hsame
                rw [if_neg (fun e => hsame (Option.some.inj e))] at hdp
                go_wp2_with fail
                go_quiet (fail)
                have HT5 := Lib.hid (HTb.out.below (below_drewN (Below.refl wr.heap.size wr) nq))
                have HW5 := HWb
                have oi : (World.drewN wr nq).cell? ⟨ob, i, none⟩ = _ := oi
                have om : (World.drewN wr nq).cell? ⟨ob, im, none⟩ = _ := om
                have cd : (World.drewN wr nq).cell? ⟨G2 im, lm, none⟩ = _ := cd
                have cu : (World.drewN wr nq).cell? ⟨G2 im, l, none⟩ = _ := cu
                have cl : (World.drewN wr nq).cell? ⟨G2 i, lm, none⟩ = _ := cl
                have hcl : (World.drewN wr nq).cell? ⟨G2 i, l, none⟩ = _ := hcl
                have hfr : (World.drewN wr nq).frozen? ⟨G2 i, l, none⟩ = _ := hfr
                clear HTb HWb ca0 cb0
                generalize World.drewN wr nq = w5 at *
                obtain ⟨mv, hmv⟩ : ∃ mv : Int, mv = min (min (((x0 + 1) : Nat) : Int) ((x1 : Int) + 1)) ((x2 : Int) + 1) := ⟨_, rfl⟩
                have hmn : mv = (dpI p q i l : Nat) := by rw [hmv, hdp]; omega
                have HSW : Hid (w5.drew.cell? ⟨ob, i, none⟩ = some (.slice (some ⟨G2 i, 0, none⟩) (q.length + 1) (q.length + 1)) ∧ w5.drew.cell? ⟨ob, im, none⟩ = some (.slice (some ⟨G2 im, 0, none⟩) (q.length + 1) (q.length + 1)) ∧ w5.drew.cell? ⟨G2 im, l, none⟩ = some (.int .i64 (x1 : Int)) ∧ w5.drew.cell? ⟨G2 i, lm, none⟩ = some (.int .i64 (x2 : Int))) := Lib.hid ⟨oi, om, cu, cl⟩
                have hcl2 : w5.drew.cell? ⟨G2 i, l, none⟩ = some (.int .i64 (f i l)) := hcl
                have hfr2 : w5.drew.frozen? ⟨G2 i, l, none⟩ = false := hfr
                have HTb := Lib.hid (HT5.out.below (Below.refl w5.heap.size w5).drew)
                have HWb := HW5
                have HT9 := Lib.hid (HTb.out.put (k := i) (j := l) (by omega) (mv))
                have HW9 := Lib.hid (HWb.out.put (v := mv) hmn)
                clear HTb HWb
                clear oi om cd cu cl hcl hfr HT5 HW5
                go_wp2_with fail
                refine wp_region_peel (n := 26) (peel_of (by kernel_rfl)) (by kernel_rfl) ?_
                refine wpAny_of_held (S := fun w' => w'.cell? ⟨ob, i, none⟩ = some (.slice (some ⟨G2 i, 0, none⟩) (q.length + 1) (q.length + 1)) ∧ w'.cell? ⟨ob, im, none⟩ = some (.slice (some ⟨G2 im, 0, none⟩) (q.length + 1) (q.length + 1)) ∧ w'.cell? ⟨G2 im, l, none⟩ = some (.int .i64 (x1 : Int)) ∧ w'.cell? ⟨G2 i, lm, none⟩ = some (.int .i64 (x2 : Int))) _ _ _ _ ?_
                refine takeD (i := 0) (some 55) (v := .slice (some ⟨ob, 0, none⟩) (p.length + 1) (p.length + 1)) rfl rfl (by kernel_rfl) (by kernel_rfl) (by kernel_rfl) (fun _ _ _ h => h) (.inl ⟨by rfl, fun w' hw' => by rfl⟩) HSW.out ?_
                simp only [Act.put, List.setIfInBounds_toArray, List.set_cons_zero, List.set_cons_succ]
                refine takeD (i := 1) (some 56) (v := .int .i64 (i : Int)) rfl rfl (by kernel_rfl) (by kernel_rfl) (by kernel_rfl) (fun _ _ _ h => h) (.inl ⟨by rfl, fun w' hw' => by rfl⟩) HSW.out ?_
                simp only [Act.put, List.setIfInBounds_toArray, List.set_cons_zero, List.set_cons_succ]
                refine takeD (i := 2) (some 57) (v := .pointer (some ⟨ob, i, none⟩)) rfl rfl (by kernel_rfl) (by kernel_rfl) (by kernel_rfl) (fun _ _ _ h => h) (.inl ⟨by rfl, fun w' hw' => by obtain ⟨q1, q2, q3, q4⟩ := hw'; go_simp⟩) HSW.out ?_
                simp only [Act.put, List.setIfInBounds_toArray, List.set_cons_zero, List.set_cons_succ]
                refine takeD (i := 3) (some 58) (v := .slice (some ⟨G2 i, 0, none⟩) (q.length + 1) (q.length + 1)) rfl rfl (by kernel_rfl) (by kernel_rfl) (by kernel_rfl) (fun _ _ _ h => h) (.inl ⟨by rfl, fun w' hw' => by obtain ⟨q1, q2, q3, q4⟩ := hw'; go_simp⟩) HSW.out ?_
                simp only [Act.put, List.setIfInBounds_toArray, List.set_cons_zero, List.set_cons_succ]
                refine takeD (i := 4) (some 59) (v := .int .i64 (l : Int)) rfl rfl (by kernel_rfl) (by kernel_rfl) (by kernel_rfl) (fun _ _ _ h => h) (.inl ⟨by rfl, fun w' hw' => by rfl⟩) HSW.out ?_
                simp only [Act.put, List.setIfInBounds_toArray, List.set_cons_zero, List.set_cons_succ]
                refine takeD (i := 5) (some 60) (v := .int .i64 (((x0 + 1) : Nat) : Int)) rfl rfl (by kernel_rfl) (by kernel_rfl) (by kernel_rfl) (fun _ _ _ h => h) (.inl ⟨by rfl, fun w' hw' => by rfl⟩) HSW.out ?_
                simp only [Act.put, List.setIfInBounds_toArray, List.set_cons_zero, List.set_cons_succ]
                refine takeD (i := 6) (some 61) (v := .slice (some ⟨ob, 0, none⟩) (p.length + 1) (p.length + 1)) rfl rfl (by kernel_rfl) (by kernel_rfl) (by kernel_rfl) (fun _ _ _ h => h) (.inl ⟨by rfl, fun w' hw' => by rfl⟩) HSW.out ?_
                simp only [Act.put, List.setIfInBounds_toArray, List.set_cons_zero, List.set_cons_succ]
                refine takeD (i := 7) (some 62) (v := .int .i64 (i : Int)) rfl rfl (by kernel_rfl) (by kernel_rfl) (by kernel_rfl) (fun _ _ _ h => h) (.inl ⟨by rfl, fun w' hw' => by rfl⟩) HSW.out ?_
                simp only [Act.put, List.setIfInBounds_toArray, List.set_cons_zero, List.set_cons_succ]
                refine takeD (i := 8) (some 63) (v := .int .i64 (im : Int)) rfl rfl (by kernel_rfl) (by kernel_rfl) (by kernel_rfl) (fun _ _ _ h => h) (.inl ⟨by rfl, fun w' hw' => by obtain ⟨q1, q2, q3, q4⟩ := hw'; go_simp⟩) HSW.out ?_
                simp only [Act.put, List.setIfInBounds_toArray, List.set_cons_zero, List.set_cons_succ]
                refine takeD (i := 9) (some 64) (v := .pointer (some ⟨ob, im, none⟩)) rfl rfl (by kernel_rfl) (by kernel_rfl) (by kernel_rfl) (fun _ _ _ h => h) (.inl ⟨by rfl, fun w' hw' => by obtain ⟨q1, q2, q3, q4⟩ := hw'; go_simp⟩) HSW.out ?_
                simp only [Act.put, List.setIfInBounds_toArray, List.set_cons_zero, List.set_cons_succ]
                refine takeD (i := 10) (some 65) (v := .slice (some ⟨G2 im, 0, none⟩) (q.length + 1) (q.length + 1)) rfl rfl (by kernel_rfl) (by kernel_rfl) (by kernel_rfl) (fun _ _ _ h => h) (.inl ⟨by rfl, fun w' hw' => by obtain ⟨q1, q2, q3, q4⟩ := hw'; go_simp⟩) HSW.out ?_
                simp only [Act.put, List.setIfInBounds_toArray, List.set_cons_zero, List.set_cons_succ]
                refine takeD (i := 11) (some 66) (v := .int .i64 (l : Int)) rfl rfl (by kernel_rfl) (by kernel_rfl) (by kernel_rfl) (fun _ _ _ h => h) (.inl ⟨by rfl, fun w' hw' => by rfl⟩) HSW.out ?_
                simp only [Act.put, List.setIfInBounds_toArray, List.set_cons_zero, List.set_cons_succ]
                refine takeD (i := 12) (some 67) (v := .pointer (some ⟨G2 im, l, none⟩)) rfl rfl (by kernel_rfl) (by kernel_rfl) (by kernel_rfl) (fun _ _ _ h => h) (.inl ⟨by rfl, fun w' hw' => by obtain ⟨q1, q2, q3, q4⟩ := hw'; go_simp⟩) HSW.out ?_
                simp only [Act.put, List.setIfInBounds_toArray, List.set_cons_zero, List.set_cons_succ]
                refine takeD (i := 13) (some 68) (v := .int .i64 (x1 : Int)) rfl rfl (by kernel_rfl) (by kernel_rfl) (by kernel_rfl) (fun _ _ _ h => h) (.inl ⟨by rfl, fun w' hw' => by obtain ⟨q1, q2, q3, q4⟩ := hw'; go_simp⟩) HSW.out ?_
                simp only [Act.put, List.setIfInBounds_toArray, List.set_cons_zero, List.set_cons_succ]
                refine takeD (i := 14) (some 69) (v := .int .i64 ((x1 : Int) + 1)) rfl rfl (by kernel_rfl) (by kernel_rfl) (by kernel_rfl) (fun _ _ _ h => h) (.inl ⟨by rfl, fun w' hw' => by obtain ⟨q1, q2, q3, q4⟩ := hw'; go_simp⟩) HSW.out ?_
                simp only [Act.put, List.setIfInBounds_toArray, List.set_cons_zero, List.set_cons_succ]
                refine takeD (i := 15) (some 70) (v := .slice (some ⟨ob, 0, none⟩) (p.length + 1) (p.length + 1)) rfl rfl (by kernel_rfl) (by kernel_rfl) (by kernel_rfl) (fun _ _ _ h => h) (.inl ⟨by rfl, fun w' hw' => by rfl⟩) HSW.out ?_
                simp only [Act.put, List.setIfInBounds_toArray, List.set_cons_zero, List.set_cons_succ]
                refine takeD (i := 16) (some 71) (v := .int .i64 (i : Int)) rfl rfl (by kernel_rfl) (by kernel_rfl) (by kernel_rfl) (fun _ _ _ h => h) (.inl ⟨by rfl, fun w' hw' => by rfl⟩) HSW.out ?_
                simp only [Act.put, List.setIfInBounds_toArray, List.set_cons_zero, List.set_cons_succ]
                refine takeD (i := 17) (some 72) (v := .pointer (some ⟨ob, i, none⟩)) rfl rfl (by kernel_rfl) (by kernel_rfl) (by kernel_rfl) (fun _ _ _ h => h) (.inl ⟨by rfl, fun w' hw' => by obtain ⟨q1, q2, q3, q4⟩ := hw'; go_simp⟩) HSW.out ?_
                simp only [Act.put, List.setIfInBounds_toArray, List.set_cons_zero, List.set_cons_succ]
                refine takeD (i := 18) (some 73) (v := .slice (some ⟨G2 i, 0, none⟩) (q.length + 1) (q.length + 1)) rfl rfl (by kernel_rfl) (by kernel_rfl) (by kernel_rfl) (fun _ _ _ h => h) (.inl ⟨by rfl, fun w' hw' => by obtain ⟨q1, q2, q3, q4⟩ := hw'; go_simp⟩) HSW.out ?_
                simp only [Act.put, List.setIfInBounds_toArray, List.set_cons_zero, List.set_cons_succ]
                refine takeD (i := 19) (some 74) (v := .int .i64 (l : Int)) rfl rfl (by kernel_rfl) (by kernel_rfl) (by kernel_rfl) (fun _ _ _ h => h) (.inl ⟨by rfl, fun w' hw' => by rfl⟩) HSW.out ?_
                simp only [Act.put, List.setIfInBounds_toArray, List.set_cons_zero, List.set_cons_succ]
                refine takeD (i := 20) (some 75) (v := .int .i64 (lm : Int)) rfl rfl (by kernel_rfl) (by kernel_rfl) (by kernel_rfl) (fun _ _ _ h => h) (.inl ⟨by rfl, fun w' hw' => by obtain ⟨q1, q2, q3, q4⟩ := hw'; go_simp⟩) HSW.out ?_
                simp only [Act.put, List.setIfInBounds_toArray, List.set_cons_zero, List.set_cons_succ]
                refine takeD (i := 21) (some 76) (v := .pointer (some ⟨G2 i, lm, none⟩)) rfl rfl (by kernel_rfl) (by kernel_rfl) (by kernel_rfl) (fun _ _ _ h => h) (.inl ⟨by rfl, fun w' hw' => by obtain ⟨q1, q2, q3, q4⟩ := hw'; go_simp⟩) HSW.out ?_
                simp only [Act.put, List.setIfInBounds_toArray, List.set_cons_zero, List.set_cons_succ]
                refine takeD (i := 22) (some 77) (v := .int .i64 (x2 : Int)) rfl rfl (by kernel_rfl) (by kernel_rfl) (by kernel_rfl) (fun _ _ _ h => h) (.inl ⟨by rfl, fun w' hw' => by obtain ⟨q1, q2, q3, q4⟩ := hw'; go_simp⟩) HSW.out ?_
                simp only [Act.put, List.setIfInBounds_toArray, List.set_cons_zero, List.set_cons_succ]
                refine takeD (i := 23) (some 78) (v := .int .i64 ((x2 : Int) + 1)) rfl rfl (by kernel_rfl) (by kernel_rfl) (by kernel_rfl) (fun _ _ _ h => h) (.inl ⟨by rfl, fun w' hw' => by obtain ⟨q1, q2, q3, q4⟩ := hw'; go_simp⟩) HSW.out ?_
                simp only [Act.put, List.setIfInBounds_toArray, List.set_cons_zero, List.set_cons_succ]
                refine takeD (i := 24) (some 79) (v := .int .i64 mv) rfl rfl (by kernel_rfl) (by kernel_rfl) (by kernel_rfl) (fun _ _ _ h => h) (.inl ⟨by rfl, fun w' hw' => by rw [hmv]; clear hmv hmn HT9 HW9; go_simp; (repeat' split) <;> omega⟩) HSW.out ?_
                simp only [Act.put, List.setIfInBounds_toArray, List.set_cons_zero, List.set_cons_succ]
                clear hmv hmn
                refine takeD (i := 25) (some 80) (v := .pointer (some ⟨G2 i, l, none⟩)) rfl rfl (by kernel_rfl) (by kernel_rfl) (by kernel_rfl) (fun _ _ _ h => h) (.inl ⟨by rfl, fun w' hw' => by obtain ⟨q1, q2, q3, q4⟩ := hw'; go_simp⟩) HSW.out ?_
                simp only [Act.put, List.setIfInBounds_toArray, List.set_cons_zero, List.set_cons_succ]
                refine wpAnyH_done (by kernel_rfl) ?_ _
                refine peelQ_step rfl (fun K hK => ?_)
                go_simp
                refine hK _ _ ?_
                clear hK K HSW
                go_wp2
                go_roundw
                case rel => exact ⟨l + 1, by omega, by go_num, _, HT9, HW9⟩
                case measure => simp [intOf]; omega
        · have hll : l = q.length + 1 := by omega
          subst hll
          have HWn := Lib.hid HWb.out.next
          clear HWb
          go_wp2
          go_roundw
          case rel => exact ⟨i + 1, by omega, by go_num, G2, f, HTb, HWn⟩
          case measure => simp [intOf]; omega
    · go_wp2
      go_ret
      have hii : i = p.length + 1 := by omega
      subst hii
      exact ⟨ob, G, f, rfl, HT.out, HW.out⟩
end Go.Proofs.Ytdepkpnicfcbiaa
