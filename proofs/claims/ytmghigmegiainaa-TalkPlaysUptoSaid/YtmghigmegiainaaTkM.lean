/- The walk of TalkPlays. -/
import Derived.Test.YtmghigmegiainaaPeel
import Derived.Deep.RegionLaw
import Derived.Deep.CutBlock
namespace Go.Proofs.Ytmghigmegiainaa
open Go.RowKit

/-- one pair of talkers: none, or two new ones that lie between lo and hi -/
def Mk (wr : World) (lo hi : Nat) (who slots : Int) (pv qv : Value) : Prop :=
  (pv = .pointer none ∧ qv = .pointer none) ∨ ∃ g gs c h hs d, pv = .pointer (some ⟨g, 0, none⟩) ∧ qv = .pointer (some ⟨h, 0, none⟩) ∧ newE who slots = 0 ∧ Tk wr 54 56 g gs c who (newS slots.toNat) ∧ Tk wr 59 61 h hs d who (newS slots.toNat) ∧
    lo ≤ g ∧ lo ≤ gs ∧ lo ≤ h ∧ lo ≤ hs ∧ g < hi ∧ gs < hi ∧ h < hi ∧ hs < hi
theorem Mk.same {wr w' : World} {lo hi : Nat} {who slots : Int} {pv qv : Value} (h : Mk wr lo hi who slots pv qv) (hb : ∀ b, lo ≤ b → b < hi → w'.heap[b]? = wr.heap[b]?) : Mk w' lo hi who slots pv qv := by
  rcases h with h | ⟨g, gs, c, h, hs, d, h1, h2, h3, h4, h5, h6, h7, h8, h9, k1, k2, k3, k4⟩
  · exact .inl h
  · exact .inr ⟨g, gs, c, h, hs, d, h1, h2, h3, ⟨(hb _ h6 k1).trans h4.head, h4.row.keep (hb _ h7 k2), h4.ne⟩, ⟨(hb _ h8 k3).trans h5.head, h5.row.keep (hb _ h9 k4), h5.ne⟩, h6, h7, h8, h9, k1, k2, k3, k4⟩
theorem Mk.lo_ {wr : World} {lo lo' hi hi' : Nat} {who slots : Int} {pv qv : Value} (h : Mk wr lo hi who slots pv qv) (hb : lo' ≤ lo) (hh : hi ≤ hi') : Mk wr lo' hi' who slots pv qv := by
  rcases h with h | ⟨g, gs, c, h, hs, d, h1, h2, h3, h4, h5, h6, h7, h8, h9, k1, k2, k3, k4⟩
  · exact .inl h
  · exact .inr ⟨g, gs, c, h, hs, d, h1, h2, h3, h4, h5, by omega, by omega, by omega, by omega, by omega, by omega, by omega, by omega⟩
/-- the relation of the first loop -/
def Rel1 (w : World) (b : Nat) (one two slots : Int) (k : Nat) (wr : World) : Prop :=
  ∃ p0 q0 p1 q1 m, Hid (Below w.heap.size w wr) ∧ Hid (Blk wr b 25 #[p0, p1]) ∧ Hid (Blk wr (b + 1) 27 #[q0, q1]) ∧ b + 2 ≤ m ∧ m ≤ wr.heap.size ∧ Hid (Mk wr (b + 2) m one slots p0 q0) ∧ Hid (Mk wr m wr.heap.size two slots p1 q1) ∧
      (k = 0 → p0 = .pointer none ∧ q0 = .pointer none) ∧ (k ≤ 1 → p1 = .pointer none ∧ q1 = .pointer none)
section
variable {w wr : World} {b : Nat} {one two slots : Int} {p0 q0 p1 q1 : Value} {m : Nat}
theorem two_set {w6 : World} {b i : Nat} (pv qv : Value) : ∀ j, b + 2 ≤ j → ((w6.setCell ⟨b, i, none⟩ pv).setCell ⟨b + 1, i, none⟩ qv).heap[j]? = w6.heap[j]? := fun j hj => by
  rw [Below.heap_setCell _ _ _ _ (by show j ≠ b + 1; omega), Below.heap_setCell _ _ _ _ (by show j ≠ b; omega)]
theorem rel_zero (hX : Below w.heap.size w wr) (hn : p1 = .pointer none ∧ q1 = .pointer none) (hz : b + 2 ≤ wr.heap.size) (w6 : World) (pv qv : Value) (hb6 : Below wr.heap.size wr w6) (hp : Blk w6 b 25 #[p0, p1]) (hq : Blk w6 (b + 1) 27 #[q0, q1])
    (hw : w.heap.size ≤ b) (hm : Mk w6 wr.heap.size w6.heap.size one slots pv qv) : Rel1 w b one two slots 1 ((w6.setCell ⟨b, 0, none⟩ pv).setCell ⟨b + 1, 0, none⟩ qv) := by
  have hs : ((w6.setCell ⟨b, 0, none⟩ pv).setCell ⟨b + 1, 0, none⟩ qv).heap.size = w6.heap.size := by simp [World.setCell]
  have h6 := hb6.size
  refine ⟨pv, qv, .pointer none, .pointer none, w6.heap.size, Lib.hid ?_, Lib.hid ?_, Lib.hid ?_, by omega, by rw [hs]; exact Nat.le_refl _, Lib.hid ?_, Lib.hid (.inl ⟨rfl, rfl⟩), fun h => by omega, fun _ => ⟨rfl, rfl⟩⟩
  · exact ((hX.trans (hb6.mono hX.size)).setCell (p := ⟨b, 0, none⟩) hw pv).setCell (p := ⟨b + 1, 0, none⟩) (by show w.heap.size ≤ b + 1; omega) qv
  · have := (hp.set_ 0 pv).far (p := ⟨b + 1, 0, none⟩) (by show b ≠ b + 1; omega) qv
    rw [hn.1] at this; simpa using this
  · have := (hq.far (p := ⟨b, 0, none⟩) (by show b + 1 ≠ b; omega) pv).set_ 0 qv
    rw [hn.2] at this; simpa using this
  · exact (hm.lo_ hz (Nat.le_refl _)).same fun j hj _ => two_set pv qv j hj
theorem rel_one (hX : Below w.heap.size w wr) (hM0 : Mk wr (b + 2) m one slots p0 q0) (hm1 : b + 2 ≤ m) (hm2 : m ≤ wr.heap.size) (w6 : World) (pv qv : Value) (hb6 : Below wr.heap.size wr w6) (hp : Blk w6 b 25 #[p0, p1]) (hq : Blk w6 (b + 1) 27 #[q0, q1])
    (hw : w.heap.size ≤ b) (hm : Mk w6 wr.heap.size w6.heap.size two slots pv qv) : Rel1 w b one two slots 2 ((w6.setCell ⟨b, 1, none⟩ pv).setCell ⟨b + 1, 1, none⟩ qv) := by
  have hs : ((w6.setCell ⟨b, 1, none⟩ pv).setCell ⟨b + 1, 1, none⟩ qv).heap.size = w6.heap.size := by simp [World.setCell]
  have h6 := hb6.size
  refine ⟨p0, q0, pv, qv, m, Lib.hid ?_, Lib.hid ?_, Lib.hid ?_, hm1, by rw [hs]; omega, Lib.hid ?_, Lib.hid ?_, fun h => by omega, fun h => by omega⟩
  · exact ((hX.trans (hb6.mono hX.size)).setCell (p := ⟨b, 1, none⟩) hw pv).setCell (p := ⟨b + 1, 1, none⟩) (by show w.heap.size ≤ b + 1; omega) qv
  · have := (hp.set_ 1 pv).far (p := ⟨b + 1, 1, none⟩) (by show b ≠ b + 1; omega) qv
    simpa using this
  · have := (hq.far (p := ⟨b, 1, none⟩) (by show b + 1 ≠ b; omega) pv).set_ 1 qv
    simpa using this
  · exact hM0.same fun j hj hlt => (two_set pv qv j hj).trans (hb6.block j (by omega))
  · rw [hs]
    exact (hm.lo_ hm2 (Nat.le_refl _)).same fun j hj _ => two_set pv qv j (by omega)
end
theorem Mk.below {wr w' : World} {lo hi : Nat} {who slots : Int} {pv qv : Value} (h : Mk wr lo hi who slots pv qv) (hb : Below hi wr w') : Mk w' lo hi who slots pv qv := by
  rcases h with h | ⟨g, gs, c, h, hs, d, h1, h2, h3, h4, h5, h6, h7, h8, h9, k1, k2, k3, k4⟩
  · exact .inl h
  · exact .inr ⟨g, gs, c, h, hs, d, h1, h2, h3, ⟨h4.head.below hb k1, h4.row.keep (hb.block _ k2), h4.ne⟩, ⟨h5.head.below hb k3, h5.row.keep (hb.block _ k4), h5.ne⟩, h6, h7, h8, h9, k1, k2, k3, k4⟩

theorem newE_zero {who slots : Int} (h : newE who slots = 0) : 1 ≤ slots ∧ slots ≤ 20 := by
  unfold newE at h
  split at h
  · cases h
  · split at h
    · cases h
    · omega
def Inv (ES : Nat → List Ent) (W : Nat → List (List Told)) (n : Nat) : Prop := ∀ k, k < 2 → EsOk (ES k) ∧ (ES k).length ≤ 20 ∧ (W k).length ≤ n ∧ ∀ l ∈ W k, l.length ≤ 20
theorem Inv.es {ES : Nat → List Ent} {W : Nat → List (List Told)} {n : Nat} (h : Inv ES W n) {k : Nat} (_hk : k < 2) {es : List Ent} (hok : EsOk es) (hl : es.length ≤ 20) : Inv (upd ES k es) W (n + 1) := by
  intro j hj
  obtain ⟨h1, h2, h3, h4⟩ := h j hj
  by_cases hjk : j = k
  · subst hjk; rw [upd_at]; exact ⟨hok, hl, by omega, h4⟩
  · rw [upd_ne _ _ hjk]; exact ⟨h1, h2, by omega, h4⟩
theorem slot_ne {w : World} {g gs c ob t : Nat} {who : Int} {es : List Ent} {cs : Array Value} {ht et : Nat} (h : Tk w ht et g gs c who es) (hb : Blk w ob t cs) (hne : t ≠ et) : some ob ≠ some gs := fun e => by
  injection e with e
  obtain ⟨cur, h1, _⟩ := h.row.blk
  exact Blk.ne_ hb h1 hne e
theorem takeS_length (es : List Ent) : (takeS es).length = es.length := by simp [takeS]
theorem told_slot {w : World} {B g gs c : Nat} {who : Int} {es : List Ent} {ht et : Nat} {v : Value} {l : List Told} (h : ToldRow w B v l) (hT : Tk w ht et g gs c who es) (hne : et ≠ 44) : v.ownBlock = none ∨ v.ownBlock ≠ some gs := .inr fun e => by
  obtain ⟨cur, hb⟩ := own_typed h.1 e
  obtain ⟨c1, b1, _⟩ := hT.row.blk
  exact Blk.ne_ b1 hb hne rfl
theorem Free.move {w wr wx : World} {T T' : Nat → Prop} {A : Option Addr} {N : Nat} (h : Free w wr T A N) (hB : ∀ (b : Nat) (cur : Array Value), Blk wr b 44 cur → Blk wx b 44 cur) (hT : ∀ b, T' b → T b ∨ wr.heap.size ≤ b) : Free w wx T' A N := fun hn => by
  obtain ⟨bl, cur, hA, hb, hs, h0, h1⟩ := h hn
  refine ⟨bl, cur, hA, hB _ _ hb, hs, h0, fun ht => ?_⟩
  rcases hT bl ht with h | h
  · exact h1 h
  · have := hb.lt; omega
theorem Inv.es0 {ES : Nat → List Ent} {W : Nat → List (List Told)} {n : Nat} (h : Inv ES W n) {k : Nat} (_hk : k < 2) {es : List Ent} (hok : EsOk es) (hl : es.length ≤ 20) : Inv (upd ES k es) W n := by
  intro j hj
  obtain ⟨h1, h2, h3, h4⟩ := h j hj
  by_cases hjk : j = k
  · subst hjk; rw [upd_at]; exact ⟨hok, hl, h3, h4⟩
  · rw [upd_ne _ _ hjk]; exact ⟨h1, h2, h3, h4⟩
theorem Inv.way_ {ES : Nat → List Ent} {W : Nat → List (List Told)} {n : Nat} (h : Inv ES W n) {j : Nat} (hj : j < 2) {L : List Told} {N : Nat} (hL : L.length ≤ N) (hN : N ≤ 20) : Inv ES (upd W j (W j ++ [L])) (n + 1) := by
  intro i hi
  obtain ⟨h1, h2, h3, h4⟩ := h i hi
  by_cases hij : i = j
  · subst hij; rw [upd_at]
    refine ⟨h1, h2, by simp; exact h3, fun l hl => ?_⟩
    rcases List.mem_append.1 hl with hl | hl
    · exact h4 l hl
    · simp at hl; subst hl; omega
  · rw [upd_ne _ _ hij]; exact ⟨h1, h2, by omega, h4⟩
theorem elems_fits {w : World} {S : Nat → Prop} {A : Option Addr} {c : Nat} {l : List Told} (h : Sl rTold w S A c l) : ∀ x ∈ l, x.fits := by
  obtain ⟨cs, he, _⟩ := h.flat
  exact (told_of_elems he).2
theorem own_cap {w : World} {base e n c : Nat} {A : Option Addr} {xs : List Value} (h : w.ownsRow base e 1 (.slice A n c) n xs) : n ≤ c ∧ c ≤ maxLen := by
  rcases h.2 with ⟨hv, h0⟩ | ⟨g, cap, cur, hv, _, _, h1, h2, _⟩
  · injection hv with _ h1 h2; subst h1; exact ⟨Nat.zero_le _, by rw [h2]; exact Nat.zero_le _⟩
  · injection hv with _ h3 h4; subst h4; exact ⟨h1, h2⟩
theorem tb_slot {w : World} {b g gs c : Nat} {who : Int} {es : List Ent} {ht et : Nat} (hb : TB w b) (h : Tk w ht et g gs c who es) (hne : et ≠ 44) : some b ≠ some gs := fun e => by
  injection e with e
  obtain ⟨cur, h1, _⟩ := h.row.blk
  exact hb.ne_ h1 hne e
theorem elems_one {α : Type} {ρ : Rep α} {w : World} {S : Nat → Prop} {cs : List Value} {xs : List α} (h : Elems ρ w S cs xs) : ∀ u ∈ cs, u.oneCell' = true := h.2.1
theorem Inv.cut {ES : Nat → List Ent} {W : Nat → List (List Told)} {n : Nat} (h : Inv ES W n) {k a : Nat} (_hk : k < 2) : Inv ES (upd W k ((W k).take a ++ (W k).drop (a + 1))) n := by
  intro i hi
  obtain ⟨h1, h2, h3, h4⟩ := h i hi
  by_cases hik : i = k
  · subst hik; rw [upd_at]
    refine ⟨h1, h2, by rw [List.length_append, List.length_take, List.length_drop]; omega, fun l hl => ?_⟩
    rcases List.mem_append.1 hl with hl | hl
    · exact h4 l (List.mem_of_mem_take hl)
    · exact h4 l (List.mem_of_mem_drop hl)
  · rw [upd_ne _ _ hik]; exact ⟨h1, h2, h3, h4⟩
theorem two_cell {w : World} {b t j : Nat} {V : Nat → Value} (h : Blk w b t #[V 0, V 1]) (hj : j < 2) : w.cell? ⟨b, j, none⟩ = some (V j) := by
  obtain ⟨c0, c1⟩ := blk2 h
  rcases (show j = 0 ∨ j = 1 by omega) with rfl | rfl
  · exact c0
  · exact c1
theorem infoLT : (Try.prog.info? 36).map (fun i => (i.zero, i.size, i.bytes)) = some (some (.slice none 0 0), 1, 24) := by kernel_rfl
theorem inv_new {slots : Int} (h : 1 ≤ slots ∧ slots ≤ 20) : Inv (fun _ => newS slots.toNat) (fun _ => []) 0 := fun k _ => ⟨EsOk.new _, by rw [newS_len]; omega, by simp, by simp⟩
theorem St.pcell {w wr : World} {bp bq bw : Nat} {G GS C H HS D : Nat → Nat} {who : Nat → Int} {EP EQ : Nat → List Ent} {V : Nat → Value} {W : Nat → List (List Told)} {T : Nat → Prop} (h : St w wr bp bq bw G GS C H HS D who EP EQ V W T) {k : Nat} (hk : k < 2) : wr.cell? ⟨bp, k, none⟩ = some (.pointer (some ⟨G k, 0, none⟩)) := by
  obtain ⟨c0, c1⟩ := blk2 h.pa
  rcases (show k = 0 ∨ k = 1 by omega) with rfl | rfl
  · exact c0
  · exact c1
theorem St.qcell {w wr : World} {bp bq bw : Nat} {G GS C H HS D : Nat → Nat} {who : Nat → Int} {EP EQ : Nat → List Ent} {V : Nat → Value} {W : Nat → List (List Told)} {T : Nat → Prop} (h : St w wr bp bq bw G GS C H HS D who EP EQ V W T) {k : Nat} (hk : k < 2) : wr.cell? ⟨bq, k, none⟩ = some (.pointer (some ⟨H k, 0, none⟩)) := by
  obtain ⟨c0, c1⟩ := blk2 h.qa
  rcases (show k = 0 ∨ k = 1 by omega) with rfl | rfl
  · exact c0
  · exact c1
theorem St.wcell {w wr : World} {bp bq bw : Nat} {G GS C H HS D : Nat → Nat} {who : Nat → Int} {EP EQ : Nat → List Ent} {V : Nat → Value} {W : Nat → List (List Told)} {T : Nat → Prop} (h : St w wr bp bq bw G GS C H HS D who EP EQ V W T) {k : Nat} (hk : k < 2) : wr.cell? ⟨bw, k, none⟩ = some (V k) := by
  obtain ⟨c0, c1⟩ := blk2 h.wa
  rcases (show k = 0 ∨ k = 1 by omega) with rfl | rfl
  · exact c0
  · exact c1
def two_ {α : Type} (a b : α) : Nat → α := fun j => if j = 0 then a else b
theorem two_0 {α : Type} (a b : α) : two_ a b 0 = a := rfl
theorem two_1 {α : Type} (a b : α) : two_ a b 1 = b := rfl
theorem two_all {α : Type} {Q : Nat → α → Prop} {a b : α} (h0 : Q 0 a) (h1 : Q 1 b) : ∀ k, k < 2 → Q k (two_ a b k) := by
  intro k hk
  rcases (show k = 0 ∨ k = 1 by omega) with rfl | rfl
  · exact h0
  · exact h1
theorem st_new {w wr : World} {b g0 gs0 c0 h0 hs0 d0 g1 gs1 c1 h1 hs1 d1 : Nat} {one two : Int} {es : List Ent} (hw : w.heap.size ≤ b) (hX : Below w.heap.size w wr) (hP : Blk wr b 25 #[.pointer (some ⟨g0, 0, none⟩), .pointer (some ⟨g1, 0, none⟩)])
    (hQ : Blk wr (b + 1) 27 #[.pointer (some ⟨h0, 0, none⟩), .pointer (some ⟨h1, 0, none⟩)]) (hT0 : Tk wr 54 56 g0 gs0 c0 one es) (hR0 : Tk wr 59 61 h0 hs0 d0 one es) (hT1 : Tk wr 54 56 g1 gs1 c1 two es) (hR1 : Tk wr 59 61 h1 hs1 d1 two es)
    (n1 : gs0 ≠ gs1) (n2 : hs0 ≠ hs1) (l1 : w.heap.size ≤ gs0) (l2 : w.heap.size ≤ gs1) (l3 : w.heap.size ≤ hs0) (l4 : w.heap.size ≤ hs1) :
    St w (wr.alloc (.cells #[.slice none 0 0, .slice none 0 0] 35)) b (b + 1) wr.heap.size (two_ g0 g1) (two_ gs0 gs1) (two_ c0 c1) (two_ h0 h1) (two_ hs0 hs1) (two_ d0 d1) (two_ one two) (fun _ => es) (fun _ => es) (fun _ => .slice none 0 0) (fun _ => []) (fun _ => False) := by
  have hb : Below wr.heap.size wr (wr.alloc (.cells #[.slice none 0 0, .slice none 0 0] 35)) := (Below.refl _ _).alloc (Nat.le_refl _) _
  exact {
    old := hX.alloc hX.size _
    pa := hP.alloc _
    qa := hQ.alloc _
    wa := Blk.new _ _ _
    tk := fun k hk => by
      rcases (show k = 0 ∨ k = 1 by omega) with rfl | rfl
      · exact hT0.below hb
      · exact hT1.below hb
    rk := fun k hk => by
      rcases (show k = 0 ∨ k = 1 by omega) with rfl | rfl
      · exact hR0.below hb
      · exact hR1.below hb
    way := fun k hk => WayRow.nil_ _ _ _
    gne := n1
    hne := n2
    vne := fun g h => by simp [Value.ownBlock] at h
    bw0 := hX.size
    gs0 := fun k hk => by
      rcases (show k = 0 ∨ k = 1 by omega) with rfl | rfl
      · exact l1
      · exact l2
    hs0 := fun k hk => by
      rcases (show k = 0 ∨ k = 1 by omega) with rfl | rfl
      · exact l3
      · exact l4
    tb := fun b h => h.elim }

set_option maxRecDepth 100000 in
set_option maxHeartbeats 8000000 in
theorem plays_any (S : Nat → Prop) (one two slots : Int) (A : Option Addr) (c : Nat) (ops : List TOp) (w : World) (h1 : I64 one) (h2 : I64 two) (hs : I64 slots) (h : Sl rOp w S A c ops) (hS : ∀ b, S b → b < w.heap.size) (hsz : ∀ o ∈ ops, o.l.length ≤ 2000000) :
    Calls Try.prog 3 #[.int .i64 one, .int .i64 two, .int .i64 slots, .slice A ops.length c] w fun e w' => e = .returned (.bool true) ∧ Below w.heap.size w w' := by
  have hl := h.le
  have hm := h.max
  unfold maxLen at hm
  have HL := Lib.hid h
  have HS := Lib.hid hS
  have HN := Lib.hid hsz
  have HW : Hid (∀ x ∈ [one, two], I64 x) := Lib.hid (by intro x hx; simp at hx; rcases hx with rfl | rfl <;> assumption)
  clear h hS hsz
  go_enter Try.func3, Try.ntmps3
  go_wp2_with fail
  refine (begun_any _).mono ?_
  rintro e w1 ⟨rfl, hb1⟩
  have HB1 := Lib.hid hb1
  have hsz1 := hb1.size
  clear hb1
  have hpa : Blk ((w1.alloc (.cells #[.pointer none, .pointer none] 25)).alloc (.cells #[.pointer none, .pointer none] 27)) w1.heap.size 25 #[.pointer none, .pointer none] := (Blk.new _ _ _).alloc _
  have hqa : Blk ((w1.alloc (.cells #[.pointer none, .pointer none] 25)).alloc (.cells #[.pointer none, .pointer none] 27)) (w1.heap.size + 1) 27 #[.pointer none, .pointer none] := by
    have := Blk.new (w1.alloc (.cells #[.pointer none, .pointer none] 25)) 27 #[.pointer none, .pointer none]
    rwa [World.size_alloc] at this
  have HPA := Lib.hid hpa
  have HQA := Lib.hid hqa
  have HX1 := Lib.hid ((HB1.out.alloc hsz1 (.cells #[.pointer none, .pointer none] 25)).alloc (by simp; omega) (.cells #[.pointer none, .pointer none] 27))
  have HZ1 : Hid (((w1.alloc (.cells #[.pointer none, .pointer none] 25)).alloc (.cells #[.pointer none, .pointer none] 27)).heap.size = w1.heap.size + 2) := Lib.hid (by simp)
  clear hpa hqa
  go_wp2
  generalize World.alloc (World.alloc w1 _) _ = w2 at *
  go_loopw [11] (fun i wr => ∃ k : Nat, i = .int .i64 (k : Int) ∧ k ≤ 2 ∧ Hid (Rel1 w w1.heap.size one two slots k wr)) (fun i _ => 2 - (intOf i).toNat)
  case atStart => exact ⟨0, rfl, by omega, Lib.hid ⟨.pointer none, .pointer none, .pointer none, .pointer none, w1.heap.size + 2, HX1, HPA, HQA, Nat.le_refl _, by rw [HZ1.out]; exact Nat.le_refl _, Lib.hid (.inl ⟨rfl, rfl⟩), Lib.hid (.inl ⟨rfl, rfl⟩), fun _ => ⟨rfl, rfl⟩, fun _ => ⟨rfl, rfl⟩⟩⟩
  case round =>
    obtain ⟨k, rfl, hk, hrel⟩ := hrel
    rcases (show k = 0 ∨ k = 1 ∨ k = 2 by omega) with rfl | rfl | rfl
    · skip
      as_aux_lemma =>
        obtain ⟨p0, q0, p1, q1, m, HX, HP, HQ, hm1, hm2, HM0, HM1, hk0, hk1⟩ := hrel.out
        clear hrel
        have hz : w1.heap.size + 2 ≤ wr.heap.size := by omega
        have HX2 := Lib.hid (HX.out.alloc HX.out.size (.cells #[.int .i64 one, .int .i64 two] 3))
        have hsz2 : (wr.alloc (.cells #[.int .i64 one, .int .i64 two] 3)).heap.size = wr.heap.size + 1 := by simp
        have REL := rel_zero (one := one) (two := two) (slots := slots) (p0 := p0) (q0 := q0) HX.out (hk1 (by omega)) hz
        clear hk1 hk0
        have HXr := Lib.hid ((Below.refl wr.heap.size wr).alloc (Nat.le_refl _) (.cells #[.int .i64 one, .int .i64 two] 3))
        have HSZ := Lib.hid hsz2
        clear hsz2
        go_wp2_with fail
        refine (new_any one slots _ (HW.out _ (by simp)) hs).mono ?_
        rintro e5 w5 ⟨hnew, hb5⟩
        rcases hnew with ⟨he, rfl⟩ | ⟨he, g, gs, c1, rfl, hg, hgs, hT⟩
        · have HE := Lib.hid he
          have HB5 := Lib.hid hb5
          clear hb5 he
          go_wp2_with fail
          refine (rNew_any one slots _ (HW.out _ (by simp)) hs).mono ?_
          rintro e6 w6 ⟨hnew, hb6⟩
          rcases hnew with ⟨_, rfl⟩ | ⟨he0, _⟩
          · have HB6 := Lib.hid (HXr.out.trans ((HB5.out.trans (hb6.mono HB5.out.size)).mono HXr.out.size))
            clear hb6
            have hp6 := HP.out.below HB6.out HP.out.lt
            have hq6 := HQ.out.below HB6.out HQ.out.lt
            obtain ⟨u0, u1⟩ := blk2 hp6
            obtain ⟨v0, v1⟩ := blk2 hq6
            have fp := hp6.frozen 0
            have fq := hq6.frozen 0
            have HP6 := Lib.hid hp6
            have HQ6 := Lib.hid hq6
            clear hp6 hq6
            have HMK : Hid (Mk w6 wr.heap.size w6.heap.size one slots (.pointer none) (.pointer none)) := Lib.hid (.inl ⟨rfl, rfl⟩)
            go_wp2
            go_roundw
            case rel => exact ⟨0 + 1, rfl, by omega, Lib.hid (REL w6 (.pointer none) (.pointer none) HB6.out HP6.out HQ6.out hsz1 HMK.out)⟩
            case measure => simp [intOf]
          · exact absurd he0 HE.out
        · have HE := Lib.hid he
          have HB5 := Lib.hid hb5
          have HT5 := Lib.hid hT
          clear hb5 he hT
          go_wp2_with fail
          refine (rNew_any one slots _ (HW.out _ (by simp)) hs).mono ?_
          rintro e6 w6 ⟨hnew, hb6⟩
          rcases hnew with ⟨he1, _⟩ | ⟨he0, g6, gs6, c6, rfl, hg6, hgs6, hT6⟩
          · exact absurd HE.out he1
          · have HB6 := Lib.hid (HXr.out.trans ((HB5.out.trans (hb6.mono HB5.out.size)).mono HXr.out.size))
            have hz5 := HB5.out.size
            rw [HSZ.out] at hz5 hg hgs
            have HMK : Hid (Mk w6 wr.heap.size w6.heap.size one slots (.pointer (some ⟨g, 0, none⟩)) (.pointer (some ⟨g6, 0, none⟩))) := Lib.hid (by
              have a1 := (HT5.out.below hb6).head.lt
              have a2 := (HT5.out.below hb6).row.lt
              have a3 := hT6.head.lt
              have a4 := hT6.row.lt
              exact .inr ⟨g, gs, c1, g6, gs6, c6, rfl, rfl, he0, HT5.out.below hb6, hT6, by omega, by omega, by omega, by omega, a1, a2, a3, a4⟩)
            clear hb6 hT6
            have hp6 := HP.out.below HB6.out HP.out.lt
            have hq6 := HQ.out.below HB6.out HQ.out.lt
            obtain ⟨u0, u1⟩ := blk2 hp6
            obtain ⟨v0, v1⟩ := blk2 hq6
            have fp := hp6.frozen 0
            have fq := hq6.frozen 0
            have HP6 := Lib.hid hp6
            have HQ6 := Lib.hid hq6
            clear hp6 hq6
            go_wp2
            go_roundw
            case rel => exact ⟨0 + 1, rfl, by omega, Lib.hid (REL w6 (.pointer (some ⟨g, 0, none⟩)) (.pointer (some ⟨g6, 0, none⟩)) HB6.out HP6.out HQ6.out hsz1 HMK.out)⟩
            case measure => simp [intOf]
    · skip
      as_aux_lemma =>
        obtain ⟨p0, q0, p1, q1, m, HX, HP, HQ, hm1, hm2, HM0, HM1, hk0, hk1⟩ := hrel.out
        clear hrel
        have hz : w1.heap.size + 2 ≤ wr.heap.size := by omega
        have HX2 := Lib.hid (HX.out.alloc HX.out.size (.cells #[.int .i64 one, .int .i64 two] 3))
        have hsz2 : (wr.alloc (.cells #[.int .i64 one, .int .i64 two] 3)).heap.size = wr.heap.size + 1 := by simp
        have REL := rel_one (one := one) (two := two) (slots := slots) (p1 := p1) (q1 := q1) HX.out HM0.out hm1 hm2
        clear hk1 hk0
        have HXr := Lib.hid ((Below.refl wr.heap.size wr).alloc (Nat.le_refl _) (.cells #[.int .i64 one, .int .i64 two] 3))
        have HSZ := Lib.hid hsz2
        clear hsz2
        go_wp2_with fail
        refine (new_any two slots _ (HW.out _ (by simp)) hs).mono ?_
        rintro e5 w5 ⟨hnew, hb5⟩
        rcases hnew with ⟨he, rfl⟩ | ⟨he, g, gs, c1, rfl, hg, hgs, hT⟩
        · have HE := Lib.hid he
          have HB5 := Lib.hid hb5
          clear hb5 he
          go_wp2_with fail
          refine (rNew_any two slots _ (HW.out _ (by simp)) hs).mono ?_
          rintro e6 w6 ⟨hnew, hb6⟩
          rcases hnew with ⟨_, rfl⟩ | ⟨he0, _⟩
          · have HB6 := Lib.hid (HXr.out.trans ((HB5.out.trans (hb6.mono HB5.out.size)).mono HXr.out.size))
            clear hb6
            have hp6 := HP.out.below HB6.out HP.out.lt
            have hq6 := HQ.out.below HB6.out HQ.out.lt
            obtain ⟨u0, u1⟩ := blk2 hp6
            obtain ⟨v0, v1⟩ := blk2 hq6
            have fp := hp6.frozen 1
            have fq := hq6.frozen 1
            have HP6 := Lib.hid hp6
            have HQ6 := Lib.hid hq6
            clear hp6 hq6
            have HMK : Hid (Mk w6 wr.heap.size w6.heap.size two slots (.pointer none) (.pointer none)) := Lib.hid (.inl ⟨rfl, rfl⟩)
            go_wp2
            go_roundw
            case rel => exact ⟨1 + 1, rfl, by omega, Lib.hid (REL w6 (.pointer none) (.pointer none) HB6.out HP6.out HQ6.out hsz1 HMK.out)⟩
            case measure => simp [intOf]
          · exact absurd he0 HE.out
        · have HE := Lib.hid he
          have HB5 := Lib.hid hb5
          have HT5 := Lib.hid hT
          clear hb5 he hT
          go_wp2_with fail
          refine (rNew_any two slots _ (HW.out _ (by simp)) hs).mono ?_
          rintro e6 w6 ⟨hnew, hb6⟩
          rcases hnew with ⟨he1, _⟩ | ⟨he0, g6, gs6, c6, rfl, hg6, hgs6, hT6⟩
          · exact absurd HE.out he1
          · have HB6 := Lib.hid (HXr.out.trans ((HB5.out.trans (hb6.mono HB5.out.size)).mono HXr.out.size))
            have hz5 := HB5.out.size
            rw [HSZ.out] at hz5 hg hgs
            have HMK : Hid (Mk w6 wr.heap.size w6.heap.size two slots (.pointer (some ⟨g, 0, none⟩)) (.pointer (some ⟨g6, 0, none⟩))) := Lib.hid (by
              have a1 := (HT5.out.below hb6).head.lt
              have a2 := (HT5.out.below hb6).row.lt
              have a3 := hT6.head.lt
              have a4 := hT6.row.lt
              exact .inr ⟨g, gs, c1, g6, gs6, c6, rfl, rfl, he0, HT5.out.below hb6, hT6, by omega, by omega, by omega, by omega, a1, a2, a3, a4⟩)
            clear hb6 hT6
            have hp6 := HP.out.below HB6.out HP.out.lt
            have hq6 := HQ.out.below HB6.out HQ.out.lt
            obtain ⟨u0, u1⟩ := blk2 hp6
            obtain ⟨v0, v1⟩ := blk2 hq6
            have fp := hp6.frozen 1
            have fq := hq6.frozen 1
            have HP6 := Lib.hid hp6
            have HQ6 := Lib.hid hq6
            clear hp6 hq6
            go_wp2
            go_roundw
            case rel => exact ⟨1 + 1, rfl, by omega, Lib.hid (REL w6 (.pointer (some ⟨g, 0, none⟩)) (.pointer (some ⟨g6, 0, none⟩)) HB6.out HP6.out HQ6.out hsz1 HMK.out)⟩
            case measure => simp [intOf]
    · obtain ⟨p0, q0, p1, q1, m, HX, HP, HQ, hm1, hm2, HM0, HM1, _, _⟩ := hrel.out
      clear hrel
      rcases HM0.out with ⟨rfl, rfl⟩ | ⟨g0, gs0, c0, h0, hs0, d0, rfl, rfl, he0, hT0, hR0, a1, a2, a3, a4, a5, a6, a7, a8⟩
      · obtain ⟨v0, v1⟩ := blk2 HQ.out
        go_wp2
        go_ret
        exact ⟨rfl, HX.out⟩
      · rcases HM1.out with ⟨rfl, rfl⟩ | ⟨g1, gs1, c1, h1, hs1, d1, rfl, rfl, he1, hT1, hR1, b1, b2, b3, b4, b5, b6, b7, b8⟩
        · obtain ⟨v0, v1⟩ := blk2 HQ.out
          go_wp2
          all_goals go_ret
          all_goals exact ⟨rfl, HX.out⟩
        · obtain ⟨v0, v1⟩ := blk2 HQ.out
          have hsl := newE_zero he0
          have HST := Lib.hid (st_new hsz1 HX.out HP.out HQ.out hT0 hR0 hT1 hR1 (by omega) (by omega) (by omega) (by omega) (by omega) (by omega))
          have HAL : Hid (Inv (fun _ => newS slots.toNat) (fun _ => []) 0) := Lib.hid (inv_new hsl)
          clear hT0 hR0 hT1 hR1 a1 a2 a3 a4 a5 a6 a7 a8 b1 b2 b3 b4 b5 b6 b7 b8 he0 he1
          have HWHO : Hid (∀ k, k < 2 → I64 (two_ one two k)) := Lib.hid (two_all (Q := fun _ x => I64 x) (HW.out _ (by simp)) (HW.out _ (by simp)))
          go_wp2
          generalize World.alloc wr _ = w3 at *
          generalize wr.heap.size = bw at *
          generalize two_ g0 g1 = G at *
          generalize two_ gs0 gs1 = GS at *
          generalize two_ c0 c1 = C at *
          generalize two_ h0 h1 = H at *
          generalize two_ hs0 hs1 = HS' at *
          generalize two_ d0 d1 = D at *
          generalize two_ one two = WHO at *
          generalize w1.heap.size + 1 = bq at *
          generalize w1.heap.size = bp at *
          clear v0 v1 hm1 hm2 hk HM0 HM1 HP HQ HX hsl
          go_loopw [18] (fun i wr => ∃ (n : Nat) (ES : Nat → List Ent) (V : Nat → Value) (W : Nat → List (List Told)) (T : Nat → Prop), i = .int .i64 (n : Int) ∧ n ≤ ops.length ∧ n ≤ 300 ∧ Hid (St w wr bp bq bw G GS C H HS' D WHO ES ES V W T) ∧ Hid (Inv ES W n)) (fun i _ => ops.length - (intOf i).toNat)
          case atStart => exact ⟨0, _, _, _, _, rfl, by omega, by omega, HST, HAL⟩
          case round =>
            obtain ⟨n, ES, V, W, T, rfl, hn1, hn2, HST, HIN⟩ := hrel
            by_cases hlt : n < ops.length
            · by_cases h300 : n < 300
              · have hold := HST.out.old
                obtain ⟨ad, AL, cl, rfl, hads, ⟨hf1, hf2, hf3, hf4, hf5⟩, hsl, o0, o1, o2, o3, o4, o5, o6⟩ := op_at (HL.out.below HS.out hold) hlt
                have hol := HN.out _ (List.getElem_mem hlt)
                generalize ops[n]'hlt = o at *
                have hbA : Below wr.heap.size wr (wr.alloc (.cells #[.int .i64 o.act, .int .i64 o.who, .int .i64 o.slot, .int .i64 o.num, .string o.val, .bool o.stay, .slice AL o.l.length cl] 38)) := (Below.refl _ _).alloc (Nat.le_refl _) _
                have HOB := Lib.hid (Blk.new wr 38 #[.int .i64 o.act, .int .i64 o.who, .int .i64 o.slot, .int .i64 o.num, .string o.val, .bool o.stay, .slice AL o.l.length cl])
                have HBA := Lib.hid hbA
                have HSL := Lib.hid hsl
                have HCH := Lib.hid (choose_any o.who 2)
                have hk2 := chooseN_lt o.who (n := 2) (by omega)
                clear hbA hsl hold
                go_wp2_with fail
                refine (HCH.out _ hf2 (by omega) (by omega)).mono ?_
                rintro e5 w5 ⟨rfl, rfl⟩
                clear HCH
                generalize chooseN o.who 2 = k at *
                clear o0 o1 o2 o3 o4 o5 o6
                obtain ⟨o0, o1, o2, o3, o4, o5, o6⟩ := blk7 HOB.out
                have c0 := St.pcell (HST.out.below HBA.out) hk2
                have c1 := St.qcell (HST.out.below HBA.out) hk2
                go_wp2_with fail
                go_quiet (fail)
                have hbb := below_drewN HBA.out nq
                have HSTb := Lib.hid (HST.out.below hbb)
                have HOBb := Lib.hid (HOB.out.drewN nq)
                have HSLb := Lib.hid (HSL.out.keep (w' := (wr.alloc (.cells #[.int .i64 o.act, .int .i64 o.who, .int .i64 o.slot, .int .i64 o.num, .string o.val, .bool o.stay, .slice AL o.l.length cl] 38)).drewN nq) fun p hp => hbb.cell (by have := HS.out _ hp; have := HST.out.old.size; omega))
                have hob := HST.out.old.size
                clear hbb o0 o1 o2 o3 o4 o5 o6 c0 c1 HBA HOB HSL HST
                generalize World.drewN _ nq = wb at *
                generalize wr.heap.size = ob at *
                obtain ⟨o0, o1, o2, o3, o4, o5, o6⟩ := blk7 HOBb.out
                obtain ⟨hI1, hI2, hI3, hI4⟩ := HIN.out k hk2
                have HI := Lib.hid (And.intro hI1 hI2)
                have hW1 := HWHO.out k hk2
                clear hI1 hI2
                go_upto_block 4 with fail
                go_cut [18, 23, 24, 25, 26, 27, 28, 29] from 78 to 227 (fun s18 _ _ _ _ _ _ _ wx => s18 = .int .i64 (n : Int) ∧ ∃ (ES' : Nat → List Ent) (V' : Nat → Value) (W' : Nat → List (List Told)) (T' : Nat → Prop), Hid (St w wx bp bq bw G GS C H HS' D WHO ES' ES' V' W' T') ∧ Hid (Inv ES' W' (n + 1)))
                case rest =>
                  obtain ⟨rfl, ES', V', W', T', HSTx, HINx⟩ := hcut
                  clear o0 o1 o2 o3 o4 o5 o6 hI3 hI4 HSTb HOBb HSLb HIN HI
                  generalize wc = w15 at *
                  as_aux_lemma =>
                    have HIx := Lib.hid (HINx.out k hk2).2.1
                    go_wp2_with fail
                    refine (tell_any (G k) (GS k) (C k) (WHO k) _ _ (HSTx.out.tk k hk2) HIx.out).mono ?_
                    rintro e1 wt1 ⟨⟨vt1, rfl, hr1⟩, hbt1⟩
                    have HSTy := Lib.hid (HSTx.out.below hbt1)
                    have HR1 := Lib.hid hr1
                    clear hr1 hbt1
                    go_wp2_with fail
                    refine (rTell_any (H k) (HS' k) (D k) (WHO k) _ _ (HSTy.out.rk k hk2) HIx.out).mono ?_
                    rintro e2 wt2 ⟨⟨vt2, rfl, hr2⟩, hbt2⟩
                    have HSTz := Lib.hid (HSTy.out.below hbt2)
                    obtain ⟨At1, ct1, rfl, hsl1, _⟩ := (HR1.out.below hbt2).sl
                    obtain ⟨At2, ct2, rfl, hsl2, _⟩ := hr2.sl
                    have HSA := Lib.hid (sameTold_any _ _ At1 At2 ct1 ct2 _ wt2 hsl1 hsl2)
                    clear hsl1 hsl2 hr2 hbt2
                    go_wp2_with fail
                    refine HSA.out.mono ?_
                    rintro e3 wt3 ⟨rfl, hbt3⟩
                    have HSTw := Lib.hid (HSTz.out.below hbt3)
                    clear hbt3
                    go_wp2
                    go_roundw
                    case rel => exact ⟨n + 1, ES', _, _, _, by go_num, by omega, by omega, HSTw, HINx⟩
                    case measure => simp [intOf]; omega
                by_cases ha1 : o.act = 1
                · have hb1 : (o.act == 1) = true := by simp [ha1]
                  as_aux_lemma =>
                    go_wp2_with fail
                    have HSTd := Lib.hid (HSTb.out.below (Below.refl wb.heap.size wb).drew)
                    have HOBd := Lib.hid HOBb.out.drew
                    have HS1 := Lib.hid (EsOk.say HI.out.1 (WHO k) o.slot o.val)
                    have HINx : Hid (Inv (upd ES k (sayS (WHO k) (ES k) o.slot o.val)) W (n + 1)) := Lib.hid (HIN.out.es hk2 HS1.out (by rw [sayS_length]; exact HI.out.2))
                    go_region_held3 (fun w' => w'.cell? ⟨ob, 2, none⟩ = some (.int .i64 o.slot) ∧ w'.cell? ⟨ob, 4, none⟩ = some (.string o.val))
                      (first
                        | exact ⟨o2, o4⟩
                        | exact OC9.out
                        | exact OC8.out)
                      (first
                        | (go_at_call 9; refine (say_any (G k) (GS k) (C k) (WHO k) (ES k) o.slot o.val _ (by exact HSTd.out.tk k hk2) (by exact HI.out.1) (by exact hW1) (by exact hf3) (by exact hf5) (by exact HI.out.2)).mono ?_; rintro e9 w9 ⟨rfl, hg9, hs9⟩; have HST9 := Lib.hid (HSTd.out.setP hk2 hg9 hs9 (sayS_length _ _ _ _)); have HOB9 := Lib.hid (HOBd.out.grown hg9 (slot_ne (HSTd.out.tk k hk2) HOBd.out (by decide))); have OC9 := Lib.hid (And.intro (blk7 HOB9.out).2.2.1 (blk7 HOB9.out).2.2.2.2.1); clear hg9 hs9)
                        | (go_at_call 10; refine (rSay_any (H k) (HS' k) (D k) (WHO k) (ES k) o.slot o.val _ (by exact HST9.out.rk k hk2) (by exact HI.out.1) (by exact hW1) (by exact hf3) (by exact hf5) (by exact HI.out.2)).mono ?_; rintro e8 w8 ⟨rfl, hg8, hs8⟩; have HSTx := Lib.hid (HST9.out.setQ hk2 hg8 hs8 (sayS_length _ _ _ _)); have HOB8 := Lib.hid (HOB9.out.grown hg8 (slot_ne (HST9.out.rk k hk2) HOB9.out (by decide))); have OC8 := Lib.hid (And.intro (blk7 HOB8.out).2.2.1 (blk7 HOB8.out).2.2.2.2.1); clear hg8 hs8))
                    clear o0 o1 o2 o3 o4 o5 o6 hI3 hI4
                    go_wp2_with fail
                    go_meet
                    exact ⟨rfl, upd ES k (sayS (WHO k) (ES k) o.slot o.val), _, _, _, HSTx, HINx⟩
                · have hb1 : (o.act == 1) = false := by simpa using ha1
                  by_cases ha2 : o.act = 2
                  · have hb2 : (o.act == 2) = true := by simp [ha2]
                    obtain ⟨j, hj, hjj, hjk⟩ : ∃ j : Nat, (1 : Int) - (k : Int) = (j : Int) ∧ j < 2 ∧ j ≠ k := ⟨1 - k, by omega, by omega, by omega⟩
                    go_wp2_with fail
                    refine (take_any (G k) (GS k) (C k) (WHO k) (ES k) wb (HSTb.out.tk k hk2) HI.out.2).mono ?_
                    rintro e5 w5 ⟨⟨v5, rfl, hr5⟩, hg5, hs5⟩
                    have HST5 := Lib.hid (HSTb.out.setP hk2 hg5 hs5 (takeS_length _))
                    have HR5 := Lib.hid hr5
                    have hge5 := hg5.size
                    clear hr5 hg5 hs5
                    go_wp2_with fail
                    refine (rTake_any (H k) (HS' k) (D k) (WHO k) (ES k) w5 (HST5.out.rk k hk2) HI.out.2 HI.out.1).mono ?_
                    rintro e6 w6 ⟨⟨v6, rfl, hr6⟩, hg6, hs6⟩
                    have HST6 := Lib.hid (HST5.out.setQ hk2 hg6 hs6 (takeS_length _))
                    have hr5' := HR5.out.grown hg6 (told_slot HR5.out (HST5.out.rk k hk2) (by decide))
                    obtain ⟨A5, c5, rfl, hsl5, ho5⟩ := hr5'.sl
                    obtain ⟨A6, c6, rfl, hsl6, ho6⟩ := hr6.sl
                    have HO5 := Lib.hid ho5
                    have HO6 := Lib.hid ho6
                    have HSE6 := Lib.hid (elems_fits hsl6)
                    have HSA := Lib.hid (sameTold_any _ _ A5 A6 c5 c6 _ w6 hsl5 hsl6)
                    have hge6 := hg6.size
                    clear hr5' hr6 hg6 hs6 hsl5 hsl6 ho5 ho6
                    go_wp2_with fail
                    refine HSA.out.mono ?_
                    rintro e7 w7 ⟨rfl, hb7⟩
                    have HB7 := Lib.hid hb7
                    have HST7 := Lib.hid (HST6.out.below hb7)
                    have hge7 := hb7.size
                    clear hb7
                    go_wp2_with fail
                    have hcw := HST7.out.wcell hjj
                    have hji : (j : Int) < 2 := by omega
                    have hjw : IntKind.i64.wrap (j : Int) = (j : Int) := by rw [IntKind.wrap_i64]; omega
                    have hbw := HST7.out.wa.lt
                    have HOE : Hid ((w7.alloc (.cells #[] 44)).drew.ownsRow w7.heap.size 44 5 (.slice (some ⟨w7.heap.size, 0, none⟩) 0 0) 0 []) := Lib.hid (World.ownsRow_made (base := w7.heap.size) (e := 44) (size := 5) w7 #[] 0 (Nat.le_refl _) (by simp [maxLen]) rfl)
                    have HB8 : Hid (Below w7.heap.size w7 (w7.alloc (.cells #[] 44)).drew) := Lib.hid ((Below.refl _ _).alloc (Nat.le_refl _) _).drew
                    have HRD : Hid (Reads (w7.alloc (.cells #[] 44)).drew w6.heap.size 5 A6 (takeL (ES k)).length (flatT (takeL (ES k)))) := Lib.hid ((((Reads.of_own HO6.out).below HB7.out).alloc hge7 (.cells #[] 44)).drew)
                    obtain ⟨i0, hinf, hz0, hz1, hz2⟩ := info_parts infoTO
                    obtain ⟨i1, hinf1, hy0, hy1, hy2⟩ := info_parts infoLT
                    have hlk := takeL_le (ES k)
                    have hlk2 := HI.out.2
                    obtain ⟨csj, hoj, hej⟩ := HST7.out.way j hjj
                    have hlj := (HIN.out j hjj).2.2.1
                    have hw7 := HST7.out.old.size
                    have HOJ := Lib.hid hoj
                    have HEJ := Lib.hid hej
                    have HNE : Hid (some bw ≠ (V j).ownBlock) := Lib.hid (fun e => by obtain ⟨cur, hc⟩ := own_typed hoj e.symm; exact Blk.ne_ HST7.out.wa hc (by decide) rfl)
                    have HFR : Hid (Free w w7 T A5 (takeL (ES k)).length) := Lib.hid (Free.of_own (own_below_all HO5.out HB7.out) HSTb.out.old.size fun b hb => (HSTb.out.tb b hb).1.lt)
                    have HFT : Hid (∀ x ∈ takeL (ES k), x.fits) := HSE6
                    have hn5 := hlk
                    clear hoj hej HO5
                    generalize hL : takeL (ES k) = L at *
                    go_cut [23] (fun s23 wx => s23 = .slice A5 L.length c5 ∧ ∃ (v' : Value) (T' : Nat → Prop), Hid (St w wx bp bq bw G GS C H HS' D WHO (upd ES k (takeS (ES k))) (upd ES k (takeS (ES k))) (upd V j v') (upd W j (W j ++ [L])) T') ∧ Hid (Free w wx T' A5 L.length))
                    case first =>
                      refine wp_region_peel (n := 12) (peel_of (by kernel_rfl)) (by kernel_rfl) ?_
                      refine wpAny_of_held (S := fun w' => w'.cell? ⟨bw, j, none⟩ = some (V j)) _ _ _ _ ?_
                      refine wpAnyH_take (i := 0) rfl (by kernel_rfl) (by kernel_rfl) (by kernel_rfl) (fun _ _ _ h => h) (.inl ⟨by rfl, fun w' hw' => by rfl⟩) hcw ?_
                      refine wpAnyH_take (i := 1) (v := .int .i64 (j : Int)) rfl (by kernel_rfl) (by kernel_rfl) (by kernel_rfl) (fun _ _ _ h => h) (.inl ⟨by rfl, fun w' hw' => by go_simp⟩) hcw ?_
                      refine wpAnyH_take (i := 2) rfl (by kernel_rfl) (by kernel_rfl) (by kernel_rfl) (fun _ _ _ h => h) (.inl ⟨by rfl, fun w' hw' => by rfl⟩) hcw ?_
                      refine wpAnyH_take (i := 3) (v := .int .i64 (j : Int)) rfl (by kernel_rfl) (by kernel_rfl) (by kernel_rfl) (fun _ _ _ h => h) (.inl ⟨by rfl, fun w' hw' => by go_simp⟩) hcw ?_
                      refine wpAnyH_take (i := 4) (v := .pointer (some ⟨bw, j, none⟩)) rfl (by kernel_rfl) (by kernel_rfl) (by kernel_rfl) (fun _ _ _ h => h) (.inl ⟨by rfl, fun w' hw' => by go_simp⟩) hcw ?_
                      refine wpAnyH_take (i := 5) (v := V j) rfl (by kernel_rfl) (by kernel_rfl) (by kernel_rfl) (fun _ _ _ h => h) (.inl ⟨by rfl, fun w' hw' => by go_simp⟩) hcw ?_
                      refine wpAnyH_take (i := 7) rfl (by kernel_rfl) (by kernel_rfl) (by kernel_rfl) (fun _ _ _ h => h) (.inl ⟨by rfl, fun w' hw' => by rfl⟩) hcw ?_
                      refine wpAnyH_ready (rs := [6]) (by kernel_rfl) (by simp) ?_
                      refine AllReadyH.cons rfl (fun K hK => ?_) AllReadyH.nil
                      go_simp
                      refine hK.out _ _ ((HB8.out.cell (p := ⟨bw, j, none⟩) hbw).trans hcw) (fun hcd => ?_)
                      clear hK K
                      refine wpAnyH_ready (rs := [8]) (by kernel_rfl) (by simp) ?_
                      refine AllReadyH.cons rfl (fun K hK => ?_) AllReadyH.nil
                      refine step_append_any _ (by rfl) (Operand.tmp 134) (Operand.tmp 135) 36 (by rfl) w7.heap.size 44 i0 _ 5 48 Try.underlying36 hinf hz0 hz1 hz2 rfl (by omega) (.slice (some ⟨w7.heap.size, 0, none⟩) 0 0) 0 [] (by rfl) (by exact HOE.out) w6.heap.size A6 _ c6 (flatT L) (by rfl) (by exact HRD.out) (flatT_one _) (by unfold maxLen; omega) (by omega) (by exact HB8.out.size) ?_
                      intro v9 w9 hown9 hg9 hat9
                      rw [Nat.zero_add, List.nil_append] at hown9
                      obtain ⟨A9, c9, rfl⟩ := own_slice hown9
                      have HW9 := Lib.hid hown9
                      have HG9 := Lib.hid hg9
                      have HB9 := Lib.hid (HB8.out.grown hg9 HB8.out.size (fun q hq => by have hq' : some w7.heap.size = some q := hq; injection hq' with hq'; omega))
                      have HOJ9 := Lib.hid ((own_below_all HOJ.out HB9.out).alloc (.cells #[.slice A9 L.length c9] 36))
                      have hc9 := (HB9.out.cell (p := ⟨bw, j, none⟩) hbw).trans hcw
                      have hbw9 := Nat.lt_of_lt_of_le hbw HB9.out.size
                      have hbs9 := HB9.out.size
                      clear hown9 hg9 hat9
                      refine hK.out _ _ hc9 (fun _ => ?_)
                      clear hK K hcd
                      refine wpAnyH_ready (rs := [9]) (by kernel_rfl) (by simp) ?_
                      refine AllReadyH.cons rfl (fun K hK => ?_) AllReadyH.nil
                      go_simp
                      have HB10 : Hid (Below w9.heap.size w9 (w9.alloc (.cells #[.slice A9 L.length c9] 36))) := Lib.hid ((Below.refl _ _).alloc (Nat.le_refl _) _)
                      refine hK.out _ _ ((HB10.out.cell (p := ⟨bw, j, none⟩) hbw9).trans hc9) (fun hcd => ?_)
                      clear hK K
                      refine wpAnyH_ready (rs := [10]) (by kernel_rfl) (by simp) ?_
                      refine AllReadyH.cons rfl (fun K hK => ?_) AllReadyH.nil
                      refine step_append_any _ (by rfl) (Operand.tmp 133) (Operand.tmp 137) 34 (by rfl) w.heap.size 36 i1 _ 1 24 Try.underlying34 hinf1 hy0 hy1 hy2 rfl (by omega) (V j) (W j).length csj (by rfl) (by exact HOJ9.out) (w9.heap.size + 1) (some ⟨w9.heap.size, 0, none⟩) 1 1 [.slice A9 L.length c9] (by rfl) ⟨rfl, fun _ => ⟨_, rfl, by simp, cells_new _ [_] _⟩⟩ (by simp [Value.oneCell']) (by unfold maxLen; omega) (by omega) (by simp only [World.size_alloc]; omega) ?_
                      intro v11 w11 hown11 hg11 hat11
                      have hwa := ((HST7.out.wa.below (HB9.out.trans (HB10.out.mono HB9.out.size)) hbw).grown hg11 HNE.out)
                      have hc11 := two_cell hwa hjj
                      have hf11 := hwa.frozen j
                      obtain ⟨T', hst', hTT', hbl'⟩ := HST7.out.push hjj HB8.out HFT.out HW9.out HG9.out HB8.out.size HB10.out HEJ.out hown11 hg11 hat11
                      have HSTx := Lib.hid hst'
                      have HTT := Lib.hid hTT'
                      have HBL := Lib.hid hbl'
                      obtain ⟨A11, c11, rfl⟩ := own_slice hown11
                      clear hown11 hg11 hat11 hwa hst' hTT' hbl'
                      refine hK.out _ _ hc11 (fun _ => ?_)
                      clear hK K hcd
                      refine wpAnyH_take (i := 11) (v := .pointer (some ⟨bw, j, none⟩)) rfl (by kernel_rfl) (by kernel_rfl) (by kernel_rfl) (fun _ _ _ h => h) (.inl ⟨by rfl, fun w' hw' => by go_simp⟩) hc11 ?_
                      refine wpAnyH_done (by kernel_rfl) ?_ _
                      refine peelQ_step rfl (fun K hK => ?_)
                      go_simp
                      refine hK _ _ ?_
                      clear hK K
                      go_wp2_with fail
                      go_meet
                      exact ⟨rfl, _, T', HSTx, Lib.hid (HFR.out.move HBL.out HTT.out)⟩
                    case rest =>
                      obtain ⟨rfl, v', T', HSTy, HFy⟩ := hcut
                      have HINx : Hid (Inv (upd ES k (takeS (ES k))) (upd W j (W j ++ [L])) (n + 1)) := Lib.hid ((HIN.out.way_ hjj hn5 HI.out.2).es0 hk2 (EsOk.take HI.out.1) (by rw [takeS_length]; exact HI.out.2))
                      clear HOJ HEJ HNE HFR HFT HOE HRD HB8 hcw hbw HST7 HST6 HST5
                      generalize wc = w12 at *
                      go_wp2
                      go_loopw [25] (fun i wr2 => ∃ q : Nat, q ≤ L.length ∧ i = .int .i64 (q : Int) ∧ Hid (St w wr2 bp bq bw G GS C H HS' D WHO _ _ _ _ T') ∧ Hid (Free w wr2 T' A5 L.length)) (fun i _ => L.length - (intOf i).toNat)
                      case atStart => exact ⟨0, by omega, rfl, HSTy, HFy⟩
                      case round =>
                        obtain ⟨q, hq, rfl, HSq, HFq⟩ := hrel
                        by_cases hql : q < L.length
                        · obtain ⟨bl, rfl, ⟨z0, z1, z2, z3, z4, y0, y1, y2, y3, y4⟩, hfz⟩ := HFq.out.cells hql
                          have f0 := hfz (q * 5)
                          have f1 := hfz (q * 5 + 1)
                          have f2 := hfz (q * 5 + 2)
                          have f3 := hfz (q * 5 + 3)
                          have f4 := hfz (q * 5 + 4)
                          obtain ⟨w', hw', hs', hf'⟩ := Free.step (n0 := q * 5) (n1 := q * 5 + 1) (n2 := q * 5 + 2) (n3 := q * 5 + 3) (n4 := q * 5 + 4) (by omega) rfl HFq.out HSq.out (.int .i64 0) (.int .i64 0) (.int .i64 0) (.string ⟨#[]⟩) (.bool false)
                          rw [hw'] at hs' hf'
                          have HS2 := Lib.hid hs'
                          have HF2 := Lib.hid hf'
                          clear hw' hs' hf' hfz
                          go_wp2
                          go_roundw
                          case rel => exact ⟨q + 1, by omega, by go_num, HS2, HF2⟩
                          case measure => simp [intOf]; omega
                        · have HSTx := HSq
                          clear HSTy HFy
                          go_wp2_with fail
                          go_meet
                          exact ⟨rfl, upd ES k (takeS (ES k)), _, _, _, HSTx, HINx⟩
                  · have hb2 : (o.act == 2) = false := by simpa using ha2
                    by_cases ha3 : o.act = 3
                    · have hb3 : (o.act == 3) = true := by simp [ha3]
                      obtain ⟨csk, hok, hek⟩ := HSTb.out.way k hk2
                      obtain ⟨Av, cv, hVk⟩ := own_slice hok
                      have hcw := HSTb.out.wcell hk2
                      rw [hVk] at hcw hok
                      have hle := own_cap hok
                      have HVK := Lib.hid hVk
                      have HOK := Lib.hid hok
                      have HEK := Lib.hid hek
                      clear hVk hok hek
                      have hwb := HSTb.out.old.size
                      have HINy : Hid (Inv ES W (n + 1)) := Lib.hid (fun j hj => ⟨(HIN.out j hj).1, (HIN.out j hj).2.1, Nat.le_succ_of_le (HIN.out j hj).2.2.1, (HIN.out j hj).2.2.2⟩)
                      by_cases hemp : (W k).length = 0
                      · have hempb : (((W k).length : Int) == 0) = true := by simp [hemp]
                        go_wp2
                        go_roundw
                        case rel => exact ⟨n + 1, ES, _, _, _, by go_num, by omega, by omega, HSTb, HINy⟩
                        case measure => simp [intOf]; omega
                      · have hempb : (((W k).length : Int) == 0) = false := beq_eq_false_iff_ne.2 (by omega)
                        have HCH := Lib.hid (choose_any o.num (W k).length)
                        have hal := chooseN_lt o.num (n := (W k).length) (by omega)
                        go_wp2_with fail
                        go_quiet ((first
                          | (go_at_call 8; exact quiet_left (HCH.out _ (by exact hf4) (by omega) (by omega)))
                          | (go_at_call 8; exact quiet_add_left (HCH.out _ (by exact hf4) (by omega) (by omega)))))
                        have hb2 := below_drewN (Below.refl wb.heap.size wb) nq
                        have HST2 := Lib.hid (HSTb.out.below hb2)
                        have HOB2 := Lib.hid (HOBb.out.drewN nq)
                        have hok2 := own_below_all HOK.out hb2
                        have hek2 := HEK.out.below_ (fun b hb => (HSTb.out.tb b hb).1.lt) hb2
                        generalize World.drewN wb nq = w2 at *
                        generalize chooseN o.num (W k).length = a at *
                        clear hb2 o0 o1 o2 o3 o4 o5 o6 HCH hcw hemp hempb
                        have hcw2 := HST2.out.wcell hk2
                        rw [HVK.out] at hcw2
                        obtain ⟨adv, rfl, hadv, hcells⟩ := (Reads.of_own hok2).2 (by omega)
                        obtain ⟨u, ⟨Al, cl2, rfl, hslT⟩, hcs⟩ := hek2.2.2 a _ (List.getElem?_eq_getElem hal)
                        have hca := hcells _ _ (hcs 0 _ rfl)
                        simp only [show (rList rTold).size = 1 from rfl, Nat.mul_one, Nat.add_zero] at hca
                        have hl20 := hI4 _ (List.getElem_mem hal)
                        have HEK2 := Lib.hid hek2
                        have HOK2 := Lib.hid hok2
                        generalize (W k)[a]'hal = l at *
                        obtain ⟨i0, hinf, hz0, hz1, hz2⟩ := info_parts infoTO
                        have hw2 := HST2.out.old.size
                        have hTlt : ∀ b, T b → b < w2.heap.size := fun b hb => (HST2.out.tb b hb).1.lt
                        obtain ⟨csl, hel, hrd⟩ := hslT.reads (B := w2.heap.size) hTlt
                        obtain ⟨rfl, hfit⟩ := told_of_elems hel
                        have HFT := Lib.hid hfit
                        have HSLT := Lib.hid hslT
                        have hoe : (w2.alloc (.cells #[] 44)).ownsRow w2.heap.size 44 5 (.slice (some ⟨w2.heap.size, 0, none⟩) 0 0) 0 [] := World.ownsRow_made (base := w2.heap.size) (e := 44) (size := 5) w2 #[] 0 (Nat.le_refl _) (by simp [maxLen]) rfl
                        have hrd2 := hrd.alloc (Nat.le_refl _) (.cells #[] 44)
                        have HB8 : Hid (Below w2.heap.size w2 (w2.alloc (.cells #[] 44))) := Lib.hid ((Below.refl _ _).alloc (Nat.le_refl _) _)
                        clear hel hfit hrd hok2 hek2 hcs hslT hcells
                        go_wp2_with (at_builtin; refine unhide ?_)
                        unfold Hid
                        refine wpList_append_any _ rfl _ _ 36 rfl w2.heap.size 44 i0 _ 5 48 Try.underlying36 hinf hz0 hz1 hz2 rfl (by omega) (.slice (some ⟨w2.heap.size, 0, none⟩) 0 0) 0 [] rfl hoe w2.heap.size Al _ cl2 (flatT l) rfl hrd2 (flatT_one _) (by unfold maxLen; omega) (by omega) HB8.out.size ?_
                        intro v9 w9 hown9 hg9 hat9
                        rw [Nat.zero_add, List.nil_append] at hown9
                        obtain ⟨A9, c9, rfl⟩ := own_slice hown9
                        have HB9 := Lib.hid (HB8.out.grown hg9 HB8.out.size (fun q hq => by have hq' : some w2.heap.size = some q := hq; injection hq' with hq'; omega))
                        have HO9 := Lib.hid hown9
                        have HST9 := Lib.hid (HST2.out.below HB9.out)
                        have HOB9 := Lib.hid (HOB2.out.below HB9.out HOB2.out.lt)
                        have HSLT9 := Lib.hid (HSLT.out.below hTlt HB9.out)
                        clear hown9 hg9 hat9 hoe hrd2 hca hcw2
                        have HSL9 : Hid (Sl rTold w9 (fun b => w2.heap.size ≤ b ∧ b < w9.heap.size) A9 c9 l) := Lib.hid (Sl.of_own (ρ := rTold) HO9.out (elems_told HFT.out) fun q hq => ⟨own_ge HO9.out q hq, own_lt HO9.out q hq⟩)
                        have HGK := Lib.hid (HST2.out.tk k hk2).row.lt
                        go_wp2_with fail
                        refine (hear_any (fun b => w2.heap.size ≤ b ∧ b < w9.heap.size) A9 c9 l (G k) (GS k) (C k) (WHO k) (ES k) _ (HST9.out.tk k hk2) HI.out.2 HSL9.out (fun b hb => ⟨hb.2, fun e => by have h1 := HGK.out; have h2 := hb.1; omega⟩)).mono ?_
                        rintro e10 w10 ⟨rfl, hg10, hs10⟩
                        have HST10 := Lib.hid (HST9.out.setP hk2 hg10 hs10 (hearS_length _ _))
                        have HOB10 := Lib.hid (HOB9.out.grown hg10 (slot_ne (HST9.out.tk k hk2) HOB9.out (by decide)))
                        have HSLT10 := Lib.hid (HSLT9.out.keep fun p hp => World.cell?_of_block (hg10.block p.block (HST9.out.tb _ hp).1.lt (tb_slot (HST9.out.tb _ hp).1 (HST9.out.tk k hk2) (by decide))))
                        clear hg10 hs10
                        go_wp2_with fail
                        refine (rHear_any T Al cl2 l (H k) (HS' k) (D k) (WHO k) (ES k) _ (HST10.out.rk k hk2) HI.out.2 HI.out.1 HSLT10.out (fun b hb => ⟨(HST10.out.tb b hb).1.lt, fun e => tb_slot (HST10.out.tb b hb).1 (HST10.out.rk k hk2) (by decide) (congrArg some e)⟩)).mono ?_
                        rintro e11 w11 ⟨rfl, hg11, hs11⟩
                        have HST11 := Lib.hid (HST10.out.setQ hk2 hg11 hs11 (hearS_length _ _))
                        have HOB11 := Lib.hid (HOB10.out.grown hg11 (slot_ne (HST10.out.rk k hk2) HOB10.out (by decide)))
                        clear hg11 hs11 hI3 hI4
                        have o5 := (blk7 HOB11.out).2.2.2.2.2.1
                        have HS1 := Lib.hid (EsOk.hear HI.out.1 l)
                        have HINz : Hid (Inv (upd ES k (hearS (ES k) l)) W (n + 1)) := Lib.hid (HIN.out.es hk2 HS1.out (by rw [hearS_length]; exact HI.out.2))
                        cases hst : o.stay
                        · rw [hst] at o5
                          go_wp2_with fail
                          obtain ⟨csk2, hok3, hek3⟩ := HST11.out.way k hk2
                          rw [HVK.out] at hok3
                          have hcw := HST11.out.wcell hk2
                          rw [HVK.out] at hcw
                          have hbw := HST11.out.wa.lt
                          have hw11 := HST11.out.old.size
                          have hlk := (HIN.out k hk2).2.2.1
                          have hrdk := Reads.of_own hok3
                          have HEK3 := Lib.hid hek3
                          obtain ⟨i1, hinf1, hy0, hy1, hy2⟩ := info_parts infoLT
                          have hone := elems_one hek3
                          have hcl : csk2.length = (W k).length := by have := hek3.1; rwa [show (rList rTold).size = 1 from rfl, Nat.mul_one] at this
                          have HO1 := Lib.hid (fun u (hu : u ∈ csk2.take a) => hone u (List.mem_of_mem_take hu))
                          have HO2 := Lib.hid (fun u (hu : u ∈ csk2.drop (a + 1)) => hone u (List.mem_of_mem_drop hu))
                          have HB12 : Hid (Below w11.heap.size w11 (w11.alloc (.cells #[] 36)).drew) := Lib.hid ((Below.refl _ _).alloc (Nat.le_refl _) _).drew
                          have HOE : Hid ((w11.alloc (.cells #[] 36)).drew.ownsRow w11.heap.size 36 1 (.slice (some ⟨w11.heap.size, 0, none⟩) 0 0) 0 []) := Lib.hid (World.ownsRow_made (base := w11.heap.size) (e := 36) (size := 1) w11 #[] 0 (Nat.le_refl _) (by simp [maxLen]) rfl)
                          have hr1 := reads_take hrdk (m := a) (by omega)
                          rw [Nat.mul_one] at hr1
                          have HRD1 := Lib.hid (hr1.below HB12.out)
                          have hr2 := hrdk.cut (k := a + 1) (by omega) hle.1
                          rw [Nat.mul_one] at hr2
                          have hki : (k : Int) < 2 := by omega
                          have hwr : IntKind.i64.wrap ((a : Int) + 1) = (a : Int) + 1 := by rw [IntKind.wrap_i64]; omega
                          have hai : ((a : Int) + 1).toNat = a + 1 := by omega
                          clear hok3 hek3 hone hr1
                          have HINx : Hid (Inv (upd ES k (hearS (ES k) l)) (upd W k ((W k).take a ++ (W k).drop (a + 1))) (n + 1)) := Lib.hid (HINz.out.cut hk2)
                          have hadd : adv.add (a + 1) = ⟨adv.block, adv.off + (a + 1), none⟩ := by unfold Addr.add; simp
                          obtain ⟨A2, hA2⟩ : ∃ A2 : Option Addr, (if cv = a + 1 then some adv else some ⟨adv.block, adv.off + (a + 1), none⟩) = A2 := ⟨_, rfl⟩
                          have hr3 : Reads w11 w11.heap.size 1 A2 ((W k).length - (a + 1)) (csk2.drop (a + 1)) := by rw [← hA2, ← hadd]; exact hr2
                          clear hadd
                          have HRD2 := Lib.hid hr3
                          clear hr2 hr3
                          have hq1 : (a : Int) ≤ (cv : Int) := by omega
                          have hq2 : (a : Int) + 1 ≤ ((W k).length : Int) := by omega
                          have hq3 : ((W k).length : Int) ≤ (cv : Int) := by omega
                          have hq4 : (0 : Int) ≤ (a : Int) + 1 := by omega
                          refine wp_region_peel (n := 16) (peel_of (by kernel_rfl)) (by kernel_rfl) ?_
                          refine wpAny_of_held (S := fun w' => w'.cell? ⟨bw, k, none⟩ = some (.slice (some adv) (W k).length cv)) _ _ _ _ ?_
                          refine wpAnyH_take (i := 0) rfl (by kernel_rfl) (by kernel_rfl) (by kernel_rfl) (fun _ _ _ h => h) (.inl ⟨by rfl, fun w' hw' => by rfl⟩) hcw ?_
                          refine wpAnyH_take (i := 2) rfl (by kernel_rfl) (by kernel_rfl) (by kernel_rfl) (fun _ _ _ h => h) (.inl ⟨by rfl, fun w' hw' => by rfl⟩) hcw ?_
                          refine wpAnyH_take (i := 3) (v := .pointer (some ⟨bw, k, none⟩)) rfl (by kernel_rfl) (by kernel_rfl) (by kernel_rfl) (fun _ _ _ h => h) (.inl ⟨by rfl, fun w' hw' => by go_simp⟩) hcw ?_
                          refine wpAnyH_take (i := 4) (v := .slice (some adv) (W k).length cv) rfl (by kernel_rfl) (by kernel_rfl) (by kernel_rfl) (fun _ _ _ h => h) (.inl ⟨by rfl, fun w' hw' => by go_simp⟩) hcw ?_
                          refine wpAnyH_take (i := 5) rfl (by kernel_rfl) (by kernel_rfl) (by kernel_rfl) (fun _ _ _ h => h) (.inl ⟨by rfl, fun w' hw' => by rfl⟩) hcw ?_
                          refine wpAnyH_take (i := 6) (v := .slice (some adv) a cv) rfl (by kernel_rfl) (by kernel_rfl) (by kernel_rfl) (fun _ _ _ h => h) (.inl ⟨by rfl, fun w' hw' => by go_simp⟩) hcw ?_
                          refine wpAnyH_take (i := 8) rfl (by kernel_rfl) (by kernel_rfl) (by kernel_rfl) (fun _ _ _ h => h) (.inl ⟨by rfl, fun w' hw' => by rfl⟩) hcw ?_
                          refine wpAnyH_take (i := 9) (v := .pointer (some ⟨bw, k, none⟩)) rfl (by kernel_rfl) (by kernel_rfl) (by kernel_rfl) (fun _ _ _ h => h) (.inl ⟨by rfl, fun w' hw' => by go_simp⟩) hcw ?_
                          refine wpAnyH_take (i := 10) (v := .slice (some adv) (W k).length cv) rfl (by kernel_rfl) (by kernel_rfl) (by kernel_rfl) (fun _ _ _ h => h) (.inl ⟨by rfl, fun w' hw' => by go_simp⟩) hcw ?_
                          refine wpAnyH_take (i := 11) rfl (by kernel_rfl) (by kernel_rfl) (by kernel_rfl) (fun _ _ _ h => h) (.inl ⟨by rfl, fun w' hw' => by rfl⟩) hcw ?_
                          refine wpAnyH_take (i := 12) (v := .int .i64 ((a : Int) + 1)) rfl (by kernel_rfl) (by kernel_rfl) (by kernel_rfl) (fun _ _ _ h => h) (.inl ⟨by rfl, fun w' hw' => by go_simp⟩) hcw ?_
                          refine wpAnyH_take (i := 13) (v := .slice A2 ((W k).length - (a + 1)) (cv - (a + 1))) rfl (by kernel_rfl) (by kernel_rfl) (by kernel_rfl) (fun _ _ _ h => h) (.inl ⟨by rfl, fun w' hw' => by go_simp⟩) hcw ?_
                          refine wpAnyH_ready (rs := [1]) (by kernel_rfl) (by simp) ?_
                          refine AllReadyH.cons rfl (fun K hK => ?_) AllReadyH.nil
                          go_simp
                          refine hK.out _ _ ((HB12.out.cell (p := ⟨bw, k, none⟩) hbw).trans hcw) (fun hcd => ?_)
                          clear hK K
                          refine wpAnyH_ready (rs := [7]) (by kernel_rfl) (by simp) ?_
                          refine AllReadyH.cons rfl (fun K hK => ?_) AllReadyH.nil
                          refine step_append_any _ (by rfl) (Operand.tmp 183) (Operand.tmp 188) 34 (by rfl) w11.heap.size 36 i1 _ 1 24 Try.underlying34 hinf1 hy0 hy1 hy2 rfl (by omega) (.slice (some ⟨w11.heap.size, 0, none⟩) 0 0) 0 [] (by rfl) (by exact HOE.out) w11.heap.size (some adv) a (cv) (csk2.take a) (by rfl) (by exact HRD1.out) (by exact HO1.out) (by unfold maxLen; omega) (by omega) (by exact HB12.out.size) ?_
                          intro v12 w12 hown12 hg12 hat12
                          rw [Nat.zero_add, List.nil_append] at hown12
                          have HW12 := Lib.hid hown12
                          have HB13 := Lib.hid (HB12.out.grown hg12 HB12.out.size (fun q hq => by have hq' : some w11.heap.size = some q := hq; injection hq' with hq'; omega))
                          obtain ⟨A12, c12, rfl⟩ := own_slice hown12
                          have hc12 := (HB13.out.cell (p := ⟨bw, k, none⟩) hbw).trans hcw
                          have HRD3 := Lib.hid (HRD2.out.below HB13.out)
                          have hsz12 := HB13.out.size
                          clear hown12 hg12 hat12
                          refine hK.out _ _ hc12 (fun _ => ?_)
                          clear hK K hcd
                          refine wpAnyH_ready (rs := [14]) (by kernel_rfl) (by simp) ?_
                          refine AllReadyH.cons rfl (fun K hK => ?_) AllReadyH.nil
                          refine step_append_any _ (by rfl) (Operand.tmp 189) (Operand.tmp 195) 34 (by rfl) w11.heap.size 36 i1 _ 1 24 Try.underlying34 hinf1 hy0 hy1 hy2 rfl (by omega) (.slice A12 a c12) a (csk2.take a) (by rfl) (by exact HW12.out) w11.heap.size (A2) ((W k).length - (a + 1)) (cv - (a + 1)) (csk2.drop (a + 1)) (by rfl) (by exact HRD3.out) (by exact HO2.out) (by unfold maxLen; omega) (by omega) (by exact hsz12) ?_
                          intro v14 w14 hown14 hg14 hat14
                          have HB14 := Lib.hid (HB13.out.grown hg14 hsz12 (fun q hq => own_ge HW12.out q hq))
                          have hst' := HST11.out.cutWay hk2 hal HB14.out HEK3.out rfl (hown14)
                          have HSTx := Lib.hid hst'
                          have hwa := HST11.out.wa.below HB14.out hbw
                          have hc14 := two_cell hwa hk2
                          have hf14 := hwa.frozen k
                          obtain ⟨A14, c14, rfl⟩ := own_slice hown14
                          clear hown14 hg14 hat14 hst' hwa
                          rw [HVK.out] at hc14
                          refine hK.out _ _ hc14 (fun _ => ?_)
                          clear hK K
                          refine wpAnyH_take (i := 15) (v := .pointer (some ⟨bw, k, none⟩)) rfl (by kernel_rfl) (by kernel_rfl) (by kernel_rfl) (fun _ _ _ h => h) (.inl ⟨by rfl, fun w' hw' => by go_simp⟩) hc14 ?_
                          refine wpAnyH_done (by kernel_rfl) ?_ _
                          refine peelQ_step rfl (fun K hK => ?_)
                          go_simp
                          refine hK _ _ ?_
                          clear hK K
                          go_wp2_with fail
                          go_meet
                          exact ⟨rfl, _, _, _, _, HSTx, HINx⟩
                        · rw [hst] at o5
                          have HSTx := HST11
                          have HINx := HINz
                          go_wp2_with fail
                          go_meet
                          exact ⟨rfl, upd ES k (hearS (ES k) l), _, _, _, HSTx, HINx⟩
                    · have hb3 : (o.act == 3) = false := by simpa using ha3
                      by_cases ha4 : o.act = 4
                      · have hb4 : (o.act == 4) = true := by simp [ha4]
                        as_aux_lemma =>
                          obtain ⟨i0, hinf, hz0, hz1, hz2⟩ := info_parts infoTO
                          have hwb := HSTb.out.old.size
                          obtain ⟨csl, hel, hrd⟩ := HSLb.out.reads (B := wb.heap.size) (fun b hb => Nat.lt_of_lt_of_le (HS.out b hb) hwb)
                          obtain ⟨rfl, hfit⟩ := told_of_elems hel
                          have HFT := Lib.hid hfit
                          have hoe : (wb.alloc (.cells #[] 44)).ownsRow wb.heap.size 44 5 (.slice (some ⟨wb.heap.size, 0, none⟩) 0 0) 0 [] := World.ownsRow_made (base := wb.heap.size) (e := 44) (size := 5) wb #[] 0 (Nat.le_refl _) (by simp [maxLen]) rfl
                          have hrd2 := hrd.alloc (Nat.le_refl _) (.cells #[] 44)
                          have HB8 : Hid (Below wb.heap.size wb (wb.alloc (.cells #[] 44))) := Lib.hid ((Below.refl _ _).alloc (Nat.le_refl _) _)
                          clear hel hfit hrd
                          have hobl := HOBb.out.lt
                          go_wp2_with (at_builtin; refine unhide ?_)
                          unfold Hid
                          refine wpList_append_any _ rfl _ _ 36 rfl wb.heap.size 44 i0 _ 5 48 Try.underlying36 hinf hz0 hz1 hz2 rfl (by omega) (.slice (some ⟨wb.heap.size, 0, none⟩) 0 0) 0 [] rfl hoe wb.heap.size AL _ cl (flatT o.l) rfl hrd2 (flatT_one _) (by unfold maxLen; omega) (by omega) HB8.out.size ?_
                          intro v9 w9 hown9 hg9 hat9
                          rw [Nat.zero_add, List.nil_append] at hown9
                          obtain ⟨A9, c9, rfl⟩ := own_slice hown9
                          have HB9 := Lib.hid (HB8.out.grown hg9 HB8.out.size (fun q hq => by have hq' : some wb.heap.size = some q := hq; injection hq' with hq'; omega))
                          have HO9 := Lib.hid hown9
                          have HST9 := Lib.hid (HSTb.out.below HB9.out)
                          have HOB9 := Lib.hid (HOBb.out.below HB9.out HOBb.out.lt)
                          clear hown9 hg9 hat9 hoe hrd2 o0 o1 o2 o3 o4 o5 o6
                          go_wp2_with fail
                          have HSTd := Lib.hid (HST9.out.below (Below.refl w9.heap.size w9).drew)
                          have HOBd := Lib.hid HOB9.out.drew
                          have HSL9 : Hid (Sl rTold w9.drew (fun b => wb.heap.size ≤ b ∧ b < w9.heap.size) A9 c9 o.l) := Lib.hid ((Sl.of_own (ρ := rTold) HO9.out (elems_told HFT.out) fun q hq => ⟨own_ge HO9.out q hq, own_lt HO9.out q hq⟩).below (fun b hb => hb.2) (Below.refl w9.heap.size w9).drew)
                          have HGK := Lib.hid (HSTb.out.tk k hk2).row.lt
                          have o6 := (blk7 HOB9.out).2.2.2.2.2.2
                          have HS1 := Lib.hid (EsOk.hear HI.out.1 o.l)
                          have HINx : Hid (Inv (upd ES k (hearS (ES k) o.l)) W (n + 1)) := Lib.hid (HIN.out.es hk2 HS1.out (by rw [hearS_length]; exact HI.out.2))
                          go_region_held3 (fun w' => w'.cell? ⟨ob, 6, none⟩ = some (.slice AL o.l.length cl))
                            (first
                              | exact o6
                              | exact OC10.out
                              | exact OC11.out)
                            (first
                              | (go_at_call 14; refine (hear_any (fun b => wb.heap.size ≤ b ∧ b < w9.heap.size) A9 c9 o.l (G k) (GS k) (C k) (WHO k) (ES k) _ (by exact HSTd.out.tk k hk2) (by exact HI.out.2) (by exact HSL9.out) (by exact fun b hb => ⟨hb.2, fun e => by have h1 := HGK.out; have h2 := hb.1; omega⟩)).mono ?_; rintro e10 w10 ⟨rfl, hg10, hs10⟩; have HST10 := Lib.hid (HSTd.out.setP hk2 hg10 hs10 (hearS_length _ _)); have HOB10 := Lib.hid (HOBd.out.grown hg10 (slot_ne (HSTd.out.tk k hk2) HOBd.out (by decide))); have OC10 := Lib.hid (blk7 HOB10.out).2.2.2.2.2.2; have HM10 : Hid (∀ (b : Nat) (cur : Array Value), Blk w9 b 44 cur → Blk w10 b 44 cur) := Lib.hid (fun b cur hb => (Blk.drew hb).grown hg10 (slot_ne (HSTd.out.tk k hk2) (Blk.drew hb) (by decide))); clear hg10 hs10)
                              | (go_at_call 15; refine (rHear_any S AL cl o.l (H k) (HS' k) (D k) (WHO k) (ES k) _ (by exact HST10.out.rk k hk2) (by exact HI.out.2) (by exact HI.out.1) (by exact HSLb.out.keep fun p hp => (HST10.out.old.cell (HS.out _ hp)).trans (HSTb.out.old.cell (HS.out _ hp)).symm) (by exact fun b hb => ⟨Nat.lt_of_lt_of_le (HS.out b hb) HST10.out.old.size, fun e => by have h1 := HS.out b hb; have h2 := HST10.out.hs0 k hk2; omega⟩)).mono ?_; rintro e11 w11 ⟨rfl, hg11, hs11⟩; have HSTy := Lib.hid (HST10.out.setQ hk2 hg11 hs11 (hearS_length _ _)); have HOB11 := Lib.hid (HOB10.out.grown hg11 (slot_ne (HST10.out.rk k hk2) HOB10.out (by decide))); have OC11 := Lib.hid (blk7 HOB11.out).2.2.2.2.2.2; have HFy : Hid (Free w w11 T A9 o.l.length) := Lib.hid ((Free.of_own HO9.out hwb fun b hb => (HSTb.out.tb b hb).1.lt).move (fun b cur hb => (HM10.out b cur hb).grown hg11 (slot_ne (HST10.out.rk k hk2) (HM10.out b cur hb) (by decide))) fun b hb => .inl hb); clear hg11 hs11))
                          clear o6 hI3 hI4
                          go_wp2
                          go_loopw [29] (fun i wr2 => ∃ q : Nat, q ≤ o.l.length ∧ i = .int .i64 (q : Int) ∧ Hid (St w wr2 bp bq bw G GS C H HS' D WHO _ _ _ _ T) ∧ Hid (Free w wr2 T A9 o.l.length)) (fun i _ => o.l.length - (intOf i).toNat)
                          case atStart => exact ⟨0, by omega, rfl, HSTy, HFy⟩
                          case round =>
                            obtain ⟨q, hq, rfl, HSq, HFq⟩ := hrel
                            by_cases hql : q < o.l.length
                            · obtain ⟨bl, rfl, ⟨z0, z1, z2, z3, z4, y0, y1, y2, y3, y4⟩, hfz⟩ := HFq.out.cells hql
                              have f0 := hfz (q * 5)
                              have f1 := hfz (q * 5 + 1)
                              have f2 := hfz (q * 5 + 2)
                              have f3 := hfz (q * 5 + 3)
                              have f4 := hfz (q * 5 + 4)
                              obtain ⟨w', hw', hs', hf'⟩ := Free.step (n0 := q * 5) (n1 := q * 5 + 1) (n2 := q * 5 + 2) (n3 := q * 5 + 3) (n4 := q * 5 + 4) (by omega) rfl HFq.out HSq.out (.int .i64 0) (.int .i64 0) (.int .i64 0) (.string ⟨#[]⟩) (.bool false)
                              rw [hw'] at hs' hf'
                              have HS2 := Lib.hid hs'
                              have HF2 := Lib.hid hf'
                              clear hw' hs' hf' hfz
                              go_wp2
                              go_roundw
                              case rel => exact ⟨q + 1, by omega, by go_num, HS2, HF2⟩
                              case measure => simp [intOf]; omega
                            · have HSTx := HSq
                              clear HSTy HFy
                              go_wp2_with fail
                              go_meet
                              exact ⟨rfl, upd ES k (hearS (ES k) o.l), _, _, _, HSTx, HINx⟩
                      · have hb4 : (o.act == 4) = false := by simpa using ha4
                        as_aux_lemma =>
                          have HSTx := HSTb
                          have HINx : Hid (Inv ES W (n + 1)) := Lib.hid (fun j hj => ⟨(HIN.out j hj).1, (HIN.out j hj).2.1, Nat.le_succ_of_le (HIN.out j hj).2.2.1, (HIN.out j hj).2.2.2⟩)
                          clear ha1 ha2 ha3 ha4
                          go_wp2_with fail
                          go_meet
                          exact ⟨rfl, ES, _, _, _, HSTx, HINx⟩
              · go_wp2
                go_ret
                exact ⟨rfl, HST.out.old⟩
            · go_wp2
              go_ret
              exact ⟨rfl, HST.out.old⟩
end Go.Proofs.Ytmghigmegiainaa
