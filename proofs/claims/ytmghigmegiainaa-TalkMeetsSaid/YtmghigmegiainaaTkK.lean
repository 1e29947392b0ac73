/- What two talkers, twice, and what lies on the way are in memory; what each step leaves. -/
import Derived.Test.YtmghigmegiainaaTkJ
namespace Go.Proofs.Ytmghigmegiainaa
open Go.RowKit

def upd {α : Type} (f : Nat → α) (k : Nat) (x : α) : Nat → α := fun j => if j = k then x else f j
theorem upd_at {α : Type} (f : Nat → α) (k : Nat) (x : α) : upd f k x k = x := by simp [upd]
theorem upd_ne {α : Type} (f : Nat → α) {k j : Nat} (x : α) (h : j ≠ k) : upd f k x j = f j := by simp [upd, h]
def TB (w : World) (b : Nat) : Prop := ∃ cur : Array Value, Blk w b 44 cur
theorem TB.lt {w : World} {b : Nat} (h : TB w b) : b < w.heap.size := by obtain ⟨cur, h⟩ := h; exact h.lt
theorem TB.grown {w w' : World} {b : Nat} {row : Option Nat} (h : TB w b) (hg : w.grownBy w' row) (hne : some b ≠ row) : TB w' b := by obtain ⟨cur, h⟩ := h; exact ⟨cur, h.grown hg hne⟩
theorem TB.ne_ {w : World} {b g t : Nat} {cs : Array Value} (h : TB w b) (h' : Blk w g t cs) (ht : t ≠ 44) : b ≠ g := by obtain ⟨cur, h⟩ := h; exact fun e => ht (by subst e; unfold Blk at h h'; rw [h] at h'; injection h' with h'; injection h' with _ h'; exact h'.symm)
def WayRow (w : World) (base : Nat) (T : Nat → Prop) (v : Value) (W : List (List Told)) : Prop := ∃ cs, w.ownsRow base 36 1 v W.length cs ∧ Elems (rList rTold) w T cs W
theorem elems_more {α : Type} {ρ : Rep α} {w w' : World} {S S' : Nat → Prop} {cs : List Value} {xs : List α} (h : Elems ρ w S cs xs) (hm : ∀ b, S b → S' b) (hk : ∀ p : Addr, S p.block → w'.cell? p = w.cell? p) : Elems ρ w' S' cs xs := (h.keep hk).more hm
theorem WayRow.keep {w w' : World} {base : Nat} {T T' : Nat → Prop} {v : Value} {W : List (List Told)} {row : Option Nat} (h : WayRow w base T v W) (hg : w.grownBy w' row) (hv : v.ownBlock = none ∨ v.ownBlock ≠ row) (hT : ∀ b, T b → b < w.heap.size ∧ some b ≠ row) (hm : ∀ b, T b → T' b) : WayRow w' base T' v W := by
  obtain ⟨cs, ho, he⟩ := h
  exact ⟨cs, ho.kept hg hv, elems_more he hm fun p hp => World.cell?_of_block (hg.block _ (hT _ hp).1 (hT _ hp).2)⟩
theorem WayRow.nil_ (w : World) (base : Nat) (T : Nat → Prop) : WayRow w base T (.slice none 0 0) [] := ⟨[], ownsRow_none _ _ _ _, Elems.nil_⟩
theorem own_typed {w : World} {base e size n : Nat} {v : Value} {xs : List Value} (h : w.ownsRow base e size v n xs) {g : Nat} (hg : v.ownBlock = some g) : ∃ cur : Array Value, Blk w g e cur := by
  rcases h.2 with ⟨rfl, _⟩ | ⟨g', cap, cur, rfl, _, hh, _⟩
  · simp [Value.ownBlock] at hg
  · simp [Value.ownBlock] at hg; subst hg; exact ⟨cur, hh⟩

structure St (w wr : World) (bp bq bw : Nat) (G GS C H HS D : Nat → Nat) (who : Nat → Int) (EP EQ : Nat → List Ent) (V : Nat → Value) (W : Nat → List (List Told)) (T : Nat → Prop) : Prop where
  old : Below w.heap.size w wr
  pa : Blk wr bp 25 #[.pointer (some ⟨G 0, 0, none⟩), .pointer (some ⟨G 1, 0, none⟩)]
  qa : Blk wr bq 27 #[.pointer (some ⟨H 0, 0, none⟩), .pointer (some ⟨H 1, 0, none⟩)]
  wa : Blk wr bw 35 #[V 0, V 1]
  tk : ∀ k, k < 2 → Tk wr 54 56 (G k) (GS k) (C k) (who k) (EP k)
  rk : ∀ k, k < 2 → Tk wr 59 61 (H k) (HS k) (D k) (who k) (EQ k)
  way : ∀ k, k < 2 → WayRow wr w.heap.size T (V k) (W k)
  gne : GS 0 ≠ GS 1
  hne : HS 0 ≠ HS 1
  vne : ∀ g, (V 0).ownBlock = some g → (V 1).ownBlock ≠ some g
  bw0 : w.heap.size ≤ bw
  gs0 : ∀ k, k < 2 → w.heap.size ≤ GS k
  hs0 : ∀ k, k < 2 → w.heap.size ≤ HS k
  tb : ∀ b, T b → TB wr b ∧ w.heap.size ≤ b

section
variable {w wr w' : World} {bp bq bw : Nat} {G GS C H HS D : Nat → Nat} {who : Nat → Int} {EP EQ : Nat → List Ent} {V : Nat → Value} {W : Nat → List (List Told)} {T : Nat → Prop}
/-- no special block is the one that was written -/
theorem St.keep {row : Option Nat} (h : St w wr bp bq bw G GS C H HS D who EP EQ V W T) (hg : wr.grownBy w' row) (h0 : ∀ b, row = some b → w.heap.size ≤ b)
    (h1 : some bp ≠ row) (h2 : some bq ≠ row) (h3 : some bw ≠ row) (h4 : ∀ k, k < 2 → some (G k) ≠ row ∧ some (GS k) ≠ row ∧ some (H k) ≠ row ∧ some (HS k) ≠ row ∧ ((V k).ownBlock = none ∨ (V k).ownBlock ≠ row)) (h5 : ∀ b, T b → some b ≠ row) :
    St w w' bp bq bw G GS C H HS D who EP EQ V W T where
  old := h.old.grown hg h.old.size h0
  pa := h.pa.grown hg h1
  qa := h.qa.grown hg h2
  wa := h.wa.grown hg h3
  tk k hk := (h.tk k hk).grown hg (h4 k hk).1 (h4 k hk).2.1
  rk k hk := (h.rk k hk).grown hg (h4 k hk).2.2.1 (h4 k hk).2.2.2.1
  way k hk := (h.way k hk).keep hg (h4 k hk).2.2.2.2 (fun b hb => ⟨(h.tb b hb).1.lt, h5 b hb⟩) fun _ hb => hb
  gne := h.gne
  hne := h.hne
  vne := h.vne
  bw0 := h.bw0
  gs0 := h.gs0
  hs0 := h.hs0
  tb b hb := ⟨(h.tb b hb).1.grown hg (h5 b hb), (h.tb b hb).2⟩
theorem St.vlt (h : St w wr bp bq bw G GS C H HS D who EP EQ V W T) {k : Nat} (hk : k < 2) {g : Nat} (hg : (V k).ownBlock = some g) : g < wr.heap.size := by
  obtain ⟨cs, ho, _⟩ := h.way k hk
  exact own_lt ho g hg
theorem St.below (h : St w wr bp bq bw G GS C H HS D who EP EQ V W T) (hb : Below wr.heap.size wr w') : St w w' bp bq bw G GS C H HS D who EP EQ V W T :=
  h.keep (only_of_below hb none) (by simp) (by simp) (by simp) (by simp) (fun k hk => ⟨by simp, by simp, by simp, by simp, by
    rcases hv : (V k).ownBlock with _ | g
    · exact .inl rfl
    · exact .inr (by simp)⟩) (by simp)
/-- a block of told entries that does not lie on the way -/
theorem St.told {bl : Nat} (h : St w wr bp bq bw G GS C H HS D who EP EQ V W T) (hg : wr.grownBy w' (some bl)) (hbl : TB wr bl) (h0 : w.heap.size ≤ bl) (hT : ¬ T bl) : St w w' bp bq bw G GS C H HS D who EP EQ V W T := by
  refine h.keep hg (fun b hb => by injection hb with hb; omega) ?_ ?_ ?_ (fun k hk => ?_) ?_
  · intro e; injection e with e; exact hbl.ne_ h.pa (by decide) e.symm
  · intro e; injection e with e; exact hbl.ne_ h.qa (by decide) e.symm
  · intro e; injection e with e; exact hbl.ne_ h.wa (by decide) e.symm
  · obtain ⟨c1, b1, _⟩ := (h.tk k hk).row.blk
    obtain ⟨c2, b2, _⟩ := (h.rk k hk).row.blk
    refine ⟨?_, ?_, ?_, ?_, .inr ?_⟩
    · intro e; injection e with e; exact hbl.ne_ (h.tk k hk).head (by decide) e.symm
    · intro e; injection e with e; exact hbl.ne_ b1 (by decide) e.symm
    · intro e; injection e with e; exact hbl.ne_ (h.rk k hk).head (by decide) e.symm
    · intro e; injection e with e; exact hbl.ne_ b2 (by decide) e.symm
    · intro e
      obtain ⟨cs, ho, _⟩ := h.way k hk
      obtain ⟨cur, hc⟩ := own_typed ho e
      exact hbl.ne_ hc (by decide) rfl
  · intro b hb e; injection e with e; subst e; exact hT hb
theorem other_k {k j : Nat} (hk : k < 2) (hj : j < 2) (h : j ≠ k) : (j = 0 ∧ k = 1) ∨ (j = 1 ∧ k = 0) := by omega
/-- the slots of one talker of the program -/
theorem St.setP (h : St w wr bp bq bw G GS C H HS D who EP EQ V W T) {k : Nat} (hk : k < 2) {es : List Ent} (hg : wr.grownBy w' (some (GS k))) (hs : Slots w' 56 (GS k) (C k) es) (hl : es.length = (EP k).length) :
    St w w' bp bq bw G GS C H HS D who (upd EP k es) EQ V W T := by
  obtain ⟨c1, b1, _⟩ := (h.tk k hk).row.blk
  have hT : ∀ b, T b → some b ≠ some (GS k) := fun b hb e => by injection e with e; exact (h.tb b hb).1.ne_ b1 (by decide) e
  have hW : ∀ j, j < 2 → (V j).ownBlock = none ∨ (V j).ownBlock ≠ some (GS k) := fun j hj => .inr fun e => by
    obtain ⟨cs, ho, _⟩ := h.way j hj
    obtain ⟨cur, hc⟩ := own_typed ho e
    exact Blk.ne_ hc b1 (by decide) rfl
  exact {
    old := h.old.grown hg h.old.size (fun b hb => by injection hb with hb; rw [← hb]; exact h.gs0 k hk)
    pa := h.pa.grown hg (fun e => by injection e with e; exact Blk.ne_ h.pa b1 (by decide) e)
    qa := h.qa.grown hg (fun e => by injection e with e; exact Blk.ne_ h.qa b1 (by decide) e)
    wa := h.wa.grown hg (fun e => by injection e with e; exact Blk.ne_ h.wa b1 (by decide) e)
    tk := fun j hj => by
      by_cases hjk : j = k
      · subst hjk; rw [upd_at]; exact (h.tk j hj).put hg hs hl
      · rw [upd_ne _ _ hjk]
        refine (h.tk j hj).grown hg (fun e => by injection e with e; exact Blk.ne_ (h.tk j hj).head b1 (by decide) e) (fun e => ?_)
        injection e with e
        rcases other_k hk hj hjk with ⟨rfl, rfl⟩ | ⟨rfl, rfl⟩
        · exact h.gne e
        · exact h.gne e.symm
    rk := fun j hj => by
      obtain ⟨c2, b2, _⟩ := (h.rk j hj).row.blk
      exact (h.rk j hj).grown hg (fun e => by injection e with e; exact Blk.ne_ (h.rk j hj).head b1 (by decide) e) (fun e => by injection e with e; exact Blk.ne_ b2 b1 (by decide) e)
    way := fun j hj => (h.way j hj).keep hg (hW j hj) (fun b hb => ⟨(h.tb b hb).1.lt, hT b hb⟩) fun _ hb => hb
    gne := h.gne
    hne := h.hne
    vne := h.vne
    bw0 := h.bw0
    gs0 := h.gs0
    hs0 := h.hs0
    tb := fun b hb => ⟨(h.tb b hb).1.grown hg (hT b hb), (h.tb b hb).2⟩ }
/-- the slots of one talker of the reference -/
theorem St.setQ (h : St w wr bp bq bw G GS C H HS D who EP EQ V W T) {k : Nat} (hk : k < 2) {es : List Ent} (hg : wr.grownBy w' (some (HS k))) (hs : Slots w' 61 (HS k) (D k) es) (hl : es.length = (EQ k).length) :
    St w w' bp bq bw G GS C H HS D who EP (upd EQ k es) V W T := by
  obtain ⟨c1, b1, _⟩ := (h.rk k hk).row.blk
  have hT : ∀ b, T b → some b ≠ some (HS k) := fun b hb e => by injection e with e; exact (h.tb b hb).1.ne_ b1 (by decide) e
  have hW : ∀ j, j < 2 → (V j).ownBlock = none ∨ (V j).ownBlock ≠ some (HS k) := fun j hj => .inr fun e => by
    obtain ⟨cs, ho, _⟩ := h.way j hj
    obtain ⟨cur, hc⟩ := own_typed ho e
    exact Blk.ne_ hc b1 (by decide) rfl
  exact {
    old := h.old.grown hg h.old.size (fun b hb => by injection hb with hb; rw [← hb]; exact h.hs0 k hk)
    pa := h.pa.grown hg (fun e => by injection e with e; exact Blk.ne_ h.pa b1 (by decide) e)
    qa := h.qa.grown hg (fun e => by injection e with e; exact Blk.ne_ h.qa b1 (by decide) e)
    wa := h.wa.grown hg (fun e => by injection e with e; exact Blk.ne_ h.wa b1 (by decide) e)
    rk := fun j hj => by
      by_cases hjk : j = k
      · subst hjk; rw [upd_at]; exact (h.rk j hj).put hg hs hl
      · rw [upd_ne _ _ hjk]
        refine (h.rk j hj).grown hg (fun e => by injection e with e; exact Blk.ne_ (h.rk j hj).head b1 (by decide) e) (fun e => ?_)
        injection e with e
        rcases other_k hk hj hjk with ⟨rfl, rfl⟩ | ⟨rfl, rfl⟩
        · exact h.hne e
        · exact h.hne e.symm
    tk := fun j hj => by
      obtain ⟨c2, b2, _⟩ := (h.tk j hj).row.blk
      exact (h.tk j hj).grown hg (fun e => by injection e with e; exact Blk.ne_ (h.tk j hj).head b1 (by decide) e) (fun e => by injection e with e; exact Blk.ne_ b2 b1 (by decide) e)
    way := fun j hj => (h.way j hj).keep hg (hW j hj) (fun b hb => ⟨(h.tb b hb).1.lt, hT b hb⟩) fun _ hb => hb
    gne := h.gne
    hne := h.hne
    vne := h.vne
    bw0 := h.bw0
    gs0 := h.gs0
    hs0 := h.hs0
    tb := fun b hb => ⟨(h.tb b hb).1.grown hg (hT b hb), (h.tb b hb).2⟩ }
/-- what lies on the way to one of them -/
theorem St.putWay (h : St w wr bp bq bw G GS C H HS D who EP EQ V W T) {k : Nat} (hk : k < 2) {w5 : World} {v : Value} {L : List (List Told)} {T' : Nat → Prop} (hg : wr.grownBy w5 (V k).ownBlock)
    (hv : ∀ g, v.ownBlock = some g → (V k).ownBlock = some g ∨ wr.heap.size ≤ g) (hTT : ∀ b, T b → T' b) (hT' : ∀ b, T' b → TB w5 b ∧ w.heap.size ≤ b) (hrow : WayRow w5 w.heap.size T' v L) :
    St w (w5.setCell ⟨bw, k, none⟩ v) bp bq bw G GS C H HS D who EP EQ (upd V k v) (upd W k L) T' := by
  have hty : ∀ g, (V k).ownBlock = some g → ∃ cur : Array Value, Blk wr g 36 cur := fun g hg => by
    obtain ⟨cs, ho, _⟩ := h.way k hk
    exact own_typed ho hg
  have nT : ∀ {b t : Nat} {cs : Array Value}, Blk wr b t cs → t ≠ 36 → some b ≠ (V k).ownBlock := fun hb ht e => by
    obtain ⟨cur, hc⟩ := hty _ e.symm
    exact Blk.ne_ hb hc ht rfl
  have hw5 : Blk w5 bw 35 #[V 0, V 1] := h.wa.grown hg (nT h.wa (by decide))
  have hg6 : w5.grownBy (w5.setCell ⟨bw, k, none⟩ v) (some bw) := only_setCell (only_of_below (Below.refl _ _) _) (.inl rfl) _
  have n5 : ∀ {b t : Nat} {cs : Array Value}, Blk w5 b t cs → t ≠ 35 → some b ≠ some bw := fun hb ht e => by injection e with e; exact Blk.ne_ hb hw5 ht e
  have ownne : ∀ {u : Value} {n : Nat} {cs : List Value}, w5.ownsRow w.heap.size 36 1 u n cs → u.ownBlock = none ∨ u.ownBlock ≠ some bw := fun ho => .inr fun e => by
    obtain ⟨cur, hc⟩ := own_typed ho e
    exact Blk.ne_ hc hw5 (by decide) rfl
  have hTb : ∀ b, T' b → b < w5.heap.size ∧ some b ≠ some bw := fun b hb => ⟨(hT' b hb).1.lt, fun e => by injection e with e; exact (hT' b hb).1.ne_ hw5 (by decide) e⟩
  have hTw : ∀ b, T b → b < wr.heap.size ∧ some b ≠ (V k).ownBlock := fun b hb => ⟨(h.tb b hb).1.lt, fun e => by
    obtain ⟨cur, hc⟩ := hty _ e.symm
    exact (h.tb b hb).1.ne_ hc (by decide) rfl⟩
  have hVo : ∀ j, j < 2 → j ≠ k → (V j).ownBlock = none ∨ (V j).ownBlock ≠ (V k).ownBlock := fun j hj hjk => by
    rcases hvj : (V j).ownBlock with _ | g
    · exact .inl rfl
    · refine .inr fun e => ?_
      rcases other_k hk hj hjk with ⟨rfl, rfl⟩ | ⟨rfl, rfl⟩
      · exact h.vne g hvj e.symm
      · exact h.vne g e.symm hvj
  have hvne : ∀ j, j < 2 → j ≠ k → ∀ g, v.ownBlock = some g → (V j).ownBlock ≠ some g := fun j hj hjk g hvg e => by
    rcases hv g hvg with hk2 | hge
    · rcases hVo j hj hjk with hn | hn
      · rw [hn] at e; cases e
      · exact hn (e.trans hk2.symm)
    · have := h.vlt hj e; omega
  exact {
    old := (h.old.grown hg h.old.size (fun b hb => by obtain ⟨cs, ho, _⟩ := h.way k hk; exact own_ge ho b hb)).setCell (p := ⟨bw, k, none⟩) h.bw0 v
    pa := (h.pa.grown hg (nT h.pa (by decide))).grown hg6 (n5 (h.pa.grown hg (nT h.pa (by decide))) (by decide))
    qa := (h.qa.grown hg (nT h.qa (by decide))).grown hg6 (n5 (h.qa.grown hg (nT h.qa (by decide))) (by decide))
    wa := by
      have := hw5.set_ k v
      rcases (show k = 0 ∨ k = 1 by omega) with rfl | rfl
      · rw [upd_at, upd_ne _ _ (by omega)]; simpa using this
      · rw [upd_at, upd_ne _ _ (by omega)]; simpa using this
    tk := fun j hj => by
      obtain ⟨c2, b2, _⟩ := (h.tk j hj).row.blk
      have h5 := (h.tk j hj).grown hg (nT (h.tk j hj).head (by decide)) (nT b2 (by decide))
      obtain ⟨c3, b3, _⟩ := h5.row.blk
      exact h5.grown hg6 (n5 h5.head (by decide)) (n5 b3 (by decide))
    rk := fun j hj => by
      obtain ⟨c2, b2, _⟩ := (h.rk j hj).row.blk
      have h5 := (h.rk j hj).grown hg (nT (h.rk j hj).head (by decide)) (nT b2 (by decide))
      obtain ⟨c3, b3, _⟩ := h5.row.blk
      exact h5.grown hg6 (n5 h5.head (by decide)) (n5 b3 (by decide))
    way := fun j hj => by
      by_cases hjk : j = k
      · subst hjk; rw [upd_at, upd_at]
        obtain ⟨cs, ho, _⟩ := id hrow
        exact hrow.keep hg6 (ownne ho) hTb fun _ hb => hb
      · rw [upd_ne _ _ hjk, upd_ne _ _ hjk]
        have h5 := (h.way j hj).keep hg (hVo j hj hjk) hTw hTT
        obtain ⟨cs, ho, _⟩ := id h5
        exact h5.keep hg6 (ownne ho) hTb fun _ hb => hb
    gne := h.gne
    hne := h.hne
    vne := fun g h0 h1 => by
      rcases (show k = 0 ∨ k = 1 by omega) with rfl | rfl
      · rw [upd_at] at h0; rw [upd_ne _ _ (by omega)] at h1; exact hvne 1 (by omega) (by omega) g h0 h1
      · rw [upd_ne _ _ (by omega)] at h0; rw [upd_at] at h1; exact hvne 0 (by omega) (by omega) g h1 h0
    bw0 := h.bw0
    gs0 := h.gs0
    hs0 := h.hs0
    tb := fun b hb => ⟨(hT' b hb).1.grown hg6 (hTb b hb).2, (hT' b hb).2⟩ }
end
end Go.Proofs.Ytmghigmegiainaa
