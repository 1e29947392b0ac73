/- What two talkers, what lies on the way and the two maps are in memory; what each step leaves. -/
import Derived.Test.YtmghigmegiainaaLook
namespace Go.Proofs.Ytmghigmegiainaa
open Go.RowKit

structure Sm (w wr : World) (bp bw bl bs lm sm : Nat) (G GS C : Nat → Nat) (who : Nat → Int) (ES : Nat → List Ent) (V : Nat → Value) (W : Nat → List (List Told)) (T : Nat → Prop) (nS nL : Nat) (fS fL : Value → Value) : Prop where
  old : Below w.heap.size w wr
  rd : Ready wr bp bl bs lm sm G GS C who ES nS fS
  lf : MapFn Try.prog 49 wr lm nL zeroT.val_ fL
  wa : Blk wr bw 35 #[V 0, V 1]
  way : ∀ k, k < 2 → WayRow wr w.heap.size T (V k) (W k)
  gne : GS 0 ≠ GS 1
  vne : ∀ g, (V 0).ownBlock = some g → (V 1).ownBlock ≠ some g
  bw0 : w.heap.size ≤ bw
  gs0 : ∀ k, k < 2 → w.heap.size ≤ GS k
  sm0 : w.heap.size ≤ sm
  lm0 : w.heap.size ≤ lm
  tb : ∀ b, T b → TB wr b ∧ w.heap.size ≤ b

section
variable {w wr w' : World} {bp bw bl bs lm sm : Nat} {G GS C : Nat → Nat} {who : Nat → Int} {ES : Nat → List Ent} {V : Nat → Value} {W : Nat → List (List Told)} {T : Nat → Prop} {nS nL : Nat} {fS fL : Value → Value}
theorem Ready.keep {row : Option Nat} (h : Ready wr bp bl bs lm sm G GS C who ES nS fS) (hg : wr.grownBy w' row) (h1 : some bp ≠ row) (h2 : ∀ k, k < 2 → some (G k) ≠ row ∧ some (GS k) ≠ row) (h3 : some bl ≠ row) (h4 : some bs ≠ row) (h5 : some sm ≠ row) :
    Ready w' bp bl bs lm sm G GS C who ES nS fS where
  pa := h.pa.grown hg h1
  tk k hk := (h.tk k hk).grown hg (h2 k hk).1 (h2 k hk).2
  lb := h.lb.grown hg h3
  sb := h.sb.grown hg h4
  sf := h.sf.grown hg h5
  ne := h.ne
theorem Sm.vlt (h : Sm w wr bp bw bl bs lm sm G GS C who ES V W T nS nL fS fL) {k : Nat} (hk : k < 2) {g : Nat} (hg : (V k).ownBlock = some g) : g < wr.heap.size := by
  obtain ⟨cs, ho, _⟩ := h.way k hk
  exact own_lt ho g hg
theorem Sm.keep {row : Option Nat} (h : Sm w wr bp bw bl bs lm sm G GS C who ES V W T nS nL fS fL) (hg : wr.grownBy w' row) (h0 : ∀ b, row = some b → w.heap.size ≤ b) (h1 : some bp ≠ row) (h2 : ∀ k, k < 2 → some (G k) ≠ row ∧ some (GS k) ≠ row) (h3 : some bl ≠ row) (h4 : some bs ≠ row) (h5 : some sm ≠ row)
    (h6 : some lm ≠ row) (h7 : some bw ≠ row) (h8 : ∀ k, k < 2 → (V k).ownBlock = none ∨ (V k).ownBlock ≠ row) (h9 : ∀ b, T b → some b ≠ row) : Sm w w' bp bw bl bs lm sm G GS C who ES V W T nS nL fS fL where
  old := h.old.grown hg h.old.size h0
  rd := h.rd.keep hg h1 h2 h3 h4 h5
  lf := h.lf.grown hg h6
  wa := h.wa.grown hg h7
  way k hk := (h.way k hk).keep hg (h8 k hk) (fun b hb => ⟨(h.tb b hb).1.lt, h9 b hb⟩) fun _ hb => hb
  gne := h.gne
  vne := h.vne
  bw0 := h.bw0
  gs0 := h.gs0
  sm0 := h.sm0
  lm0 := h.lm0
  tb b hb := ⟨(h.tb b hb).1.grown hg (h9 b hb), (h.tb b hb).2⟩
theorem Sm.below (h : Sm w wr bp bw bl bs lm sm G GS C who ES V W T nS nL fS fL) (hb : Below wr.heap.size wr w') : Sm w w' bp bw bl bs lm sm G GS C who ES V W T nS nL fS fL :=
  h.keep (only_of_below hb none) (by simp) (by simp) (fun _ _ => ⟨by simp, by simp⟩) (by simp) (by simp) (by simp) (by simp) (by simp) (fun k hk => by
    rcases hv : (V k).ownBlock with _ | g
    · exact .inl rfl
    · exact .inr (by simp)) (by simp)
/-- no part of it is a map's block but the maps themselves -/
theorem Sm.notMap (h : Sm w wr bp bw bl bs lm sm G GS C who ES V W T nS nL fS fL) {P : Program} {kt : TypeId} {b n : Nat} {z : Value} {f : Value → Value} (hm : MapFn P kt wr b n z f) :
    some bp ≠ some b ∧ (∀ k, k < 2 → some (G k) ≠ some b ∧ some (GS k) ≠ some b) ∧ some bl ≠ some b ∧ some bs ≠ some b ∧ some bw ≠ some b ∧ (∀ k, k < 2 → (V k).ownBlock = none ∨ (V k).ownBlock ≠ some b) ∧ ∀ b', T b' → some b' ≠ some b := by
  have nb : ∀ {g t : Nat} {cs : Array Value}, Blk wr g t cs → some g ≠ some b := fun hb e => by injection e with e; exact hm.notBlk hb e.symm
  refine ⟨nb h.rd.pa, fun k hk => ?_, nb h.rd.lb, nb h.rd.sb, nb h.wa, fun k hk => .inr fun e => ?_, fun b' hb' => ?_⟩
  · obtain ⟨c1, b1, _⟩ := (h.rd.tk k hk).row.blk
    exact ⟨nb (h.rd.tk k hk).head, nb b1⟩
  · obtain ⟨cs, ho, _⟩ := h.way k hk
    obtain ⟨cur, hc⟩ := own_typed ho e
    exact nb hc rfl
  · obtain ⟨⟨cur, hc⟩, _⟩ := h.tb b' hb'
    exact nb hc
/-- both have been looked at -/
theorem Sm.looked (h : Sm w wr bp bw bl bs lm sm G GS C who ES V W T nS nL fS fL) (hg : wr.grownBy w' (some lm)) {m : Nat} {f : Value → Value} (hm : MapFn Try.prog 49 w' lm m zeroT.val_ f) : Sm w w' bp bw bl bs lm sm G GS C who ES V W T nS m fS f := by
  obtain ⟨a1, a2, a3, a4, a5, a6, a7⟩ := h.notMap h.lf
  exact {
    old := h.old.grown hg h.old.size (fun b hb => by injection hb with hb; rw [← hb]; exact h.lm0)
    rd := h.rd.keep hg a1 a2 a3 a4 (fun e => by injection e with e; exact h.rd.ne e)
    lf := hm
    wa := h.wa.grown hg a5
    way := fun k hk => (h.way k hk).keep hg (a6 k hk) (fun b hb => ⟨(h.tb b hb).1.lt, a7 b hb⟩) fun _ hb => hb
    gne := h.gne
    vne := h.vne
    bw0 := h.bw0
    gs0 := h.gs0
    sm0 := h.sm0
    lm0 := h.lm0
    tb := fun b hb => ⟨(h.tb b hb).1.grown hg (a7 b hb), (h.tb b hb).2⟩ }
/-- something is noted as said -/
theorem Sm.noted (h : Sm w wr bp bw bl bs lm sm G GS C who ES V W T nS nL fS fL) (hg : wr.grownBy w' (some sm)) {m : Nat} {f : Value → Value} (hm : MapFn Try.prog 44 w' sm m (.bool false) f) : Sm w w' bp bw bl bs lm sm G GS C who ES V W T m nL f fL := by
  obtain ⟨a1, a2, a3, a4, a5, a6, a7⟩ := h.notMap h.rd.sf
  exact {
    old := h.old.grown hg h.old.size (fun b hb => by injection hb with hb; rw [← hb]; exact h.sm0)
    rd := ⟨h.rd.pa.grown hg a1, fun k hk => (h.rd.tk k hk).grown hg (a2 k hk).1 (a2 k hk).2, h.rd.lb.grown hg a3, h.rd.sb.grown hg a4, hm, h.rd.ne⟩
    lf := h.lf.grown hg (fun e => by injection e with e; exact h.rd.ne e.symm)
    wa := h.wa.grown hg a5
    way := fun k hk => (h.way k hk).keep hg (a6 k hk) (fun b hb => ⟨(h.tb b hb).1.lt, a7 b hb⟩) fun _ hb => hb
    gne := h.gne
    vne := h.vne
    bw0 := h.bw0
    gs0 := h.gs0
    sm0 := h.sm0
    lm0 := h.lm0
    tb := fun b hb => ⟨(h.tb b hb).1.grown hg (a7 b hb), (h.tb b hb).2⟩ }
/-- the slots of one talker -/
theorem Sm.setP (h : Sm w wr bp bw bl bs lm sm G GS C who ES V W T nS nL fS fL) {k : Nat} (hk : k < 2) {es : List Ent} (hg : wr.grownBy w' (some (GS k))) (hs : Slots w' 56 (GS k) (C k) es) (hl : es.length = (ES k).length) :
    Sm w w' bp bw bl bs lm sm G GS C who (upd ES k es) V W T nS nL fS fL := by
  obtain ⟨c1, b1, _⟩ := (h.rd.tk k hk).row.blk
  have hT : ∀ b, T b → some b ≠ some (GS k) := fun b hb e => by injection e with e; exact (h.tb b hb).1.ne_ b1 (by decide) e
  have hW : ∀ j, j < 2 → (V j).ownBlock = none ∨ (V j).ownBlock ≠ some (GS k) := fun j hj => .inr fun e => by
    obtain ⟨cs, ho, _⟩ := h.way j hj
    obtain ⟨cur, hc⟩ := own_typed ho e
    exact Blk.ne_ hc b1 (by decide) rfl
  exact {
    old := h.old.grown hg h.old.size (fun b hb => by injection hb with hb; rw [← hb]; exact h.gs0 k hk)
    rd := {
      pa := h.rd.pa.grown hg (fun e => by injection e with e; exact Blk.ne_ h.rd.pa b1 (by decide) e)
      tk := fun j hj => by
        by_cases hjk : j = k
        · subst hjk; rw [upd_at]; exact (h.rd.tk j hj).put hg hs hl
        · rw [upd_ne _ _ hjk]
          refine (h.rd.tk j hj).grown hg (fun e => by injection e with e; exact Blk.ne_ (h.rd.tk j hj).head b1 (by decide) e) (fun e => ?_)
          injection e with e
          rcases other_k hk hj hjk with ⟨rfl, rfl⟩ | ⟨rfl, rfl⟩
          · exact h.gne e
          · exact h.gne e.symm
      lb := h.rd.lb.grown hg (fun e => by injection e with e; exact Blk.ne_ h.rd.lb b1 (by decide) e)
      sb := h.rd.sb.grown hg (fun e => by injection e with e; exact Blk.ne_ h.rd.sb b1 (by decide) e)
      sf := h.rd.sf.grown hg (fun e => by injection e with e; exact h.rd.sf.notBlk b1 e)
      ne := h.rd.ne }
    lf := h.lf.grown hg (fun e => by injection e with e; exact h.lf.notBlk b1 e)
    wa := h.wa.grown hg (fun e => by injection e with e; exact Blk.ne_ h.wa b1 (by decide) e)
    way := fun j hj => (h.way j hj).keep hg (hW j hj) (fun b hb => ⟨(h.tb b hb).1.lt, hT b hb⟩) fun _ hb => hb
    gne := h.gne
    vne := h.vne
    bw0 := h.bw0
    gs0 := h.gs0
    sm0 := h.sm0
    lm0 := h.lm0
    tb := fun b hb => ⟨(h.tb b hb).1.grown hg (hT b hb), (h.tb b hb).2⟩ }
/-- what lies on the way to one of them -/
theorem Sm.putWay (h : Sm w wr bp bw bl bs lm sm G GS C who ES V W T nS nL fS fL) {k : Nat} (hk : k < 2) {w5 : World} {v : Value} {L : List (List Told)} {T' : Nat → Prop} (hg : wr.grownBy w5 (V k).ownBlock)
    (hv : ∀ g, v.ownBlock = some g → (V k).ownBlock = some g ∨ wr.heap.size ≤ g) (hTT : ∀ b, T b → T' b) (hT' : ∀ b, T' b → TB w5 b ∧ w.heap.size ≤ b) (hrow : WayRow w5 w.heap.size T' v L) :
    Sm w (w5.setCell ⟨bw, k, none⟩ v) bp bw bl bs lm sm G GS C who ES (upd V k v) (upd W k L) T' nS nL fS fL := by
  have hty : ∀ g, (V k).ownBlock = some g → ∃ cur : Array Value, Blk wr g 36 cur := fun g hg => by
    obtain ⟨cs, ho, _⟩ := h.way k hk
    exact own_typed ho hg
  have nT : ∀ {b t : Nat} {cs : Array Value}, Blk wr b t cs → t ≠ 36 → some b ≠ (V k).ownBlock := fun hb ht e => by
    obtain ⟨cur, hc⟩ := hty _ e.symm
    exact Blk.ne_ hb hc ht rfl
  have nM : ∀ {P : Program} {kt : TypeId} {b n : Nat} {z : Value} {f : Value → Value}, MapFn P kt wr b n z f → some b ≠ (V k).ownBlock := fun hm e => by
    obtain ⟨cur, hc⟩ := hty _ e.symm
    exact hm.notBlk hc rfl
  have hw5 : Blk w5 bw 35 #[V 0, V 1] := h.wa.grown hg (nT h.wa (by decide))
  have hg6 : w5.grownBy (w5.setCell ⟨bw, k, none⟩ v) (some bw) := only_setCell (only_of_below (Below.refl _ _) _) (.inl rfl) _
  have n5 : ∀ {b t : Nat} {cs : Array Value}, Blk w5 b t cs → t ≠ 35 → some b ≠ some bw := fun hb ht e => by injection e with e; exact Blk.ne_ hb hw5 ht e
  have m5 : ∀ {P : Program} {kt : TypeId} {b n : Nat} {z : Value} {f : Value → Value}, MapFn P kt w5 b n z f → some b ≠ some bw := fun hm e => by injection e with e; exact hm.notBlk hw5 e
  have ownne : ∀ {u : Value} {n : Nat} {cs : List Value}, w5.ownsRow w.heap.size 36 1 u n cs → u.ownBlock = none ∨ u.ownBlock ≠ some bw := fun ho => .inr fun e => by
    obtain ⟨cur, hc⟩ := own_typed ho e
    exact Blk.ne_ hc hw5 (by decide) rfl
  have hTb : ∀ b, T' b → b < w5.heap.size ∧ some b ≠ some bw := fun b hb => ⟨(hT' b hb).1.lt, fun e => by injection e with e; exact (hT' b hb).1.ne_ hw5 (by decide) e⟩
  have hTw : ∀ b, T b → b < wr.heap.size ∧ some b ≠ (V k).ownBlock := fun b hb => ⟨(h.tb b hb).1.lt, fun e => by
    obtain ⟨cur, hc⟩ := hty _ e.symm
    exact (h.tb b hb).1.ne_ hc (by decide) rfl⟩
  have hVo : ∀ j, j < 2 → j ≠ k → (V j).ownBlock = none ∨ (V j).ownBlock ≠ (V k).ownBlock := fun j hj hjk => by
    rcases hvj : (V j).ownBlock with _ | g
    · exact .inl rfl
    · refine .inr fun e => ?_
      rcases other_k hk hj hjk with ⟨rfl, rfl⟩ | ⟨rfl, rfl⟩
      · exact h.vne g hvj e.symm
      · exact h.vne g e.symm hvj
  have hvne : ∀ j, j < 2 → j ≠ k → ∀ g, v.ownBlock = some g → (V j).ownBlock ≠ some g := fun j hj hjk g hvg e => by
    rcases hv g hvg with hk2 | hge
    · rcases hVo j hj hjk with hn | hn
      · rw [hn] at e; cases e
      · exact hn (e.trans hk2.symm)
    · have := h.vlt hj e; omega
  have rd5 : Ready w5 bp bl bs lm sm G GS C who ES nS fS := h.rd.keep hg (nT h.rd.pa (by decide)) (fun j hj => by
    obtain ⟨c2, b2, _⟩ := (h.rd.tk j hj).row.blk
    exact ⟨nT (h.rd.tk j hj).head (by decide), nT b2 (by decide)⟩) (nT h.rd.lb (by decide)) (nT h.rd.sb (by decide)) (nM h.rd.sf)
  have lf5 := h.lf.grown hg (nM h.lf)
  exact {
    old := (h.old.grown hg h.old.size (fun b hb => by obtain ⟨cs, ho, _⟩ := h.way k hk; exact own_ge ho b hb)).setCell (p := ⟨bw, k, none⟩) h.bw0 v
    rd := rd5.keep hg6 (n5 rd5.pa (by decide)) (fun j hj => by
      obtain ⟨c2, b2, _⟩ := (rd5.tk j hj).row.blk
      exact ⟨n5 (rd5.tk j hj).head (by decide), n5 b2 (by decide)⟩) (n5 rd5.lb (by decide)) (n5 rd5.sb (by decide)) (m5 rd5.sf)
    lf := lf5.grown hg6 (m5 lf5)
    wa := by
      have := hw5.set_ k v
      rcases (show k = 0 ∨ k = 1 by omega) with rfl | rfl
      · rw [upd_at, upd_ne _ _ (by omega)]; simpa using this
      · rw [upd_at, upd_ne _ _ (by omega)]; simpa using this
    way := fun j hj => by
      by_cases hjk : j = k
      · subst hjk; rw [upd_at, upd_at]
        obtain ⟨cs, ho, _⟩ := id hrow
        exact hrow.keep hg6 (ownne ho) hTb fun _ hb => hb
      · rw [upd_ne _ _ hjk, upd_ne _ _ hjk]
        have h5 := (h.way j hj).keep hg (hVo j hj hjk) hTw hTT
        obtain ⟨cs, ho, _⟩ := id h5
        exact h5.keep hg6 (ownne ho) hTb fun _ hb => hb
    gne := h.gne
    vne := fun g h0 h1 => by
      rcases (show k = 0 ∨ k = 1 by omega) with rfl | rfl
      · rw [upd_at] at h0; rw [upd_ne _ _ (by omega)] at h1; exact hvne 1 (by omega) (by omega) g h0 h1
      · rw [upd_ne _ _ (by omega)] at h0; rw [upd_at] at h1; exact hvne 0 (by omega) (by omega) g h1 h0
    bw0 := h.bw0
    gs0 := h.gs0
    sm0 := h.sm0
    lm0 := h.lm0
    tb := fun b hb => ⟨(hT' b hb).1.grown hg6 (hTb b hb).2, (hT' b hb).2⟩ }
/-- a row of told entries of its own, put behind what lies on the way -/
theorem Sm.push {w9 w10 w11 : World} (h : Sm w wr bp bw bl bs lm sm G GS C who ES V W T nS nL fS fL) {j B : Nat} (hj : j < 2) (hB : w.heap.size ≤ B) (hVB : ∀ g, (V j).ownBlock = some g → g < B) {L : List Told} {v9 v11 : Value} {cs : List Value} (hb9 : Below wr.heap.size wr w9) (hfit : ∀ x ∈ L, x.fits)
    (h9 : w9.ownsRow B 44 5 v9 L.length (flatT L)) (hb10 : Below w9.heap.size w9 w10) (hej : Elems (rList rTold) wr T cs (W j))
    (h11 : w11.ownsRow w.heap.size 36 1 v11 ((W j).length + 1) (cs ++ [v9])) (hg11 : w10.grownBy w11 (V j).ownBlock) (hat : v11.ownBlock = (V j).ownBlock ∨ v11.ownBlock = some w10.heap.size) :
    ∃ T', Sm w (w11.setCell ⟨bw, j, none⟩ v11) bp bw bl bs lm sm G GS C who ES (upd V j v11) (upd W j (W j ++ [L])) T' nS nL fS fL := by
  obtain ⟨A9, c9, rfl⟩ := own_slice h9
  have hb10' : Below wr.heap.size wr w10 := hb9.trans (hb10.mono hb9.size)
  have hg : wr.grownBy w11 (V j).ownBlock := grown_pre hb10' hg11
  have hty : ∀ g, (V j).ownBlock = some g → ∃ cur : Array Value, Blk wr g 36 cur := fun g hg => by
    obtain ⟨cs, ho, _⟩ := h.way j hj
    exact own_typed ho hg
  have hT7 : ∀ b, TB wr b → some b ≠ (V j).ownBlock := fun b hb e => by
    obtain ⟨cur, hc⟩ := hty _ e.symm
    exact hb.ne_ hc (by decide) rfl
  have hS9 : ∀ g, (Value.slice A9 L.length c9).ownBlock = some g → TB w11 g ∧ w.heap.size ≤ g ∧ B ≤ g := fun g hgg => by
    obtain ⟨cur, hc⟩ := own_typed h9 hgg
    have h7 := own_ge h9 g hgg
    have h10 : TB w10 g := ⟨cur, hc.below hb10 hc.lt⟩
    refine ⟨h10.grown hg11 (fun e => ?_), by omega, h7⟩
    have := hVB g e.symm; omega
  refine ⟨fun b => T b ∨ (Value.slice A9 L.length c9).ownBlock = some b, h.putWay hj hg (fun g hg' => ?_) (fun b hb => .inl hb) (fun b hb => ?_) ?_⟩
  · rcases hat with ha | ha
    · exact .inl (ha.symm.trans hg')
    · rw [ha] at hg'; injection hg' with hg'; have := hb10'.size; exact .inr (by omega)
  · rcases hb with hb | hb
    · exact ⟨(h.tb b hb).1.grown hg (hT7 b (h.tb b hb).1), (h.tb b hb).2⟩
    · exact ⟨(hS9 b hb).1, (hS9 b hb).2.1⟩
  · refine ⟨_, by rw [List.length_append]; exact h11, ?_⟩
    have he : Elems (rList rTold) w11 (fun b => T b ∨ (Value.slice A9 L.length c9).ownBlock = some b) cs (W j) := elems_more hej (fun b hb => .inl hb) fun p hp => World.cell?_of_block (hg.block _ (h.tb _ hp).1.lt (hT7 _ (h.tb _ hp).1))
    have hsl : Sl rTold w9 (fun b => (Value.slice A9 L.length c9).ownBlock = some b) A9 c9 L := Sl.of_own (ρ := rTold) h9 (elems_told hfit) fun g hg => hg
    have hsl11 : Sl rTold w11 (fun b => T b ∨ (Value.slice A9 L.length c9).ownBlock = some b) A9 c9 L := (hsl.keep fun p hp => by
      have h7 := own_ge h9 _ hp
      have hl9 := own_lt h9 _ hp
      have e10 : w10.cell? p = w9.cell? p := hb10.cell hl9
      rw [← e10]
      refine World.cell?_of_block (hg11.block _ (Nat.lt_of_lt_of_le hl9 hb10.size) (fun e => ?_))
      have := hVB _ e.symm; omega).more fun b hb => .inr hb
    exact he.snoc (ρ := rList rTold) ⟨A9, c9, rfl, hsl11⟩
theorem Sm.wcell (h : Sm w wr bp bw bl bs lm sm G GS C who ES V W T nS nL fS fL) {k : Nat} (hk : k < 2) : wr.cell? ⟨bw, k, none⟩ = some (V k) := by
  obtain ⟨c0, c1⟩ := blk2 h.wa
  rcases (show k = 0 ∨ k = 1 by omega) with rfl | rfl
  · exact c0
  · exact c1
end
end Go.Proofs.Ytmghigmegiainaa
