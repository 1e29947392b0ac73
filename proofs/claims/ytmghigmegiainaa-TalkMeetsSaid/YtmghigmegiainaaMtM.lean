/- The walk of TalkMeets. -/
import Derived.Test.YtmghigmegiainaaMtS
import Derived.Test.YtmghigmegiainaaTkO
import Derived.Deep.CutBlock
import Derived.Carry
namespace Go.Proofs.Ytmghigmegiainaa
open Go.RowKit

def who1 : Nat → Int := fun k => (k : Int) + 1
theorem bare_set {w : World} {b i : Nat} {v : Value} : w.grownBy (w.setCell ⟨b, i, none⟩ v) (some b) := only_setCell (only_of_below (Below.refl _ _) _) (.inl rfl) _
theorem Tk.off_ {w w' : World} {b g gs c t : Nat} {cs : Array Value} {who : Int} {es : List Ent} (h : Tk w 54 56 g gs c who es) (hb : Blk w b t cs) (h1 : t ≠ 54) (h2 : t ≠ 56) (hg : w.grownBy w' (some b)) : Tk w' 54 56 g gs c who es := by
  obtain ⟨c1, b1, _⟩ := h.row.blk
  exact h.grown hg (fun e => by injection e with e; exact Blk.ne_ hb h.head h1 e.symm) (fun e => by injection e with e; exact Blk.ne_ hb b1 h2 e.symm)
/-- the relation of the first loop -/
def Rel1 (w : World) (b N k : Nat) (wr : World) : Prop :=
  Below w.heap.size w wr ∧ ((k = 0 ∧ Blk wr b 25 #[.pointer none, .pointer none]) ∨
    (k = 1 ∧ ∃ g gs c, Blk wr b 25 #[.pointer (some ⟨g, 0, none⟩), .pointer none] ∧ w.heap.size ≤ gs ∧ Tk wr 54 56 g gs c 1 (newS N)) ∨
    (k = 2 ∧ ∃ g gs c g' gs' c', Blk wr b 25 #[.pointer (some ⟨g, 0, none⟩), .pointer (some ⟨g', 0, none⟩)] ∧ w.heap.size ≤ gs ∧ w.heap.size ≤ gs' ∧ gs ≠ gs' ∧ Tk wr 54 56 g gs c 1 (newS N) ∧ Tk wr 54 56 g' gs' c' 2 (newS N)))
theorem rel_step0 {w w5 wr : World} {b N g gs c : Nat} (hX : Below w.heap.size w wr) (hw : w.heap.size ≤ b) (hb5 : Below wr.heap.size wr w5) (hB : Blk wr b 25 #[.pointer none, .pointer none]) (hgs : wr.heap.size ≤ gs) (hT : Tk w5 54 56 g gs c 1 (newS N)) :
    Rel1 w b N 1 (w5.setCell ⟨b, 0, none⟩ (.pointer (some ⟨g, 0, none⟩))) := by
  have hB5 := hB.below hb5 hB.lt
  refine ⟨(hX.trans (hb5.mono hX.size)).setCell (p := ⟨b, 0, none⟩) hw _, .inr (.inl ⟨rfl, g, gs, c, by simpa using hB5.set_ 0 (.pointer (some ⟨g, 0, none⟩)), by have := hX.size; omega, hT.off_ hB5 (by decide) (by decide) bare_set⟩)⟩
theorem rel_step1 {w w5 wr : World} {b N g gs c g' gs' c' : Nat} (hX : Below w.heap.size w wr) (hw : w.heap.size ≤ b) (hb5 : Below wr.heap.size wr w5) (hB : Blk wr b 25 #[.pointer (some ⟨g, 0, none⟩), .pointer none]) (h0 : w.heap.size ≤ gs) (hT0 : Tk wr 54 56 g gs c 1 (newS N)) (hgs : wr.heap.size ≤ gs') (hT : Tk w5 54 56 g' gs' c' 2 (newS N)) :
    Rel1 w b N 2 (w5.setCell ⟨b, 1, none⟩ (.pointer (some ⟨g', 0, none⟩))) := by
  have hB5 := hB.below hb5 hB.lt
  have hlt := hT0.row.lt
  refine ⟨(hX.trans (hb5.mono hX.size)).setCell (p := ⟨b, 1, none⟩) hw _, .inr (.inr ⟨rfl, g, gs, c, g', gs', c', by simpa using hB5.set_ 1 (.pointer (some ⟨g', 0, none⟩)), h0, by have := hX.size; omega, by omega, (hT0.below hb5).off_ hB5 (by decide) (by decide) bare_set, hT.off_ hB5 (by decide) (by decide) bare_set⟩)⟩
def two_ {α : Type} (a b : α) : Nat → α := fun j => if j = 0 then a else b
theorem newE_ok {who N : Nat} (h1 : 1 ≤ who) (h2 : who ≤ 9) (h3 : 1 ≤ N) (h4 : N ≤ 20) : newE (who : Int) (N : Int) = 0 := by
  unfold newE
  rw [if_neg (by omega), if_neg (by omega)]
/-- all that holds ahead of a round -/
def SaidAll (SD : Told → Prop) (fS : Value → Value) : Prop := ∀ t, SD t → fS t.val_ = .bool true
def Going (w wr : World) (bp bw bl bs lm sm : Nat) (G GS C : Nat → Nat) (N n m : Nat) : Prop :=
  ∃ (ES : Nat → List Ent) (V : Nat → Value) (W : Nat → List (List Told)) (T : Nat → Prop) (nS nL : Nat) (fS fL : Value → Value) (LA : Nat → Nat → Told) (SD : Told → Prop),
    Hid (Sm w wr bp bw bl bs lm sm G GS C who1 ES V W T nS nL fS fL) ∧ Hid (Meet N n ES W SD) ∧ Hid (Tied fL LA) ∧ Hid (Seen ES LA) ∧ Hid (SaidAll SD fS) ∧ nS ≤ 20 * m ∧ nL ≤ 40 * m

/-- behind a step, ahead of looks -/
def Stepped (w wx : World) (bp bw bl bs lm sm : Nat) (G GS C : Nat → Nat) (N n nL : Nat) (fL : Value → Value) (ES : Nat → List Ent) : Prop :=
  ∃ (ES' : Nat → List Ent) (V' : Nat → Value) (W' : Nat → List (List Told)) (T' : Nat → Prop) (nS' : Nat) (fS' : Value → Value) (SD' : Told → Prop),
    Hid (Sm w wx bp bw bl bs lm sm G GS C who1 ES' V' W' T' nS' nL fS' fL) ∧ Hid (Meet N (n + 1) ES' W' SD') ∧ Hid (∀ k, k < 2 → Grew (ES k) (ES' k)) ∧ Hid (SaidAll SD' fS') ∧ nS' ≤ 20 * (n + 1)
/-- while what was said is noted -/
def Noting (w wr : World) (bp bw bl bs lm sm : Nat) (G GS C : Nat → Nat) (ES : Nat → List Ent) (V : Nat → Value) (W : Nat → List (List Told)) (T : Nat → Prop) (nS nL : Nat) (fL : Value → Value) (SD : Told → Prop) (L : List Told) (s : Int) (q : Nat) : Prop :=
  ∃ (nS' : Nat) (fS' : Value → Value), nS' ≤ nS + q ∧ Sm w wr bp bw bl bs lm sm G GS C who1 ES V W T nS' nL fS' fL ∧ SaidAll SD fS' ∧ ∀ x ∈ L.take q, x.slot = s → fS' x.val_ = .bool true
/-- behind so many of the last turns -/
def Closing (w wr : World) (bp bw bl bs lm sm : Nat) (G GS C : Nat → Nat) (N n m : Nat) : Prop :=
  ∃ (ES : Nat → List Ent) (V : Nat → Value) (W WG : Nat → List (List Told)) (T : Nat → Prop) (nS nL : Nat) (fS fL : Value → Value) (LA : Nat → Nat → Told) (SD : Told → Prop),
    Hid (Sm w wr bp bw bl bs lm sm G GS C who1 ES V W T nS nL fS fL) ∧ Hid (Meet N (n + 4 * m) ES WG SD) ∧ Hid (Tied fL LA) ∧ Hid (Seen ES LA) ∧ Hid (SaidAll SD fS) ∧ nL ≤ 40 * (n + m) ∧ Hid (Conv N m ES)
theorem slot_ne2 {w : World} {g gs c ob t : Nat} {who : Int} {es : List Ent} {cs : Array Value} {ht et : Nat} (h : Tk w ht et g gs c who es) (hb : Blk w ob t cs) (hne : t ≠ et) : some ob ≠ some gs := fun e => by
  injection e with e
  obtain ⟨cur, h1, _⟩ := h.row.blk
  exact Blk.ne_ hb h1 hne e
theorem tb_slot2 {w : World} {b g gs c : Nat} {who : Int} {es : List Ent} {ht et : Nat} (hb : TB w b) (h : Tk w ht et g gs c who es) (hne : et ≠ 44) : some b ≠ some gs := fun e => by
  injection e with e
  obtain ⟨cur, h1, _⟩ := h.row.blk
  exact hb.ne_ h1 hne e
theorem own_cap {w : World} {base e n c : Nat} {A : Option Addr} {xs : List Value} (h : w.ownsRow base e 1 (.slice A n c) n xs) : n ≤ c ∧ c ≤ maxLen := by
  rcases h.2 with ⟨hv, h0⟩ | ⟨g, cap, cur, hv, _, _, h1, h2, _⟩
  · injection hv with _ h1 h2; subst h1; exact ⟨Nat.zero_le _, by rw [h2]; exact Nat.zero_le _⟩
  · injection hv with _ h3 h4; subst h4; exact ⟨h1, h2⟩
theorem two_cell2 {w : World} {b t j : Nat} {V : Nat → Value} (h : Blk w b t #[V 0, V 1]) (hj : j < 2) : w.cell? ⟨b, j, none⟩ = some (V j) := by
  obtain ⟨c0, c1⟩ := blk2 h
  rcases (show j = 0 ∨ j = 1 by omega) with rfl | rfl
  · exact c0
  · exact c1
theorem infoLT : (Try.prog.info? 36).map (fun i => (i.zero, i.size, i.bytes)) = some (some (.slice none 0 0), 1, 24) := by kernel_rfl
theorem two_cases {Q : Nat → Prop} (h0 : Q 0) (h1 : Q 1) : ∀ k, k < 2 → Q k := by
  intro k hk
  rcases (show k = 0 ∨ k = 1 by omega) with rfl | rfl
  · exact h0
  · exact h1
theorem sm_new {w wr : World} {bp N g0 gs0 c0 g1 gs1 c1 : Nat} (hX : Below w.heap.size w wr) (hB : Blk wr bp 25 #[.pointer (some ⟨g0, 0, none⟩), .pointer (some ⟨g1, 0, none⟩)]) (l0 : w.heap.size ≤ gs0) (l1 : w.heap.size ≤ gs1) (hne : gs0 ≠ gs1) (hT0 : Tk wr 54 56 g0 gs0 c0 1 (newS N)) (hT1 : Tk wr 54 56 g1 gs1 c1 2 (newS N)) :
    Sm w (((((wr.alloc (.cells #[.slice none 0 0, .slice none 0 0] 35)).alloc (.map #[] 0)).alloc (.cells #[.map (some (wr.heap.size + 1))] 47)).alloc (.map #[] 0)).alloc (.cells #[.map (some (wr.heap.size + 1 + 1 + 1))] 48))
      bp wr.heap.size (wr.heap.size + 1 + 1 + 1 + 1) (wr.heap.size + 1 + 1) (wr.heap.size + 1 + 1 + 1) (wr.heap.size + 1) (two_ g0 g1) (two_ gs0 gs1) (two_ c0 c1) who1 (fun _ => newS N) (fun _ => .slice none 0 0) (fun _ => []) (fun _ => False) 0 0 (fun _ => .bool false) (fun _ => zeroT.val_) := by
  have hz := hX.size
  have sz : ∀ (u : World) (o : Obj), (u.alloc o).heap.size = u.heap.size + 1 := fun u o => World.size_alloc u o
  have ha := Blk.new wr 35 #[.slice none 0 0, .slice none 0 0]
  generalize hwa : wr.alloc (.cells #[.slice none 0 0, .slice none 0 0] 35) = wa at *
  have za : wa.heap.size = wr.heap.size + 1 := by rw [← hwa]; exact sz _ _
  have ba : Below wr.heap.size wr wa := by rw [← hwa]; exact (Below.refl _ _).alloc (Nat.le_refl _) _
  have hm := MapFn.made wa Try.prog 44 (.bool false)
  rw [za] at hm
  generalize hwb : wa.alloc (.map #[] 0) = wb at *
  have zb : wb.heap.size = wr.heap.size + 1 + 1 := by rw [← hwb, sz, za]
  have bb : Below wa.heap.size wa wb := by rw [← hwb]; exact (Below.refl _ _).alloc (Nat.le_refl _) _
  have hc := Blk.new wb 47 #[.map (some (wr.heap.size + 1))]
  rw [zb] at hc
  generalize hwc : wb.alloc (.cells #[.map (some (wr.heap.size + 1))] 47) = wc at *
  have zc : wc.heap.size = wr.heap.size + 1 + 1 + 1 := by rw [← hwc, sz, zb]
  have bc : Below wb.heap.size wb wc := by rw [← hwc]; exact (Below.refl _ _).alloc (Nat.le_refl _) _
  have hd := MapFn.made wc Try.prog 49 zeroT.val_
  rw [zc] at hd
  generalize hwd : wc.alloc (.map #[] 0) = wd at *
  have zd : wd.heap.size = wr.heap.size + 1 + 1 + 1 + 1 := by rw [← hwd, sz, zc]
  have bd : Below wc.heap.size wc wd := by rw [← hwd]; exact (Below.refl _ _).alloc (Nat.le_refl _) _
  have he := Blk.new wd 48 #[.map (some (wr.heap.size + 1 + 1 + 1))]
  rw [zd] at he
  generalize hwe : wd.alloc (.cells #[.map (some (wr.heap.size + 1 + 1 + 1))] 48) = we at *
  have be : Below wd.heap.size wd we := by rw [← hwe]; exact (Below.refl _ _).alloc (Nat.le_refl _) _
  have b4 : Below wd.heap.size wd we := be
  have b3 : Below wc.heap.size wc we := bd.trans (be.mono (by omega))
  have b2 : Below wb.heap.size wb we := bc.trans (b3.mono (by omega))
  have b1 : Below wa.heap.size wa we := bb.trans (b2.mono (by omega))
  have b0 : Below wr.heap.size wr we := ba.trans (b1.mono (by omega))
  exact {
    old := hX.trans (b0.mono hz)
    rd := {
      pa := hB.below b0 hB.lt
      tk := fun k hk => by
        rcases (show k = 0 ∨ k = 1 by omega) with rfl | rfl
        · exact hT0.below b0
        · exact hT1.below b0
      lb := he
      sb := hc.below b3 hc.lt
      sf := hm.grown (only_of_below b2 none) (by simp)
      ne := by omega }
    lf := hd.grown (only_of_below b4 none) (by simp)
    wa := ha.below b1 ha.lt
    way := fun k hk => WayRow.nil_ _ _ _
    gne := hne
    vne := fun g h => by simp [Value.ownBlock] at h
    bw0 := hz
    gs0 := two_cases (Q := fun k => w.heap.size ≤ two_ gs0 gs1 k) l0 l1
    sm0 := by omega
    lm0 := by omega
    tb := fun b h => h.elim }

set_option maxRecDepth 100000 in
set_option maxHeartbeats 8000000 in
theorem meets_any (S : Nat → Prop) (slots : Int) (A : Option Addr) (c : Nat) (ops : List TOp) (w : World) (hs : I64 slots) (h : Sl rOp w S A c ops) (hS : ∀ b, S b → b < w.heap.size) :
    Calls Try.prog 4 #[.int .i64 slots, .slice A ops.length c] w fun e w' => e = .returned (.bool true) ∧ Below w.heap.size w w' := by
  have hl := h.le
  have hm := h.max
  unfold maxLen at hm
  have HL := Lib.hid h
  have HS := Lib.hid hS
  clear h hS
  have hmm := @run_makeMap Try.prog
  go_enter Try.func4, Try.ntmps4
  go_wp2_with fail
  refine (begun_any _).mono ?_
  rintro e w1 ⟨rfl, hb1⟩
  have HB1 := Lib.hid hb1
  have hsz1 := hb1.size
  clear hb1
  go_wp2_with fail
  refine (choose_any slots 20 _ hs (by omega) (by omega)).mono ?_
  rintro e w2 ⟨rfl, rfl⟩
  have hN0 := chooseN_lt slots (n := 20) (by omega)
  generalize chooseN slots 20 = n0 at *
  obtain ⟨N, hNn⟩ : ∃ N : Nat, 1 + (n0 : Int) = (N : Int) := ⟨n0 + 1, by omega⟩
  have hwr : IntKind.i64.wrap (1 + (n0 : Int)) = (N : Int) := by rw [IntKind.wrap_i64]; omega
  have hN1 : 1 ≤ N := by omega
  have hN20 : N ≤ 20 := by omega
  have hpa : Blk (w1.alloc (.cells #[.pointer none, .pointer none] 25)) w1.heap.size 25 #[.pointer none, .pointer none] := Blk.new _ _ _
  have hx1 := HB1.out.alloc hsz1 (.cells #[.pointer none, .pointer none] 25)
  have HR1 : Hid (Rel1 w w1.heap.size N 0 (w1.alloc (.cells #[.pointer none, .pointer none] 25))) := Lib.hid ⟨hx1, .inl ⟨rfl, hpa⟩⟩
  clear hpa hx1
  go_wp2
  clear hwr hNn hN0
  generalize World.alloc w1 _ = w2 at *
  generalize w1.heap.size = bp at *
  clear HB1
  go_loopw [6] (fun i wr => ∃ k : Nat, i = .int .i64 (k : Int) ∧ k ≤ 2 ∧ Hid (Rel1 w bp N k wr)) (fun i _ => 2 - (intOf i).toNat)
  case atStart => exact ⟨0, rfl, by omega, HR1⟩
  case round =>
    obtain ⟨k, rfl, hk, hrel⟩ := hrel
    clear HR1
    obtain ⟨hX, ⟨rfl, hB⟩ | ⟨rfl, g, gs, c, hB, hgs, hT⟩ | ⟨rfl, g0, gs0, c0, g1, gs1, c1, hB, l0, l1, hne, hT0, hT1⟩⟩ := hrel.out
    · skip
      as_aux_lemma =>
        have HX := Lib.hid hX
        have HB := Lib.hid hB
        clear hrel hX hB
        go_wp2_with fail
        refine (new_any 1 (N : Int) _ ⟨by omega, by omega⟩ ⟨by omega, by omega⟩).mono ?_
        rintro e5 w5 ⟨hnew, hb5⟩
        rcases hnew with ⟨he, rfl⟩ | ⟨_, g, gs, c1, rfl, hg, hgs, hT⟩
        · exact absurd (newE_ok (who := 1) (by omega) (by omega) hN1 hN20) he
        · rw [Int.toNat_natCast] at hT
          have hB5 := HB.out.below hb5 HB.out.lt
          obtain ⟨u0, u1⟩ := blk2 hB5
          have f0 := hB5.frozen 0
          have HR := Lib.hid (rel_step0 HX.out hsz1 hb5 HB.out hgs hT)
          clear hB5 hb5 hT
          go_wp2
          go_roundw
          case rel => exact ⟨1, rfl, by omega, HR⟩
          case measure => simp [intOf]
    · skip
      as_aux_lemma =>
        have HX := Lib.hid hX
        have HB := Lib.hid hB
        have HT := Lib.hid hT
        clear hrel hX hB hT
        go_wp2_with fail
        refine (new_any 2 (N : Int) _ ⟨by omega, by omega⟩ ⟨by omega, by omega⟩).mono ?_
        rintro e5 w5 ⟨hnew, hb5⟩
        rcases hnew with ⟨he, rfl⟩ | ⟨_, g', gs', c1, rfl, hg, hgs', hT'⟩
        · exact absurd (newE_ok (who := 2) (by omega) (by omega) hN1 hN20) he
        · rw [Int.toNat_natCast] at hT'
          have hB5 := HB.out.below hb5 HB.out.lt
          obtain ⟨u0, u1⟩ := blk2 hB5
          have f1 := hB5.frozen 1
          have HR := Lib.hid (rel_step1 HX.out hsz1 hb5 HB.out hgs HT.out hgs' hT')
          clear hB5 hb5 hT'
          go_wp2
          go_roundw
          case rel => exact ⟨2, rfl, by omega, HR⟩
          case measure => simp [intOf]
    · have HG0 : Hid (Going w _ bp wr.heap.size (wr.heap.size + 1 + 1 + 1 + 1) (wr.heap.size + 1 + 1) (wr.heap.size + 1 + 1 + 1) (wr.heap.size + 1) (two_ g0 g1) (two_ gs0 gs1) (two_ c0 c1) N 0 0) := Lib.hid
        ⟨_, _, _, _, 0, 0, _, _, fun _ _ => zeroT, fun _ => False, Lib.hid (sm_new hX hB l0 l1 hne hT0 hT1), Lib.hid (Meet.begin N _), Lib.hid (fun _ _ _ _ => rfl), Lib.hid (Seen.begin N), Lib.hid (fun t h => h.elim), Nat.le_refl _, Nat.le_refl _⟩
      clear hrel hX hB l0 l1 hne hT0 hT1 hk
      rw [show ((2 : Nat) : Int) = 2 from rfl]
      go_upto_block 2 with fail
      generalize World.alloc (World.alloc (World.alloc (World.alloc (World.alloc wr _) _) _) _) _ = w3 at *
      generalize wr.heap.size + 1 + 1 + 1 + 1 = bl at *
      generalize wr.heap.size + 1 + 1 + 1 = lm at *
      generalize wr.heap.size + 1 + 1 = bs at *
      generalize wr.heap.size + 1 = sm at *
      generalize wr.heap.size = bw at *
      generalize two_ g0 g1 = G at *
      generalize two_ gs0 gs1 = GS at *
      generalize two_ c0 c1 = C at *
      clear hmm
      go_cut [13, 14, 15, 16, 17, 18, 19, 20] from 50 to 173 (fun _ _ _ _ _ _ _ _ wx => ∃ n : Nat, n ≤ 300 ∧ Hid (Going w wx bp bw bl bs lm sm G GS C N n n))
      case rest =>
        obtain ⟨n, hn, HGO⟩ := hcut
        clear HG0
        generalize wc = w4 at *
        have HCL : Hid (Closing w w4 bp bw bl bs lm sm G GS C N n 0) := Lib.hid (by
          obtain ⟨ES, V, W, T, nS, nL, fS, fL, LA, SD, HST, HME, HTI, HSN, HSA, hnS, hnL⟩ := HGO.out
          exact ⟨ES, V, W, W, T, nS, nL, fS, fL, LA, SD, HST, HME, HTI, HSN, HSA, by omega, Lib.hid HME.out.conv⟩)
        clear HGO
        go_wp2
        go_loopw [21] (fun i wr => ∃ m : Nat, m ≤ 3 ∧ i = .int .i64 (m : Int) ∧ Hid (Closing w wr bp bw bl bs lm sm G GS C N n m)) (fun i _ => 3 - (intOf i).toNat)
        case atStart => exact ⟨0, by omega, rfl, HCL⟩
        case round =>
          obtain ⟨m, hm3, rfl, HCR⟩ := hrel
          clear HCL
          obtain ⟨ES, V, W, WG, T, nS, nL, fS, fL, LA, SD, HST, HME, HTI, HSN, HSA, hnL, HCV⟩ := HCR.out
          clear HCR
          have hst := HST.out.below (Below.refl wr.heap.size wr).drew
          have HSTd := Lib.hid hst
          have HSW : Hid (wr.drew.cell? ⟨bp, 0, none⟩ = some (.pointer (some ⟨G 0, 0, none⟩)) ∧ wr.drew.cell? ⟨bp, 1, none⟩ = some (.pointer (some ⟨G 1, 0, none⟩))) := Lib.hid ⟨hst.rd.pcell (k := 0) (by omega), hst.rd.pcell (k := 1) (by omega)⟩
          have hl0 : (ES 0).length ≤ 20 := by rw [HME.out.len 0 (by omega)]; exact hN20
          have hl1 : (ES 1).length ≤ 20 := by rw [HME.out.len 1 (by omega)]; exact hN20
          clear hst HST
          by_cases hm : m < 3
          · skip
            as_aux_lemma =>
              obtain ⟨W2, e1, ok2, e3, g0, g1, hM⟩ := HME.out.turn_ hN20 (by omega)
              have HE1 := Lib.hid e1
              have HE3 := Lib.hid e3
              have HTA := Lib.hid (take_any (G 0) (GS 0) (C 0) (who1 0) (ES 0) wr.drew (HSTd.out.rd.tk 0 (by omega)) hl0)
              have hcv := fun (ES' : Nat → List Ent) => HCV.out.step (ES' := ES') (HME.out.ok (by omega) (k := 0) (by omega)) ok2 e1 e3
              have HCN := Lib.hid hcv
              have HMN := Lib.hid hM
              have HG0 := Lib.hid g0
              have HG1 := Lib.hid g1
              have hlQ : (hearS (ES 1) (takeL (ES 0))).length = N := by rw [hearS_length]; exact HME.out.len 1 (by omega)
              have hlP : (takeS (ES 0)).length = N := by rw [takeS_len]; exact HME.out.len 0 (by omega)
              clear e1 ok2 e3 g0 g1 hM hcv
              go_wp2_with fail
              refine wp_region_any (by kernel_rfl) ?_
              change wpAny _ _ _ _ _ _ _ (World.drew wr)
              refine wpAny_of_held (S := fun w' => w'.cell? ⟨bp, 0, none⟩ = some (.pointer (some ⟨G 0, 0, none⟩)) ∧ w'.cell? ⟨bp, 1, none⟩ = some (.pointer (some ⟨G 1, 0, none⟩))) _ _ _ _ ?_
              refine takeD (i := 0) (some 178) (v := .pointer (some ⟨bp, 1, none⟩)) rfl rfl (by kernel_rfl) (by kernel_rfl) (by kernel_rfl) (fun _ _ _ h => h) (.inl ⟨by rfl, fun w' hw' => by obtain ⟨q1, q2⟩ := hw'; go_simp⟩) HSW.out ?_
              simp only [Act.put, List.setIfInBounds_toArray, List.set_cons_zero, List.set_cons_succ]
              refine takeD (i := 1) (some 179) (v := .pointer (some ⟨G 1, 0, none⟩)) rfl rfl (by kernel_rfl) (by kernel_rfl) (by kernel_rfl) (fun _ _ _ h => h) (.inl ⟨by rfl, fun w' hw' => by obtain ⟨q1, q2⟩ := hw'; go_simp⟩) HSW.out ?_
              simp only [Act.put, List.setIfInBounds_toArray, List.set_cons_zero, List.set_cons_succ]
              refine takeD (i := 2) (some 180) (v := .pointer (some ⟨bp, 0, none⟩)) rfl rfl (by kernel_rfl) (by kernel_rfl) (by kernel_rfl) (fun _ _ _ h => h) (.inl ⟨by rfl, fun w' hw' => by obtain ⟨q1, q2⟩ := hw'; go_simp⟩) HSW.out ?_
              simp only [Act.put, List.setIfInBounds_toArray, List.set_cons_zero, List.set_cons_succ]
              refine takeD (i := 3) (some 181) (v := .pointer (some ⟨G 0, 0, none⟩)) rfl rfl (by kernel_rfl) (by kernel_rfl) (by kernel_rfl) (fun _ _ _ h => h) (.inl ⟨by rfl, fun w' hw' => by obtain ⟨q1, q2⟩ := hw'; go_simp⟩) HSW.out ?_
              simp only [Act.put, List.setIfInBounds_toArray, List.set_cons_zero, List.set_cons_succ]
              refine wpAnyH_ready (rs := [4]) (by kernel_rfl) (by simp) ?_
              refine AllReadyH.cons rfl (fun K hK => ?_) AllReadyH.nil
              go_simp
              go_at_call 11
              refine HTA.out.mono ?_
              rintro e5 w5 ⟨⟨v5, rfl, hr5⟩, hg5, hs5⟩
              obtain ⟨A5, c5, rfl, hsl5, _⟩ := hr5.sl
              have hst5 := HSTd.out.setP (k := 0) (by omega) hg5 hs5 (takeS_len _)
              have hgs1 : GS 1 < wr.heap.size := (HSTd.out.rd.tk 1 (by omega)).row.lt
              have htk5 := hst5.rd.tk 1 (by omega)
              rw [upd_ne _ _ (by omega)] at htk5
              have HHA := Lib.hid (hear_any _ A5 c5 (takeL (ES 0)) (G 1) (GS 1) (C 1) (who1 1) (ES 1) w5 htk5 hl1 hsl5 (fun b hb => ⟨hb.2, fun e => by have h1 : wr.heap.size ≤ b := hb.1; omega⟩))
              have HST5 := Lib.hid hst5
              have hsw5 := And.intro (hst5.rd.pcell (k := 0) (by omega)) (hst5.rd.pcell (k := 1) (by omega))
              clear hr5 hg5 hs5 hsl5 hst5 htk5 HSTd HTA
              go_wp2_with fail
              refine hK.out _ _ hsw5 (fun hcd => ?_)
              clear hK K hcd
              refine wpAnyH_ready (rs := [5]) (by kernel_rfl) (by simp) ?_
              refine AllReadyH.cons rfl (fun K hK => ?_) AllReadyH.nil
              go_simp
              go_at_call 14
              refine HHA.out.mono ?_
              rintro e6 w6 ⟨rfl, hg6, hs6⟩
              rw [HE1.out]
              have hst6 := HST5.out.setP (k := 1) (by omega) hg6 hs6 (by rw [hearS_length, upd_ne _ _ (by omega)])
              generalize hQ : hearS (ES 1) (takeL (ES 0)) = Q1 at *
              have htk6 := hst6.rd.tk 1 (by omega)
              rw [upd_at] at htk6
              have HTB := Lib.hid (take_any (G 1) (GS 1) (C 1) (who1 1) Q1 w6 htk6 (by omega))
              have HST6 := Lib.hid hst6
              have hsw6 := And.intro (hst6.rd.pcell (k := 0) (by omega)) (hst6.rd.pcell (k := 1) (by omega))
              clear hg6 hs6 hst6 htk6 HST5 HHA hsw5
              go_wp2_with fail
              refine hK.out _ _ hsw6 (fun hcd => ?_)
              clear hK K hcd
              refine takeD (i := 6) (some 184) (v := .bool false) rfl rfl (by kernel_rfl) (by kernel_rfl) (by kernel_rfl) (fun _ _ _ h => h) (.inl ⟨by rfl, fun w' hw' => by obtain ⟨q1, q2⟩ := hw'; go_simp⟩) hsw6 ?_
              simp only [Act.put, List.setIfInBounds_toArray, List.set_cons_zero, List.set_cons_succ]
              refine takeD (i := 7) (some 185) (v := .bool false) rfl rfl (by kernel_rfl) (by kernel_rfl) (by kernel_rfl) (fun _ _ _ h => h) (.inl ⟨by rfl, fun w' hw' => by rfl⟩) hsw6 ?_
              simp only [Act.put, List.setIfInBounds_toArray, List.set_cons_zero, List.set_cons_succ]
              refine takeD (i := 8) (some 186) (v := .pointer (some ⟨bp, 0, none⟩)) rfl rfl (by kernel_rfl) (by kernel_rfl) (by kernel_rfl) (fun _ _ _ h => h) (.inl ⟨by rfl, fun w' hw' => by obtain ⟨q1, q2⟩ := hw'; go_simp⟩) hsw6 ?_
              simp only [Act.put, List.setIfInBounds_toArray, List.set_cons_zero, List.set_cons_succ]
              refine takeD (i := 9) (some 187) (v := .pointer (some ⟨G 0, 0, none⟩)) rfl rfl (by kernel_rfl) (by kernel_rfl) (by kernel_rfl) (fun _ _ _ h => h) (.inl ⟨by rfl, fun w' hw' => by obtain ⟨q1, q2⟩ := hw'; go_simp⟩) hsw6 ?_
              simp only [Act.put, List.setIfInBounds_toArray, List.set_cons_zero, List.set_cons_succ]
              refine takeD (i := 10) (some 188) (v := .pointer (some ⟨bp, 1, none⟩)) rfl rfl (by kernel_rfl) (by kernel_rfl) (by kernel_rfl) (fun _ _ _ h => h) (.inl ⟨by rfl, fun w' hw' => by obtain ⟨q1, q2⟩ := hw'; go_simp⟩) hsw6 ?_
              simp only [Act.put, List.setIfInBounds_toArray, List.set_cons_zero, List.set_cons_succ]
              refine takeD (i := 11) (some 189) (v := .pointer (some ⟨G 1, 0, none⟩)) rfl rfl (by kernel_rfl) (by kernel_rfl) (by kernel_rfl) (fun _ _ _ h => h) (.inl ⟨by rfl, fun w' hw' => by obtain ⟨q1, q2⟩ := hw'; go_simp⟩) hsw6 ?_
              simp only [Act.put, List.setIfInBounds_toArray, List.set_cons_zero, List.set_cons_succ]
              refine wpAnyH_ready (rs := [12]) (by kernel_rfl) (by simp) ?_
              refine AllReadyH.cons rfl (fun K hK => ?_) AllReadyH.nil
              go_simp
              go_at_call 11
              refine HTB.out.mono ?_
              rintro e7 w7 ⟨⟨v7, rfl, hr7⟩, hg7, hs7⟩
              obtain ⟨A7, c7, rfl, hsl7, _⟩ := hr7.sl
              have hst7 := HST6.out.setP (k := 1) (by omega) hg7 hs7 (by rw [upd_at, takeS_len])
              have hgs0 : GS 0 < w6.heap.size := (HST6.out.rd.tk 0 (by omega)).row.lt
              have htk7 := hst7.rd.tk 0 (by omega)
              rw [upd_ne _ _ (by omega), upd_ne _ _ (by omega), upd_at] at htk7
              have HHB := Lib.hid (hear_any _ A7 c7 (takeL Q1) (G 0) (GS 0) (C 0) (who1 0) (takeS (ES 0)) w7 htk7 (by omega) hsl7 (fun b hb => ⟨hb.2, fun e => by have h1 : w6.heap.size ≤ b := hb.1; omega⟩))
              have HST7 := Lib.hid hst7
              have hsw7 := And.intro (hst7.rd.pcell (k := 0) (by omega)) (hst7.rd.pcell (k := 1) (by omega))
              clear hr7 hg7 hs7 hsl7 hst7 htk7 HST6 HTB hsw6
              go_wp2_with fail
              refine hK.out _ _ hsw7 (fun hcd => ?_)
              clear hK K hcd
              refine wpAnyH_ready (rs := [13]) (by kernel_rfl) (by simp) ?_
              refine AllReadyH.cons rfl (fun K hK => ?_) AllReadyH.nil
              go_simp
              go_at_call 14
              refine HHB.out.mono ?_
              rintro e8 w8 ⟨rfl, hg8, hs8⟩
              rw [HE3.out]
              have hst8 := HST7.out.setP (k := 0) (by omega) hg8 hs8 (by rw [hearS_length, upd_ne _ _ (by omega), upd_ne _ _ (by omega), upd_at])
              have hE0 : (upd (upd (upd (upd ES 0 (takeS (ES 0))) 1 Q1) 1 (takeS Q1)) 0 (hearS (takeS (ES 0)) (takeL Q1))) 0 = hearS (takeS (ES 0)) (takeL Q1) := upd_at _ _ _
              have hE1 : (upd (upd (upd (upd ES 0 (takeS (ES 0))) 1 Q1) 1 (takeS Q1)) 0 (hearS (takeS (ES 0)) (takeL Q1))) 1 = takeS Q1 := by rw [upd_ne _ _ (by omega), upd_at]
              have hmn := HMN.out _ hE0 hE1
              have hcn := HCN.out _ hE0 hE1
              generalize upd (upd (upd (upd ES 0 (takeS (ES 0))) 1 Q1) 1 (takeS Q1)) 0 (hearS (takeS (ES 0)) (takeL Q1)) = ES' at *
              have hz : ∀ k, k < 2 → ∀ (i : Nat) (e : Ent), (ES' k)[i]? = some e → EntZ i e := fun k hk i e he => (hmn.ent k hk i e he).1
              have hgr : ∀ k, k < 2 → Grew (ES k) (ES' k) := two_cases (Q := fun k => Grew (ES k) (ES' k)) (by rw [hE0]; exact HG0.out) (by rw [hE1]; exact HG1.out)
              have hpre := HSN.out.pre hgr (fun k hk => by rw [hmn.len k hk, HME.out.len k hk]) (fun k hk i e he => (HME.out.ent k hk i e he).1) hz
              have HLK := Lib.hid (looks_any bp bl bs lm sm G GS C who1 ES' nS nL fS fL LA w8 hst8.rd hst8.lf (by omega) (fun k hk => by rw [hmn.len k hk]; exact hN20) hz (fun k hk i e he h0 => HSA.out _ ((hmn.ent k hk i e he).2 h0).2.2.2.2.2) HTI.out hpre)
              have HST8 := Lib.hid hst8
              have HMX := Lib.hid hmn
              have HCX := Lib.hid hcn
              have hsw8 := And.intro (hst8.rd.pcell (k := 0) (by omega)) (hst8.rd.pcell (k := 1) (by omega))
              clear hg8 hs8 hst8 HST7 HHB hsw7 hmn hcn hz hgr hpre hE0 hE1 HMN HCN HG0 HG1 HME HSN HTI HCV
              go_wp2_with fail
              refine hK.out _ _ hsw8 (fun hcd => ?_)
              clear hK K hcd
              refine takeD (i := 14) (some 192) (v := .bool false) rfl rfl (by kernel_rfl) (by kernel_rfl) (by kernel_rfl) (fun _ _ _ h => h) (.inl ⟨by rfl, fun w' hw' => by obtain ⟨q1, q2⟩ := hw'; go_simp⟩) hsw8 ?_
              simp only [Act.put, List.setIfInBounds_toArray, List.set_cons_zero, List.set_cons_succ]
              refine takeD (i := 15) (some 193) (v := .bool false) rfl rfl (by kernel_rfl) (by kernel_rfl) (by kernel_rfl) (fun _ _ _ h => h) (.inl ⟨by rfl, fun w' hw' => by obtain ⟨q1, q2⟩ := hw'; go_simp⟩) hsw8 ?_
              simp only [Act.put, List.setIfInBounds_toArray, List.set_cons_zero, List.set_cons_succ]
              refine takeD (i := 16) (some 194) (v := .bool false) rfl rfl (by kernel_rfl) (by kernel_rfl) (by kernel_rfl) (fun _ _ _ h => h) (.inl ⟨by rfl, fun w' hw' => by rfl⟩) hsw8 ?_
              simp only [Act.put, List.setIfInBounds_toArray, List.set_cons_zero, List.set_cons_succ]
              refine takeD (i := 17) (some 195) (v := .func (Fn.func 18) #[] #[.pointer (some ⟨bp, 0, none⟩), .pointer (some ⟨bl, 0, none⟩), .pointer (some ⟨bs, 0, none⟩)]) rfl rfl (by kernel_rfl) (by kernel_rfl) (by kernel_rfl) (fun _ _ _ h => h) (.inl ⟨by rfl, fun w' hw' => by rfl⟩) hsw8 ?_
              simp only [Act.put, List.setIfInBounds_toArray, List.set_cons_zero, List.set_cons_succ]
              refine wpAnyH_ready (rs := [18]) (by kernel_rfl) (by simp) ?_
              refine AllReadyH.cons rfl (fun K hK => ?_) AllReadyH.nil
              go_simp
              go_at_call 18
              refine HLK.out.mono ?_
              rintro e9 w9 ⟨rfl, hg9, m9, LA9, f9, hm9, hf9, ht9, hs9⟩
              have hst9 := HST8.out.looked hg9 hf9
              have hsw9 := And.intro (hst9.rd.pcell (k := 0) (by omega)) (hst9.rd.pcell (k := 1) (by omega))
              have HC9 : Hid (Closing w w9 bp bw bl bs lm sm G GS C N n (m + 1)) := Lib.hid ⟨ES', V, W, W2, T, nS, m9, fS, f9, LA9, SD, Lib.hid hst9, by rw [show n + 4 * (m + 1) = n + 4 * m + 4 from by omega]; exact HMX, Lib.hid ht9, Lib.hid hs9, HSA, by omega, HCX⟩
              clear hg9 hf9 ht9 hs9 hst9 HST8 HLK HMX HCX HSA
              go_wp2_with fail
              refine hK.out _ _ hsw9 (fun hcd => ?_)
              clear hK K hcd
              refine takeD (i := 19) (some 197) (v := .bool false) rfl rfl (by kernel_rfl) (by kernel_rfl) (by kernel_rfl) (fun _ _ _ h => h) (.inl ⟨by rfl, fun w' hw' => by obtain ⟨q1, q2⟩ := hw'; go_simp⟩) hsw9 ?_
              simp only [Act.put, List.setIfInBounds_toArray, List.set_cons_zero, List.set_cons_succ]
              refine takeD (i := 20) (some 198) (v := .bool false) rfl rfl (by kernel_rfl) (by kernel_rfl) (by kernel_rfl) (fun _ _ _ h => h) (.inl ⟨by rfl, fun w' hw' => by obtain ⟨q1, q2⟩ := hw'; go_simp⟩) hsw9 ?_
              simp only [Act.put, List.setIfInBounds_toArray, List.set_cons_zero, List.set_cons_succ]
              refine wpAnyH_done (by kernel_rfl) ?_ _
              clear hsw9
              go_wp2
              go_roundw
              case rel => exact ⟨m + 1, by omega, by go_num, HC9⟩
              case measure => simp [intOf]; omega
          · have hm' : m = 3 := by omega
            subst hm'
            as_aux_lemma =>
              obtain ⟨hte, ht0, ht1⟩ := HCV.out.done HME.out.len
              have HTE0 := Lib.hid (tell_any (G 0) (GS 0) (C 0) (who1 0) (ES 0) wr.drew (HSTd.out.rd.tk 0 (by omega)) hl0)
              have HTE := Lib.hid hte
              have HT0 := Lib.hid ht0
              have HT1 := Lib.hid ht1
              clear hte ht0 ht1 HCV HME HTI HSN HSA
              go_wp2_with fail
              refine wp_region_any (by kernel_rfl) ?_
              change wpAny _ _ _ _ _ _ _ (World.drew wr)
              refine wpAny_of_held (S := fun w' => w'.cell? ⟨bp, 0, none⟩ = some (.pointer (some ⟨G 0, 0, none⟩)) ∧ w'.cell? ⟨bp, 1, none⟩ = some (.pointer (some ⟨G 1, 0, none⟩))) _ _ _ _ ?_
              refine takeD (i := 0) (some 199) (v := .pointer (some ⟨bp, 0, none⟩)) rfl rfl (by kernel_rfl) (by kernel_rfl) (by kernel_rfl) (fun _ _ _ h => h) (.inl ⟨by rfl, fun w' hw' => by obtain ⟨q1, q2⟩ := hw'; go_simp⟩) HSW.out ?_
              simp only [Act.put, List.setIfInBounds_toArray, List.set_cons_zero, List.set_cons_succ]
              refine takeD (i := 1) (some 200) (v := .pointer (some ⟨G 0, 0, none⟩)) rfl rfl (by kernel_rfl) (by kernel_rfl) (by kernel_rfl) (fun _ _ _ h => h) (.inl ⟨by rfl, fun w' hw' => by obtain ⟨q1, q2⟩ := hw'; go_simp⟩) HSW.out ?_
              simp only [Act.put, List.setIfInBounds_toArray, List.set_cons_zero, List.set_cons_succ]
              refine takeD (i := 3) (some 202) (v := .pointer (some ⟨bp, 1, none⟩)) rfl rfl (by kernel_rfl) (by kernel_rfl) (by kernel_rfl) (fun _ _ _ h => h) (.inl ⟨by rfl, fun w' hw' => by obtain ⟨q1, q2⟩ := hw'; go_simp⟩) HSW.out ?_
              simp only [Act.put, List.setIfInBounds_toArray, List.set_cons_zero, List.set_cons_succ]
              refine takeD (i := 4) (some 203) (v := .pointer (some ⟨G 1, 0, none⟩)) rfl rfl (by kernel_rfl) (by kernel_rfl) (by kernel_rfl) (fun _ _ _ h => h) (.inl ⟨by rfl, fun w' hw' => by obtain ⟨q1, q2⟩ := hw'; go_simp⟩) HSW.out ?_
              simp only [Act.put, List.setIfInBounds_toArray, List.set_cons_zero, List.set_cons_succ]
              refine wpAnyH_ready (rs := [2]) (by kernel_rfl) (by simp) ?_
              refine AllReadyH.cons rfl (fun K hK => ?_) AllReadyH.nil
              go_simp
              go_at_call 16
              refine HTE0.out.mono ?_
              rintro e5 w5 ⟨⟨v5, rfl, hr5⟩, hb5⟩
              have hst5 := HSTd.out.below hb5
              have HR5 := Lib.hid hr5
              have HTE1 := Lib.hid (tell_any (G 1) (GS 1) (C 1) (who1 1) (ES 1) w5 (hst5.rd.tk 1 (by omega)) hl1)
              have HST5 := Lib.hid hst5
              have hsw5 := And.intro (hst5.rd.pcell (k := 0) (by omega)) (hst5.rd.pcell (k := 1) (by omega))
              clear hr5 hb5 hst5 HSTd HTE0
              go_wp2_with fail
              refine hK.out _ _ hsw5 (fun hcd => ?_)
              clear hK K hcd
              refine wpAnyH_ready (rs := [5]) (by kernel_rfl) (by simp) ?_
              refine AllReadyH.cons rfl (fun K hK => ?_) AllReadyH.nil
              go_simp
              go_at_call 16
              refine HTE1.out.mono ?_
              rintro e6 w6 ⟨⟨v6, rfl, hr6⟩, hb6⟩
              rw [← HTE.out] at hr6
              have hst6 := HST5.out.below hb6
              obtain ⟨A5, c5, rfl, hsl5, _⟩ := (HR5.out.below hb6).sl
              obtain ⟨A6, c6, rfl, hsl6, _⟩ := hr6.sl
              have HSA := Lib.hid (sameTold_any _ _ A5 A6 c5 c6 _ w6 hsl5 hsl6)
              have HST6 := Lib.hid hst6
              have hsw6 := And.intro (hst6.rd.pcell (k := 0) (by omega)) (hst6.rd.pcell (k := 1) (by omega))
              clear hr6 hb6 hst6 hsl5 hsl6 HST5 HTE1 HR5 hsw5
              go_wp2_with fail
              refine hK.out _ _ hsw6 (fun hcd => ?_)
              clear hK K hcd
              refine wpAnyH_ready (rs := [6]) (by kernel_rfl) (by simp) ?_
              refine AllReadyH.cons rfl (fun K hK => ?_) AllReadyH.nil
              go_simp
              go_at_call 13
              refine HSA.out.mono ?_
              rintro e7 w7 ⟨rfl, hb7⟩
              have hst7 := HST6.out.below hb7
              have HTK0 := Lib.hid (take_any (G 0) (GS 0) (C 0) (who1 0) (ES 0) w7 (hst7.rd.tk 0 (by omega)) hl0)
              have HST7 := Lib.hid hst7
              have hsw7 := And.intro (hst7.rd.pcell (k := 0) (by omega)) (hst7.rd.pcell (k := 1) (by omega))
              clear hb7 hst7 HST6 HSA hsw6
              go_wp2_with fail
              refine hK.out _ _ hsw7 (fun hcd => ?_)
              clear hK K hcd
              refine takeD (i := 7) (some 206) (v := .bool true) rfl rfl (by kernel_rfl) (by kernel_rfl) (by kernel_rfl) (fun _ _ _ h => h) (.inl ⟨by rfl, fun w' hw' => by rfl⟩) hsw7 ?_
              simp only [Act.put, List.setIfInBounds_toArray, List.set_cons_zero, List.set_cons_succ]
              refine takeD (i := 8) (some 207) (v := .pointer (some ⟨bp, 0, none⟩)) rfl rfl (by kernel_rfl) (by kernel_rfl) (by kernel_rfl) (fun _ _ _ h => h) (.inl ⟨by rfl, fun w' hw' => by obtain ⟨q1, q2⟩ := hw'; go_simp⟩) hsw7 ?_
              simp only [Act.put, List.setIfInBounds_toArray, List.set_cons_zero, List.set_cons_succ]
              refine takeD (i := 9) (some 208) (v := .pointer (some ⟨G 0, 0, none⟩)) rfl rfl (by kernel_rfl) (by kernel_rfl) (by kernel_rfl) (fun _ _ _ h => h) (.inl ⟨by rfl, fun w' hw' => by obtain ⟨q1, q2⟩ := hw'; go_simp⟩) hsw7 ?_
              simp only [Act.put, List.setIfInBounds_toArray, List.set_cons_zero, List.set_cons_succ]
              refine wpAnyH_ready (rs := [10]) (by kernel_rfl) (by simp) ?_
              refine AllReadyH.cons rfl (fun K hK => ?_) AllReadyH.nil
              go_simp
              go_at_call 11
              refine HTK0.out.mono ?_
              rintro e8 w8 ⟨⟨v8, rfl, hr8⟩, hg8, hs8⟩
              rw [HT0.out] at hr8
              obtain ⟨A8, c8, rfl, hsl8, _⟩ := hr8.sl
              have hst8 := HST7.out.setP (k := 0) (by omega) hg8 hs8 (takeS_len _)
              have htk8 := hst8.rd.tk 1 (by omega)
              rw [upd_ne _ _ (by omega)] at htk8
              have HTK1 := Lib.hid (take_any (G 1) (GS 1) (C 1) (who1 1) (ES 1) w8 htk8 hl1)
              have HST8 := Lib.hid hst8
              have hsw8 := And.intro (hst8.rd.pcell (k := 0) (by omega)) (hst8.rd.pcell (k := 1) (by omega))
              clear hr8 hg8 hs8 hsl8 hst8 htk8 HST7 HTK0 hsw7
              go_wp2_with fail
              refine hK.out _ _ hsw8 (fun hcd => ?_)
              clear hK K hcd
              refine takeD (i := 11) (some 210) (v := .int .i64 0) rfl rfl (by kernel_rfl) (by kernel_rfl) (by kernel_rfl) (fun _ _ _ h => h) (.inl ⟨by rfl, fun w' hw' => by obtain ⟨q1, q2⟩ := hw'; go_simp⟩) hsw8 ?_
              simp only [Act.put, List.setIfInBounds_toArray, List.set_cons_zero, List.set_cons_succ]
              refine takeD (i := 12) (some 211) (v := .bool true) rfl rfl (by kernel_rfl) (by kernel_rfl) (by kernel_rfl) (fun _ _ _ h => h) (.inl ⟨by rfl, fun w' hw' => by obtain ⟨q1, q2⟩ := hw'; go_simp⟩) hsw8 ?_
              simp only [Act.put, List.setIfInBounds_toArray, List.set_cons_zero, List.set_cons_succ]
              refine takeD (i := 13) (some 212) (v := .bool true) rfl rfl (by kernel_rfl) (by kernel_rfl) (by kernel_rfl) (fun _ _ _ h => h) (.inl ⟨by rfl, fun w' hw' => by obtain ⟨q1, q2⟩ := hw'; go_simp⟩) hsw8 ?_
              simp only [Act.put, List.setIfInBounds_toArray, List.set_cons_zero, List.set_cons_succ]
              refine takeD (i := 14) (some 213) (v := .bool true) rfl rfl (by kernel_rfl) (by kernel_rfl) (by kernel_rfl) (fun _ _ _ h => h) (.inl ⟨by rfl, fun w' hw' => by rfl⟩) hsw8 ?_
              simp only [Act.put, List.setIfInBounds_toArray, List.set_cons_zero, List.set_cons_succ]
              refine takeD (i := 15) (some 214) (v := .pointer (some ⟨bp, 1, none⟩)) rfl rfl (by kernel_rfl) (by kernel_rfl) (by kernel_rfl) (fun _ _ _ h => h) (.inl ⟨by rfl, fun w' hw' => by obtain ⟨q1, q2⟩ := hw'; go_simp⟩) hsw8 ?_
              simp only [Act.put, List.setIfInBounds_toArray, List.set_cons_zero, List.set_cons_succ]
              refine takeD (i := 16) (some 215) (v := .pointer (some ⟨G 1, 0, none⟩)) rfl rfl (by kernel_rfl) (by kernel_rfl) (by kernel_rfl) (fun _ _ _ h => h) (.inl ⟨by rfl, fun w' hw' => by obtain ⟨q1, q2⟩ := hw'; go_simp⟩) hsw8 ?_
              simp only [Act.put, List.setIfInBounds_toArray, List.set_cons_zero, List.set_cons_succ]
              refine wpAnyH_ready (rs := [17]) (by kernel_rfl) (by simp) ?_
              refine AllReadyH.cons rfl (fun K hK => ?_) AllReadyH.nil
              go_simp
              go_at_call 11
              refine HTK1.out.mono ?_
              rintro e9 w9 ⟨⟨v9, rfl, hr9⟩, hg9, hs9⟩
              rw [HT1.out] at hr9
              obtain ⟨A9, c9, rfl, hsl9, _⟩ := hr9.sl
              have hst9 := HST8.out.setP (k := 1) (by omega) hg9 hs9 (by rw [upd_ne _ _ (by omega), takeS_len])
              have HOL := Lib.hid hst9.old
              have hsw9 := And.intro (hst9.rd.pcell (k := 0) (by omega)) (hst9.rd.pcell (k := 1) (by omega))
              clear hr9 hg9 hs9 hsl9 hst9 HST8 HTK1 hsw8
              go_wp2_with fail
              refine hK.out _ _ hsw9 (fun hcd => ?_)
              clear hK K hcd
              refine takeD (i := 18) (some 217) (v := .int .i64 0) rfl rfl (by kernel_rfl) (by kernel_rfl) (by kernel_rfl) (fun _ _ _ h => h) (.inl ⟨by rfl, fun w' hw' => by obtain ⟨q1, q2⟩ := hw'; go_simp⟩) hsw9 ?_
              simp only [Act.put, List.setIfInBounds_toArray, List.set_cons_zero, List.set_cons_succ]
              refine takeD (i := 19) (some 218) (v := .bool true) rfl rfl (by kernel_rfl) (by kernel_rfl) (by kernel_rfl) (fun _ _ _ h => h) (.inl ⟨by rfl, fun w' hw' => by obtain ⟨q1, q2⟩ := hw'; go_simp⟩) hsw9 ?_
              simp only [Act.put, List.setIfInBounds_toArray, List.set_cons_zero, List.set_cons_succ]
              refine takeD (i := 20) (some 219) (v := .bool true) rfl rfl (by kernel_rfl) (by kernel_rfl) (by kernel_rfl) (fun _ _ _ h => h) (.inl ⟨by rfl, fun w' hw' => by obtain ⟨q1, q2⟩ := hw'; go_simp⟩) hsw9 ?_
              simp only [Act.put, List.setIfInBounds_toArray, List.set_cons_zero, List.set_cons_succ]
              refine takeD (i := 21) (some 4) (v := .bool true) rfl rfl (by kernel_rfl) (by kernel_rfl) (by kernel_rfl) (fun _ _ _ h => h) (.inl ⟨by rfl, fun w' hw' => by rfl⟩) hsw9 ?_
              simp only [Act.put, List.setIfInBounds_toArray, List.set_cons_zero, List.set_cons_succ]
              refine wpAnyH_done (by kernel_rfl) ?_ _
              clear hsw9
              go_wp2
              go_ret
              exact ⟨rfl, HOL.out⟩
      go_wp2
      go_loopw [13] (fun i wr => ∃ n : Nat, i = .int .i64 (n : Int) ∧ n ≤ ops.length ∧ n ≤ 300 ∧ Hid (Going w wr bp bw bl bs lm sm G GS C N n n)) (fun i _ => ops.length - (intOf i).toNat)
      case atStart => exact ⟨0, rfl, by omega, by omega, HG0⟩
      case round =>
        obtain ⟨n, rfl, hn1, hn2, HGO⟩ := hrel
        clear HG0
        by_cases hlt : n < ops.length
        · by_cases h300 : n < 300
          · obtain ⟨ES, V, W, T, nS, nL, fS, fL, LA, SD, HST, HME, HTI, HSN, HSA, hnS, hnL⟩ := HGO.out
            clear HGO
            have hold := HST.out.old
            obtain ⟨ad, AL, cl, rfl, hads, ⟨hf1, hf2, hf3, hf4, hf5⟩, _, o0, o1, o2, o3, o4, o5, o6⟩ := op_at (HL.out.below HS.out hold) hlt
            generalize ops[n]'hlt = o at *
            have hbA : Below wr.heap.size wr (wr.alloc (.cells #[.int .i64 o.act, .int .i64 o.who, .int .i64 o.slot, .int .i64 o.num, .string o.val, .bool o.stay, .slice AL o.l.length cl] 38)) := (Below.refl _ _).alloc (Nat.le_refl _) _
            have HOB := Lib.hid (Blk.new wr 38 #[.int .i64 o.act, .int .i64 o.who, .int .i64 o.slot, .int .i64 o.num, .string o.val, .bool o.stay, .slice AL o.l.length cl])
            have HSTb := Lib.hid (HST.out.below hbA)
            have HCH := Lib.hid (choose_any o.who 2)
            have hk2 := chooseN_lt o.who (n := 2) (by omega)
            have hob := hold.size
            clear hbA hold
            go_wp2_with fail
            refine (HCH.out _ hf2 (by omega) (by omega)).mono ?_
            rintro e5 w5 ⟨rfl, rfl⟩
            clear HCH HST
            generalize chooseN o.who 2 = k at *
            clear o0 o1 o2 o3 o4 o5 o6
            obtain ⟨o0, o1, o2, o3, o4, o5, o6⟩ := blk7 HOB.out
            generalize World.alloc wr _ = wb at *
            generalize wr.heap.size = ob at *
            go_upto_block 4 with fail
            go_cut [16, 17, 18, 19, 20] from 69 to 170 (fun _ _ _ _ _ wx => Hid (Stepped w wx bp bw bl bs lm sm G GS C N n nL fL ES))
            case rest =>
              obtain ⟨ES', V', W', T', nS', fS', SD', HSTx, HMEx, HGRx, HSAx, hnSx⟩ := hcut.out
              clear o0 o1 o2 o3 o4 o5 o6 HSTb HOB HSA hnS hcut
              generalize wc = w15 at *
              as_aux_lemma =>
                have hz : ∀ k, k < 2 → ∀ (i : Nat) (e : Ent), (ES' k)[i]? = some e → EntZ i e := fun k hk i e he => (HMEx.out.ent k hk i e he).1
                have hpre := HSN.out.pre HGRx.out (fun k hk => by rw [HMEx.out.len k hk, HME.out.len k hk]) (fun k hk i e he => (HME.out.ent k hk i e he).1) hz
                have HLK := Lib.hid (looks_any bp bl bs lm sm G GS C who1 ES' nS' nL fS' fL LA w15 HSTx.out.rd HSTx.out.lf (by omega) (fun k hk => by rw [HMEx.out.len k hk]; exact hN20) hz (fun k hk i e he h0 => HSAx.out _ ((HMEx.out.ent k hk i e he).2 h0).2.2.2.2.2) HTI.out hpre)
                clear hz hpre
                go_wp2_with fail
                refine HLK.out.mono ?_
                rintro e9 w9 ⟨rfl, hg9, m9, LA9, f9, hm9, hf9, ht9, hs9⟩
                have HG9 : Hid (Going w w9 bp bw bl bs lm sm G GS C N (n + 1) (n + 1)) := Lib.hid ⟨_, _, _, _, _, _, _, _, _, _, Lib.hid (HSTx.out.looked hg9 hf9), HMEx, Lib.hid ht9, Lib.hid hs9, HSAx, hnSx, by omega⟩
                clear hg9 hf9 ht9 hs9 HLK
                go_wp2
                go_roundw
                case rel => exact ⟨n + 1, by go_num, by omega, by omega, HG9⟩
                case measure => simp [intOf]; omega
            obtain ⟨j, hj, hjj, hjk⟩ : ∃ j : Nat, (1 : Int) - (k : Int) = (j : Int) ∧ j < 2 ∧ j ≠ k := ⟨1 - k, by omega, by omega, by omega⟩
            have HGR0 : Hid (∀ k, k < 2 → Grew (ES k) (ES k)) := Lib.hid fun k _ => Grew.refl _
            by_cases ha1 : o.act = 1
            · have hb1 : (o.act == 1) = true := by simp [ha1]
              clear ha1
              go_wp2_with fail
              refine (choose_any o.slot N _ hf3 (by omega) (by omega)).mono ?_
              rintro e5 w5 ⟨rfl, rfl⟩
              have hs1 := chooseN_lt o.slot (n := N) (by omega)
              generalize chooseN o.slot N = s at *
              have c0 := HSTb.out.rd.pcell hk2
              have hvs : (o.val.extract 0 (min (o.val.size : Int) 100).toNat).size ≤ 100 := by rw [ByteArray.size_extract]; omega
              have hok := HME.out.ok (by omega) hk2
              have hIs : I64 (s : Int) := ⟨by omega, by omega⟩
              have hIk : I64 (who1 k) := by unfold who1; exact ⟨by omega, by omega⟩
              have hkw : IntKind.i64.wrap ((k : Int) + 1) = (k : Int) + 1 := by rw [IntKind.wrap_i64]; omega
              have hvm : (o.val.extract 0 (min (o.val.size : Int) 100).toNat).size ≤ maxLen := Nat.le_trans hvs (by unfold maxLen; omega)
              have hlk : (ES k).length ≤ 20 := by rw [HME.out.len k hk2]; exact hN20
              have HSAY := Lib.hid (say_any (G k) (GS k) (C k) (who1 k) (ES k) (s : Int) _ wb (HSTb.out.rd.tk k hk2) hok hIk hIs hvm hlk)
              obtain ⟨hE, hSS, hGR, hM1⟩ := HME.out.say hk2 hjj hjk hs1 hvs (by omega) rfl
              have HE0 := Lib.hid hE
              have HSS := Lib.hid hSS
              have HGR := Lib.hid hGR
              have HM1 := Lib.hid hM1
              clear hE hSS hGR hM1 hok hIs hIk hvm
              go_wp2_with fail
              generalize o.val.extract 0 (min (o.val.size : Int) 100).toNat = v at *
              refine HSAY.out.mono ?_
              rintro e9 w9 ⟨rfl, hg9, hs9⟩
              rw [HE0.out]
              have hs9' : Slots w9 56 (GS k) (C k) ((ES k).set s ⟨⟨(s : Int), verAt (ES k) s + 1, (k : Int) + 1, v, false⟩, false, false⟩) := by rw [← HSS.out]; exact hs9
              have HST9 := Lib.hid (HSTb.out.setP hk2 hg9 hs9' (by simp))
              clear hg9 hs9 hs9' HSAY HSTb HE0 HSS c0
              have HES : Hid (((ES k).set s ⟨⟨(s : Int), verAt (ES k) s + 1, (k : Int) + 1, v, false⟩, false, false⟩)[s]? = some ⟨⟨(s : Int), verAt (ES k) s + 1, (k : Int) + 1, v, false⟩, false, false⟩) := Lib.hid (List.getElem?_set_self (by rw [HME.out.len k hk2]; exact hs1))
              obtain ⟨E1, hE1⟩ : ∃ E1, E1 = (ES k).set s ⟨⟨(s : Int), verAt (ES k) s + 1, (k : Int) + 1, v, false⟩, false, false⟩ := ⟨_, rfl⟩
              rw [← hE1] at HST9 HGR HM1 HES
              have hver : 0 < verAt (ES k) s + 1 := by have := (HME.out.ok (by omega) hk2).verAt s; omega
              obtain ⟨vn, hvn⟩ : ∃ vn, vn = verAt (ES k) s + 1 := ⟨_, rfl⟩
              rw [← hvn] at HES HM1 hver
              clear hE1 hvn
              have hl1 : E1.length = N := by have := HM1.out.len k hk2; rwa [upd_at] at this
              have c0 := HST9.out.rd.pcell hk2
              have ht9 := HST9.out.rd.tk k hk2
              rw [upd_at] at ht9
              have HT9 := Lib.hid ht9
              clear ht9
              go_wp2_with fail
              refine (tell_any (G k) (GS k) (C k) (who1 k) E1 _ HT9.out (by omega)).mono ?_
              rintro e1 w5 ⟨⟨vt1, rfl, hr1⟩, hbt1⟩
              obtain ⟨A1, c1, rfl, hsl1, _⟩ := hr1.sl
              have hTL := Nat.le_trans (tellL_le E1) (show E1.length ≤ 20 by omega)
              have hsmx := hsl1.max
              have hslx := hsl1.le
              unfold maxLen at hsmx
              have HSL := Lib.hid hsl1
              have hsmlt : sm < w9.heap.size := HST9.out.rd.sf.lt
              have HST5 := Lib.hid (HST9.out.below hbt1)
              have HXT : Hid (∀ (q : Nat) (x : Told), (tellL E1)[q]? = some x → x.slot = (s : Int) → x = ⟨(s : Int), vn, (k : Int) + 1, v, false⟩) := Lib.hid fun q x hx hxs => by
                obtain ⟨i0, e0, h1, h2, h3⟩ := tellL_get hx
                have h4 := (HM1.out.ent k hk2 i0 e0 (by rw [upd_at]; exact h1)).1.1
                rw [h2, hxs] at h4
                have : i0 = s := by omega
                subst this
                rw [HES.out] at h1; injection h1 with h1; rw [← h2, ← h1]
              have HNEW : Hid ((⟨(s : Int), vn, (k : Int) + 1, v, false⟩ : Told) ∈ tellL E1) := Lib.hid (tellL_mem HES.out hver)
              generalize hLL : tellL E1 = L at *
              clear hsl1 hr1 hbt1 HST9 HT9 c0 hver
              go_wp2
              go_loopw [20] (fun i wr => ∃ q : Nat, q ≤ L.length ∧ i = .int .i64 (q : Int) ∧ Hid (Noting w wr bp bw bl bs lm sm G GS C (upd ES k E1) V W T nS nL fL SD L (s : Int) q) ∧ Hid (Sl rTold wr (fun b => w9.heap.size ≤ b ∧ b < w5.heap.size) A1 c1 L) ∧ w5.heap.size ≤ wr.heap.size) (fun i _ => L.length - (intOf i).toNat)
              case atStart => exact ⟨0, by omega, rfl, Lib.hid ⟨nS, fS, by omega, HST5.out, HSA.out, fun x hx => by simp at hx⟩, HSL, Nat.le_refl _⟩
              case round =>
                obtain ⟨q, hq, rfl, HNO, HS2, hwl⟩ := hrel
                clear HST5 HSL
                by_cases hql : q < L.length
                · obtain ⟨a, rfl, hab, hfx, a0, a1, a2, a3, a4⟩ := told_at HS2.out hql
                  obtain ⟨nS', fS', hn3, hst3, hsa3, hpr3⟩ := HNO.out
                  have HST3 := Lib.hid hst3
                  by_cases hxs : (L[q]'hql).slot = (s : Int)
                  · have hxt := HXT.out q _ (List.getElem?_eq_getElem hql) hxs
                    rw [hxt] at a0 a1 a2 a3 a4 hfx
                    simp only at a0 a1 a2 a3 a4
                    have d0 : wr.cell? ⟨bs, 0, none⟩ = some (.map (some sm)) := by rw [hst3.rd.sb.cell]; rfl
                    obtain ⟨w12, hrun, hF12, hg12⟩ := (hst3.rd.sf.grown (row := none) (w' := wr.drew) (only_drew (only_of_below (Below.refl _ _) none)) (by simp)).store lawTold Try.underlying47 (by unfold maxLen; omega) (keyTold hfx) (.bool true)
                    have hst4 := (hst3.below (Below.refl wr.heap.size wr).drew).noted hg12 hF12
                    have HNX : Hid (Noting w w12 bp bw bl bs lm sm G GS C (upd ES k E1) V W T nS nL fL SD L (s : Int) (q + 1)) := Lib.hid ⟨nS' + 1, _, by omega, hst4, fun x hx => by
                        by_cases hxx : x.val_ = (⟨(s : Int), vn, (k : Int) + 1, v, false⟩ : Told).val_
                        · rw [hxx, putAt_same]
                        · rw [putAt_other _ _ hxx]; exact hsa3 x hx, fun x hx hx2 => by
                        by_cases hxx : x.val_ = (⟨(s : Int), vn, (k : Int) + 1, v, false⟩ : Told).val_
                        · rw [hxx, putAt_same]
                        · rw [putAt_other _ _ hxx]
                          rw [List.take_add_one, List.getElem?_eq_getElem hql] at hx
                          rcases List.mem_append.1 hx with hx | hx
                          · exact hpr3 x hx hx2
                          · simp at hx; rw [hx, hxt] at hxx; exact absurd rfl hxx⟩
                    have HS12 : Hid (Sl rTold w12 (fun b => w9.heap.size ≤ b ∧ b < w5.heap.size) (some a) c1 L) := Lib.hid (HS2.out.keep fun p hp => by
                      have hlt : p.block < wr.heap.size := Nat.lt_of_lt_of_le hp.2 hwl
                      exact World.cell?_of_block (hg12.block p.block hlt (fun e => by injection e with e; have := hp.1; omega)))
                    have hwl2 : w5.heap.size ≤ w12.heap.size := Nat.le_trans hwl hg12.size
                    clear hst4 hF12 hg12 hst3 hsa3 hpr3 hxt hxs HNO HS2 HST3
                    have HD : Hid (wr.drew.cell? ⟨bs, 0, none⟩ = some (.map (some sm)) ∧ wr.drew.cell? (a.add (q * 5)) = some (.int .i64 (s : Int)) ∧ wr.drew.cell? ⟨(a.add (q * 5)).block, (a.add (q * 5)).off + 1, none⟩ = some (.int .i64 vn) ∧ wr.drew.cell? ⟨(a.add (q * 5)).block, (a.add (q * 5)).off + 2, none⟩ = some (.int .i64 ((k : Int) + 1)) ∧ wr.drew.cell? ⟨(a.add (q * 5)).block, (a.add (q * 5)).off + 3, none⟩ = some (.string v) ∧ wr.drew.cell? ⟨(a.add (q * 5)).block, (a.add (q * 5)).off + 4, none⟩ = some (.bool false)) := Lib.hid ⟨d0, a0, a1, a2, a3, a4⟩
                    go_wp2_with fail
                    refine wp_region_peel (n := 5) (peel_of (by kernel_rfl)) (by kernel_rfl) ?_
                    refine wpAny_of_held (S := fun w' => w'.cell? ⟨bs, 0, none⟩ = some (.map (some sm)) ∧ w'.cell? (a.add (q * 5)) = some (.int .i64 (s : Int)) ∧ w'.cell? ⟨(a.add (q * 5)).block, (a.add (q * 5)).off + 1, none⟩ = some (.int .i64 vn) ∧ w'.cell? ⟨(a.add (q * 5)).block, (a.add (q * 5)).off + 2, none⟩ = some (.int .i64 ((k : Int) + 1)) ∧ w'.cell? ⟨(a.add (q * 5)).block, (a.add (q * 5)).off + 3, none⟩ = some (.string v) ∧ w'.cell? ⟨(a.add (q * 5)).block, (a.add (q * 5)).off + 4, none⟩ = some (.bool false)) _ _ _ _ ?_
                    refine takeD (i := 0) (some 124) (v := .map (some sm)) rfl rfl (by kernel_rfl) (by kernel_rfl) (by kernel_rfl) (fun _ _ _ h => h) (.inl ⟨by rfl, fun w' hw' => by obtain ⟨q1, q2, q3, q4, q5, q6⟩ := hw'; go_simp⟩) HD.out ?_
                    simp only [Act.put, List.setIfInBounds_toArray, List.set_cons_zero, List.set_cons_succ]
                    refine takeD (i := 1) (some 125) (v := .slice (some a) L.length c1) rfl rfl (by kernel_rfl) (by kernel_rfl) (by kernel_rfl) (fun _ _ _ h => h) (.inl ⟨by rfl, fun w' hw' => by rfl⟩) HD.out ?_
                    simp only [Act.put, List.setIfInBounds_toArray, List.set_cons_zero, List.set_cons_succ]
                    refine takeD (i := 2) (some 126) (v := .int .i64 (q : Int)) rfl rfl (by kernel_rfl) (by kernel_rfl) (by kernel_rfl) (fun _ _ _ h => h) (.inl ⟨by rfl, fun w' hw' => by rfl⟩) HD.out ?_
                    simp only [Act.put, List.setIfInBounds_toArray, List.set_cons_zero, List.set_cons_succ]
                    refine takeD (i := 3) (some 127) (v := .pointer (some (a.add (q * 5)))) rfl rfl (by kernel_rfl) (by kernel_rfl) (by kernel_rfl) (fun _ _ _ h => h) (.inl ⟨by rfl, fun w' hw' => by obtain ⟨q1, q2, q3, q4, q5, q6⟩ := hw'; go_simp⟩) HD.out ?_
                    simp only [Act.put, List.setIfInBounds_toArray, List.set_cons_zero, List.set_cons_succ]
                    refine takeD (i := 4) (some 128) (v := .agg #[.int .i64 (s : Int), .int .i64 vn, .int .i64 ((k : Int) + 1), .string v, .bool false]) rfl rfl (by kernel_rfl) (by kernel_rfl) (by kernel_rfl) (fun _ _ _ h => h) (.inl ⟨by rfl, fun w' hw' => by obtain ⟨q1, q2, q3, q4, q5, q6⟩ := hw'; go_simp⟩) HD.out ?_
                    simp only [Act.put, List.setIfInBounds_toArray, List.set_cons_zero, List.set_cons_succ]
                    refine wpAnyH_done (by kernel_rfl) ?_ _
                    refine peelQ_step rfl (fun K hK => ?_)
                    rw [show (⟨(s : Int), vn, (k : Int) + 1, v, false⟩ : Told).val_ = .agg #[.int .i64 (s : Int), .int .i64 vn, .int .i64 ((k : Int) + 1), .string v, .bool false] from rfl] at hrun
                    go_simp
                    refine hK _ _ ?_
                    clear hK K
                    go_wp2
                    go_roundw
                    case rel => exact ⟨q + 1, by omega, by go_num, HNX, HS12, hwl2⟩
                    case measure => simp [intOf]; omega
                  · have hxb : ((L[q]'hql).slot == (s : Int)) = false := beq_eq_false_iff_ne.2 hxs
                    have HNX : Hid (Noting w wr bp bw bl bs lm sm G GS C (upd ES k E1) V W T nS nL fL SD L (s : Int) (q + 1)) := Lib.hid ⟨nS', fS', by omega, hst3, hsa3, fun x hx hx2 => by
                        rw [List.take_add_one, List.getElem?_eq_getElem hql] at hx
                        rcases List.mem_append.1 hx with hx | hx
                        · exact hpr3 x hx hx2
                        · simp at hx; rw [hx] at hx2; exact absurd hx2 hxs⟩
                    clear hst3 hsa3 hpr3 HNO HST3
                    go_wp2
                    go_roundw
                    case rel => exact ⟨q + 1, by omega, by go_num, HNX, HS2, hwl⟩
                    case measure => simp [intOf]; omega
                · have HSTX : Hid (Stepped w wr bp bw bl bs lm sm G GS C N n nL fL ES) := Lib.hid (by
                    obtain ⟨nS', fS', hn3, hst3, hsa3, hpr3⟩ := HNO.out
                    refine ⟨upd ES k E1, _, _, _, nS', fS', _, Lib.hid hst3, HM1, Lib.hid fun m hm => ?_, Lib.hid fun x hx => ?_, by omega⟩
                    · by_cases hmk : m = k
                      · subst hmk; rw [upd_at]; exact HGR.out
                      · rw [upd_ne _ _ hmk]; exact Grew.refl _
                    · rcases hx with hx | rfl
                      · exact hsa3 x hx
                      · exact hpr3 _ (by rw [List.take_of_length_le (by omega)]; exact HNEW.out) rfl)
                  clear HNO HS2 HNEW HXT HGR HM1 HES
                  go_wp2_with fail
                  go_meet
                  exact HSTX
            · have hb1 : (o.act == 1) = false := by simpa using ha1
              by_cases ha2 : o.act = 2
              · have hb2 : (o.act == 2) = true := by simp [ha2]
                clear ha2
                have hcw := HSTb.out.wcell hjj
                have c0 := HSTb.out.rd.pcell hk2
                have hji : (j : Int) < 2 := by omega
                have hki : (k : Int) < 2 := by omega
                have hjw : IntKind.i64.wrap (j : Int) = (j : Int) := by rw [IntKind.wrap_i64]; omega
                obtain ⟨i1, hinf1, hy0, hy1, hy2⟩ := info_parts infoLT
                have hlk : (ES k).length ≤ 20 := by rw [HME.out.len k hk2]; exact hN20
                have hlj := (HME.out.way j k hjj hk2 (fun e => hjk e.symm)).1
                have HSTd := Lib.hid (HSTb.out.below (Below.refl wb.heap.size wb).drew)
                have HTAK := Lib.hid (take_any (G k) (GS k) (C k) (who1 k) (ES k) wb.drew (HSTd.out.rd.tk k hk2) hlk)
                have HM1 := Lib.hid (HME.out.take hk2 hjj hjk)
                have HGR := Lib.hid (takeS_grew (ES k))
                have HSW : Hid (wb.drew.cell? ⟨bw, j, none⟩ = some (V j) ∧ wb.drew.cell? ⟨bp, k, none⟩ = some (.pointer (some ⟨G k, 0, none⟩))) := Lib.hid ⟨hcw, c0⟩
                have hVB : ∀ g, (V j).ownBlock = some g → g < wb.heap.size := fun g hg => HSTb.out.vlt hjj hg
                have hwB := HSTb.out.old.size
                clear o0 o1 o2 o3 o4 o5 o6 HSTb HGR0
                go_wp2_with fail
                refine wp_region_peel (n := 13) (peel_of (by kernel_rfl)) (by kernel_rfl) ?_
                refine wpAny_of_held (S := fun w' => w'.cell? ⟨bw, j, none⟩ = some (V j) ∧ w'.cell? ⟨bp, k, none⟩ = some (.pointer (some ⟨G k, 0, none⟩))) _ _ _ _ ?_
                refine takeD (i := 0) (some 131) (v := .int .i64 (k : Int)) rfl rfl (by kernel_rfl) (by kernel_rfl) (by kernel_rfl) (fun _ _ _ h => h) (.inl ⟨by rfl, fun w' hw' => by rfl⟩) HSW.out ?_
                simp only [Act.put, List.setIfInBounds_toArray, List.set_cons_zero, List.set_cons_succ]
                refine takeD (i := 1) (some 132) (v := .int .i64 (j : Int)) rfl rfl (by kernel_rfl) (by kernel_rfl) (by kernel_rfl) (fun _ _ _ h => h) (.inl ⟨by rfl, fun w' hw' => by obtain ⟨q1, q2⟩ := hw'; go_simp⟩) HSW.out ?_
                simp only [Act.put, List.setIfInBounds_toArray, List.set_cons_zero, List.set_cons_succ]
                refine takeD (i := 2) (some 133) (v := .int .i64 (k : Int)) rfl rfl (by kernel_rfl) (by kernel_rfl) (by kernel_rfl) (fun _ _ _ h => h) (.inl ⟨by rfl, fun w' hw' => by rfl⟩) HSW.out ?_
                simp only [Act.put, List.setIfInBounds_toArray, List.set_cons_zero, List.set_cons_succ]
                refine takeD (i := 3) (some 134) (v := .int .i64 (j : Int)) rfl rfl (by kernel_rfl) (by kernel_rfl) (by kernel_rfl) (fun _ _ _ h => h) (.inl ⟨by rfl, fun w' hw' => by obtain ⟨q1, q2⟩ := hw'; go_simp⟩) HSW.out ?_
                simp only [Act.put, List.setIfInBounds_toArray, List.set_cons_zero, List.set_cons_succ]
                refine takeD (i := 4) (some 135) (v := .pointer (some ⟨bw, j, none⟩)) rfl rfl (by kernel_rfl) (by kernel_rfl) (by kernel_rfl) (fun _ _ _ h => h) (.inl ⟨by rfl, fun w' hw' => by obtain ⟨q1, q2⟩ := hw'; go_simp⟩) HSW.out ?_
                simp only [Act.put, List.setIfInBounds_toArray, List.set_cons_zero, List.set_cons_succ]
                refine takeD (i := 5) (some 136) (v := V j) rfl rfl (by kernel_rfl) (by kernel_rfl) (by kernel_rfl) (fun _ _ _ h => h) (.inl ⟨by rfl, fun w' hw' => by obtain ⟨q1, q2⟩ := hw'; go_simp⟩) HSW.out ?_
                simp only [Act.put, List.setIfInBounds_toArray, List.set_cons_zero, List.set_cons_succ]
                refine takeD (i := 6) (some 137) (v := .int .i64 (k : Int)) rfl rfl (by kernel_rfl) (by kernel_rfl) (by kernel_rfl) (fun _ _ _ h => h) (.inl ⟨by rfl, fun w' hw' => by rfl⟩) HSW.out ?_
                simp only [Act.put, List.setIfInBounds_toArray, List.set_cons_zero, List.set_cons_succ]
                refine takeD (i := 7) (some 138) (v := .pointer (some ⟨bp, k, none⟩)) rfl rfl (by kernel_rfl) (by kernel_rfl) (by kernel_rfl) (fun _ _ _ h => h) (.inl ⟨by rfl, fun w' hw' => by obtain ⟨q1, q2⟩ := hw'; go_simp⟩) HSW.out ?_
                simp only [Act.put, List.setIfInBounds_toArray, List.set_cons_zero, List.set_cons_succ]
                refine takeD (i := 8) (some 139) (v := .pointer (some ⟨G k, 0, none⟩)) rfl rfl (by kernel_rfl) (by kernel_rfl) (by kernel_rfl) (fun _ _ _ h => h) (.inl ⟨by rfl, fun w' hw' => by obtain ⟨q1, q2⟩ := hw'; go_simp⟩) HSW.out ?_
                simp only [Act.put, List.setIfInBounds_toArray, List.set_cons_zero, List.set_cons_succ]
                refine wpAnyH_ready (rs := [9]) (by kernel_rfl) (by simp) ?_
                refine AllReadyH.cons rfl (fun K hK => ?_) AllReadyH.nil
                go_simp
                go_at_call 11
                refine HTAK.out.mono ?_
                rintro e5 w5 ⟨⟨v5, rfl, hr5⟩, hg5, hs5⟩
                have HST5 := Lib.hid (HSTd.out.setP hk2 hg5 hs5 (takeS_len _))
                have hge5 : wb.heap.size ≤ w5.heap.size := hg5.size
                obtain ⟨A5, c5, rfl, hsl5, ho5⟩ := hr5.sl
                have HO5 := Lib.hid ho5
                have HFIT := Lib.hid hr5.2
                have hcw5 := HST5.out.wcell hjj
                have c5p := HST5.out.rd.pcell hk2
                clear hr5 hg5 hs5 hsl5 ho5 HTAK HSTd HSW hcw c0
                generalize hL : takeL (ES k) = L at *
                go_wp2_with fail
                refine hK.out _ _ ⟨hcw5, c5p⟩ (fun hcd => ?_)
                clear hK K hcd
                refine wpAnyH_ready (rs := [10]) (by kernel_rfl) (by simp) ?_
                refine AllReadyH.cons rfl (fun K hK => ?_) AllReadyH.nil
                go_simp
                have HB10 : Hid (Below w5.heap.size w5 (w5.alloc (.cells #[.slice A5 L.length c5] 36))) := Lib.hid ((Below.refl _ _).alloc (Nat.le_refl _) _)
                have hst6 := HST5.out.below HB10.out
                refine hK.out _ _ ⟨hst6.wcell hjj, hst6.rd.pcell hk2⟩ (fun hcd => ?_)
                clear hK K hcd
                obtain ⟨csj, hoj, hej⟩ := HST5.out.way j hjj
                have HOJ6 := Lib.hid (own_below_all hoj HB10.out)
                have HEJ := Lib.hid hej
                have hty : ∀ g, (V j).ownBlock = some g → ∃ cur : Array Value, Blk w5 g 36 cur := fun g hg => own_typed hoj hg
                have hNE : some bw ≠ (V j).ownBlock := fun e => by obtain ⟨cur, hc⟩ := hty _ e.symm; exact Blk.ne_ HST5.out.wa hc (by decide) rfl
                have hNP : some bp ≠ (V j).ownBlock := fun e => by obtain ⟨cur, hc⟩ := hty _ e.symm; exact Blk.ne_ HST5.out.rd.pa hc (by decide) rfl
                have HWA6 := Lib.hid hst6.wa
                have HPA6 := Lib.hid hst6.rd.pa
                clear hoj hej hty hst6
                refine wpAnyH_ready (rs := [11]) (by kernel_rfl) (by simp) ?_
                refine AllReadyH.cons rfl (fun K hK => ?_) AllReadyH.nil
                refine step_append_any _ (by rfl) (Operand.tmp 136) (Operand.tmp 141) 34 (by rfl) w.heap.size 36 i1 _ 1 24 Try.underlying34 hinf1 hy0 hy1 hy2 rfl (by omega) (V j) (W j).length csj (by rfl) (by exact HOJ6.out) (w5.heap.size + 1) (some ⟨w5.heap.size, 0, none⟩) 1 1 [.slice A5 L.length c5] (by rfl) ⟨rfl, fun _ => ⟨_, rfl, by simp, cells_new _ [_] _⟩⟩ (by simp [Value.oneCell']) (by unfold maxLen; omega) (by omega) (by simp only [World.size_alloc]; omega) ?_
                intro v11 w11 hown11 hg11 hat11
                have hwa := HWA6.out.grown hg11 hNE
                have hpa := HPA6.out.grown hg11 hNP
                have hc11 := two_cell2 hwa hjj
                have hp11 := two_cell2 (V := fun i => .pointer (some ⟨G i, 0, none⟩)) hpa hk2
                have hf11 := hwa.frozen j
                obtain ⟨T', hst'⟩ := HST5.out.push hjj hwB hVB (Below.refl _ _) HFIT.out HO5.out HB10.out HEJ.out hown11 hg11 hat11
                have HSTX : Hid (Stepped w (w11.setCell ⟨bw, j, none⟩ v11) bp bw bl bs lm sm G GS C N n nL fL ES) := Lib.hid ⟨_, _, _, _, nS, fS, SD, Lib.hid hst', HM1, Lib.hid fun m hm => by
                  by_cases hmk : m = k
                  · subst hmk; rw [upd_at]; exact HGR.out
                  · rw [upd_ne _ _ hmk]; exact Grew.refl _, HSA, by omega⟩
                obtain ⟨A11, c11, rfl⟩ := own_slice hown11
                clear hown11 hg11 hat11 hwa hpa hst' HM1 HGR HEJ HOJ6 HO5
                refine hK.out _ _ ⟨hc11, hp11⟩ (fun hcd => ?_)
                clear hK K hcd
                refine takeD (i := 12) (some 143) (v := .pointer (some ⟨bw, j, none⟩)) rfl rfl (by kernel_rfl) (by kernel_rfl) (by kernel_rfl) (fun _ _ _ h => h) (.inl ⟨by rfl, fun w' hw' => by go_simp⟩) ⟨hc11, hp11⟩ ?_
                refine wpAnyH_done (by kernel_rfl) ?_ _
                refine peelQ_step rfl (fun K hK => ?_)
                go_simp
                refine hK _ _ ?_
                clear hK K
                go_wp2_with fail
                go_meet
                exact HSTX
              · have hb2 : (o.act == 2) = false := by simpa using ha2
                by_cases ha3 : o.act = 3
                · have hb3 : (o.act == 3) = true := by simp [ha3]
                  clear ha3
                  obtain ⟨csk, hok, hek⟩ := HSTb.out.way k hk2
                  obtain ⟨Av, cv, hVk⟩ := own_slice hok
                  have hcw := HSTb.out.wcell hk2
                  rw [hVk] at hcw hok
                  have hle := own_cap hok
                  have HVK := Lib.hid hVk
                  have c0 := HSTb.out.rd.pcell hk2
                  have hki : (k : Int) < 2 := by omega
                  have hlk : (ES k).length ≤ 20 := by rw [HME.out.len k hk2]; exact hN20
                  have hwk := (HME.out.way k j hk2 hjj hjk).1
                  by_cases hemp : (W k).length = 0
                  · have hempb : decide ((0 : Int) < ((W k).length : Int)) = false := by simp [hemp]
                    clear hek hok hVk
                    rw [hemp] at hcw
                    go_wp2_with fail
                    go_quiet (fail)
                    have hb2 := below_drewN (Below.refl wb.heap.size wb) nq
                    have HSTX : Hid (Stepped w (World.drewN wb nq) bp bw bl bs lm sm G GS C N n nL fL ES) := Lib.hid ⟨ES, _, _, _, _, _, _, Lib.hid (HSTb.out.below hb2), Lib.hid (HME.out.mono (Nat.le_succ n)), HGR0, HSA, by omega⟩
                    clear HSTb HGR0 o0 o1 o2 o3 o4 o5 o6 hcw c0 hb2
                    generalize World.drewN wb nq = w2 at *
                    go_wp2_with fail
                    go_meet
                    exact HSTX
                  · have hempb : decide ((0 : Int) < ((W k).length : Int)) = true := by simp; omega
                    have hpos : 0 < (W k).length := by omega
                    have hal := chooseN_lt o.num (n := (W k).length) (by omega)
                    have HCH := Lib.hid (choose_any o.num (W k).length wb.drew hf4 (by omega) (by omega))
                    obtain ⟨adv, rfl, hadv, hcells⟩ := (Reads.of_own hok).2 (by omega)
                    generalize chooseN o.num (W k).length = a at *
                    obtain ⟨u, ⟨Al, cl2, rfl, hslT⟩, hcs⟩ := hek.2.2 a _ (List.getElem?_eq_getElem hal)
                    have hca := hcells _ _ (hcs 0 _ rfl)
                    simp only [show (rList rTold).size = 1 from rfl, Nat.mul_one, Nat.add_zero] at hca
                    obtain ⟨hE, hG, hM⟩ := HME.out.hear hN20 (by omega) hk2 hjj hjk (List.getElem_mem hal)
                    have HE0 := Lib.hid hE
                    have HGR := Lib.hid hG
                    have HM1 := Lib.hid hM
                    have HSLT := Lib.hid hslT
                    generalize (W k)[a]'hal = l at *
                    obtain ⟨curv, hbv⟩ : ∃ cur : Array Value, Blk wb adv.block 36 cur := own_typed (g := adv.block) hok rfl
                    have HBV := Lib.hid hbv
                    have hadl : (adv.add a).block = adv.block := by unfold Addr.add; split <;> rfl
                    obtain ⟨ada, hada⟩ : ∃ ada, adv.add a = ada := ⟨_, rfl⟩
                    rw [hada] at hca hadl
                    have HSTd := Lib.hid (HSTb.out.below (Below.refl wb.heap.size wb).drew)
                    have HHR := Lib.hid (hear_any T Al cl2 l (G k) (GS k) (C k) (who1 k) (ES k) wb.drew (HSTd.out.rd.tk k hk2) hlk (HSLT.out.keep fun _ _ => rfl) (fun b hb => ⟨(HSTd.out.tb b hb).1.lt, fun e => tb_slot2 (HSTd.out.tb b hb).1 (HSTd.out.rd.tk k hk2) (by decide) (congrArg some e)⟩))
                    have HSW : Hid (wb.drew.cell? ⟨bw, k, none⟩ = some (.slice (some adv) (W k).length cv) ∧ wb.drew.cell? ⟨bp, k, none⟩ = some (.pointer (some ⟨G k, 0, none⟩)) ∧ wb.drew.cell? ⟨ob, 3, none⟩ = some (.int .i64 o.num) ∧ wb.drew.cell? ada = some (.slice Al l.length cl2)) := Lib.hid ⟨hcw, c0, o3, hca⟩
                    have hai : (a : Int) < ((W k).length : Int) := by omega
                    clear hok hek hslT hcs hcells hE hG hM hbv hcw c0 hca o0 o1 o2 o3 o4 o5 o6 hVk
                    go_wp2_with fail
                    refine wp_region_any (by kernel_rfl) ?_
                    change wpAny _ _ _ _ _ _ _ (World.drew wb)
                    refine wpAny_of_held (S := fun w' => w'.cell? ⟨bw, k, none⟩ = some (.slice (some adv) (W k).length cv) ∧ w'.cell? ⟨bp, k, none⟩ = some (.pointer (some ⟨G k, 0, none⟩)) ∧ w'.cell? ⟨ob, 3, none⟩ = some (.int .i64 o.num) ∧ w'.cell? ada = some (.slice Al l.length cl2)) _ _ _ _ ?_
                    refine takeD (i := 0) (some 147) (v := .int .i64 (k : Int)) rfl rfl (by kernel_rfl) (by kernel_rfl) (by kernel_rfl) (fun _ _ _ h => h) (.inl ⟨by rfl, fun w' hw' => by rfl⟩) HSW.out ?_
                    simp only [Act.put, List.setIfInBounds_toArray, List.set_cons_zero, List.set_cons_succ]
                    refine takeD (i := 1) (some 148) (v := .pointer (some ⟨bw, k, none⟩)) rfl rfl (by kernel_rfl) (by kernel_rfl) (by kernel_rfl) (fun _ _ _ h => h) (.inl ⟨by rfl, fun w' hw' => by obtain ⟨q1, q2, q3, q4⟩ := hw'; go_simp⟩) HSW.out ?_
                    simp only [Act.put, List.setIfInBounds_toArray, List.set_cons_zero, List.set_cons_succ]
                    refine takeD (i := 2) (some 149) (v := .slice (some adv) (W k).length cv) rfl rfl (by kernel_rfl) (by kernel_rfl) (by kernel_rfl) (fun _ _ _ h => h) (.inl ⟨by rfl, fun w' hw' => by obtain ⟨q1, q2, q3, q4⟩ := hw'; go_simp⟩) HSW.out ?_
                    simp only [Act.put, List.setIfInBounds_toArray, List.set_cons_zero, List.set_cons_succ]
                    refine takeD (i := 3) (some 150) (v := .int .i64 ((W k).length : Int)) rfl rfl (by kernel_rfl) (by kernel_rfl) (by kernel_rfl) (fun _ _ _ h => h) (.inl ⟨by rfl, fun w' hw' => by obtain ⟨q1, q2, q3, q4⟩ := hw'; go_simp⟩) HSW.out ?_
                    simp only [Act.put, List.setIfInBounds_toArray, List.set_cons_zero, List.set_cons_succ]
                    refine takeD (i := 4) (some 151) (v := .bool true) rfl rfl (by kernel_rfl) (by kernel_rfl) (by kernel_rfl) (fun _ _ _ h => h) (.inl ⟨by rfl, fun w' hw' => by obtain ⟨q1, q2, q3, q4⟩ := hw'; go_simp⟩) HSW.out ?_
                    simp only [Act.put, List.setIfInBounds_toArray, List.set_cons_zero, List.set_cons_succ]
                    refine takeD (i := 5) (some 152) (v := .bool true) rfl rfl (by kernel_rfl) (by kernel_rfl) (by kernel_rfl) (fun _ _ _ h => h) (.inl ⟨by rfl, fun w' hw' => by rfl⟩) HSW.out ?_
                    simp only [Act.put, List.setIfInBounds_toArray, List.set_cons_zero, List.set_cons_succ]
                    refine takeD (i := 6) (some 153) (v := .int .i64 (k : Int)) rfl rfl (by kernel_rfl) (by kernel_rfl) (by kernel_rfl) (fun _ _ _ h => h) (.inl ⟨by rfl, fun w' hw' => by rfl⟩) HSW.out ?_
                    simp only [Act.put, List.setIfInBounds_toArray, List.set_cons_zero, List.set_cons_succ]
                    refine takeD (i := 7) (some 154) (v := .pointer (some ⟨bp, k, none⟩)) rfl rfl (by kernel_rfl) (by kernel_rfl) (by kernel_rfl) (fun _ _ _ h => h) (.inl ⟨by rfl, fun w' hw' => by obtain ⟨q1, q2, q3, q4⟩ := hw'; go_simp⟩) HSW.out ?_
                    simp only [Act.put, List.setIfInBounds_toArray, List.set_cons_zero, List.set_cons_succ]
                    refine takeD (i := 8) (some 155) (v := .pointer (some ⟨G k, 0, none⟩)) rfl rfl (by kernel_rfl) (by kernel_rfl) (by kernel_rfl) (fun _ _ _ h => h) (.inl ⟨by rfl, fun w' hw' => by obtain ⟨q1, q2, q3, q4⟩ := hw'; go_simp⟩) HSW.out ?_
                    simp only [Act.put, List.setIfInBounds_toArray, List.set_cons_zero, List.set_cons_succ]
                    refine takeD (i := 9) (some 156) (v := .int .i64 (k : Int)) rfl rfl (by kernel_rfl) (by kernel_rfl) (by kernel_rfl) (fun _ _ _ h => h) (.inl ⟨by rfl, fun w' hw' => by rfl⟩) HSW.out ?_
                    simp only [Act.put, List.setIfInBounds_toArray, List.set_cons_zero, List.set_cons_succ]
                    refine takeD (i := 10) (some 157) (v := .pointer (some ⟨bw, k, none⟩)) rfl rfl (by kernel_rfl) (by kernel_rfl) (by kernel_rfl) (fun _ _ _ h => h) (.inl ⟨by rfl, fun w' hw' => by obtain ⟨q1, q2, q3, q4⟩ := hw'; go_simp⟩) HSW.out ?_
                    simp only [Act.put, List.setIfInBounds_toArray, List.set_cons_zero, List.set_cons_succ]
                    refine takeD (i := 11) (some 158) (v := .slice (some adv) (W k).length cv) rfl rfl (by kernel_rfl) (by kernel_rfl) (by kernel_rfl) (fun _ _ _ h => h) (.inl ⟨by rfl, fun w' hw' => by obtain ⟨q1, q2, q3, q4⟩ := hw'; go_simp⟩) HSW.out ?_
                    simp only [Act.put, List.setIfInBounds_toArray, List.set_cons_zero, List.set_cons_succ]
                    refine takeD (i := 12) (some 159) (v := .pointer (some ⟨ob, 3, none⟩)) rfl rfl (by kernel_rfl) (by kernel_rfl) (by kernel_rfl) (fun _ _ _ h => h) (.inl ⟨by rfl, fun w' hw' => by obtain ⟨q1, q2, q3, q4⟩ := hw'; go_simp⟩) HSW.out ?_
                    simp only [Act.put, List.setIfInBounds_toArray, List.set_cons_zero, List.set_cons_succ]
                    refine takeD (i := 13) (some 160) (v := .int .i64 o.num) rfl rfl (by kernel_rfl) (by kernel_rfl) (by kernel_rfl) (fun _ _ _ h => h) (.inl ⟨by rfl, fun w' hw' => by obtain ⟨q1, q2, q3, q4⟩ := hw'; go_simp⟩) HSW.out ?_
                    simp only [Act.put, List.setIfInBounds_toArray, List.set_cons_zero, List.set_cons_succ]
                    refine takeD (i := 14) (some 161) (v := .int .i64 (k : Int)) rfl rfl (by kernel_rfl) (by kernel_rfl) (by kernel_rfl) (fun _ _ _ h => h) (.inl ⟨by rfl, fun w' hw' => by rfl⟩) HSW.out ?_
                    simp only [Act.put, List.setIfInBounds_toArray, List.set_cons_zero, List.set_cons_succ]
                    refine takeD (i := 15) (some 162) (v := .pointer (some ⟨bw, k, none⟩)) rfl rfl (by kernel_rfl) (by kernel_rfl) (by kernel_rfl) (fun _ _ _ h => h) (.inl ⟨by rfl, fun w' hw' => by obtain ⟨q1, q2, q3, q4⟩ := hw'; go_simp⟩) HSW.out ?_
                    simp only [Act.put, List.setIfInBounds_toArray, List.set_cons_zero, List.set_cons_succ]
                    refine takeD (i := 16) (some 163) (v := .slice (some adv) (W k).length cv) rfl rfl (by kernel_rfl) (by kernel_rfl) (by kernel_rfl) (fun _ _ _ h => h) (.inl ⟨by rfl, fun w' hw' => by obtain ⟨q1, q2, q3, q4⟩ := hw'; go_simp⟩) HSW.out ?_
                    simp only [Act.put, List.setIfInBounds_toArray, List.set_cons_zero, List.set_cons_succ]
                    refine takeD (i := 17) (some 164) (v := .int .i64 ((W k).length : Int)) rfl rfl (by kernel_rfl) (by kernel_rfl) (by kernel_rfl) (fun _ _ _ h => h) (.inl ⟨by rfl, fun w' hw' => by obtain ⟨q1, q2, q3, q4⟩ := hw'; go_simp⟩) HSW.out ?_
                    simp only [Act.put, List.setIfInBounds_toArray, List.set_cons_zero, List.set_cons_succ]
                    refine wpAnyH_ready (rs := [18]) (by kernel_rfl) (by simp) ?_
                    refine AllReadyH.cons rfl (fun K hK => ?_) AllReadyH.nil
                    go_simp
                    go_at_call 8
                    refine HCH.out.mono ?_
                    rintro e5 w5 ⟨rfl, rfl⟩
                    go_wp2_with fail
                    refine hK.out _ _ HSW.out (fun hcd => ?_)
                    clear hK K hcd HCH
                    refine takeD (i := 19) (some 166) (v := .pointer (some ada)) rfl rfl (by kernel_rfl) (by kernel_rfl) (by kernel_rfl) (fun _ _ _ h => h) (.inl ⟨by rfl, fun w' hw' => by obtain ⟨q1, q2, q3, q4⟩ := hw'; go_simp⟩) HSW.out ?_
                    simp only [Act.put, List.setIfInBounds_toArray, List.set_cons_zero, List.set_cons_succ]
                    refine takeD (i := 20) (some 167) (v := .slice Al l.length cl2) rfl rfl (by kernel_rfl) (by kernel_rfl) (by kernel_rfl) (fun _ _ _ h => h) (.inl ⟨by rfl, fun w' hw' => by obtain ⟨q1, q2, q3, q4⟩ := hw'; go_simp⟩) HSW.out ?_
                    simp only [Act.put, List.setIfInBounds_toArray, List.set_cons_zero, List.set_cons_succ]
                    refine wpAnyH_ready (rs := [21]) (by kernel_rfl) (by simp) ?_
                    refine AllReadyH.cons rfl (fun K hK => ?_) AllReadyH.nil
                    go_simp
                    go_at_call 14
                    refine HHR.out.mono ?_
                    rintro e10 w10 ⟨rfl, hg10, hs10⟩
                    rw [HE0.out]
                    have hst10 := HSTd.out.setP hk2 hg10 hs10 (hearS_length _ _)
                    have hob10 := HOB.out.drew.grown hg10 (slot_ne2 (HSTd.out.rd.tk k hk2) HOB.out.drew (by decide))
                    have hbv10 : w10.heap[adv.block]? = wb.heap[adv.block]? := hg10.block adv.block HBV.out.lt (slot_ne2 (HSTd.out.rd.tk k hk2) HBV.out.drew (by decide))
                    have HSW2 : Hid (w10.cell? ⟨bw, k, none⟩ = some (.slice (some adv) (W k).length cv) ∧ w10.cell? ⟨bp, k, none⟩ = some (.pointer (some ⟨G k, 0, none⟩)) ∧ w10.cell? ⟨ob, 3, none⟩ = some (.int .i64 o.num) ∧ w10.cell? ada = some (.slice Al l.length cl2)) := Lib.hid ⟨by rw [← HVK.out]; exact hst10.wcell hk2, hst10.rd.pcell hk2, (blk7 hob10).2.2.2.1, (World.cell?_of_block (by rw [hadl]; exact hbv10)).trans HSW.out.2.2.2⟩
                    have HSTX : Hid (Stepped w w10 bp bw bl bs lm sm G GS C N n nL fL ES) := Lib.hid ⟨_, _, _, _, nS, fS, SD, Lib.hid hst10, HM1, Lib.hid fun m hm => by
                      by_cases hmk : m = k
                      · subst hmk; rw [upd_at]; exact HGR.out
                      · rw [upd_ne _ _ hmk]; exact Grew.refl _, HSA, by omega⟩
                    clear hst10 hob10 hbv10 hg10 hs10 HSW HHR HM1 HGR HSLT HBV
                    go_wp2_with fail
                    refine hK.out _ _ HSW2.out (fun hcd => ?_)
                    clear hK K hcd
                    refine takeD (i := 22) (some 169) (v := .bool false) rfl rfl (by kernel_rfl) (by kernel_rfl) (by kernel_rfl) (fun _ _ _ h => h) (.inl ⟨by rfl, fun w' hw' => by obtain ⟨q1, q2, q3, q4⟩ := hw'; go_simp⟩) HSW2.out ?_
                    simp only [Act.put, List.setIfInBounds_toArray, List.set_cons_zero, List.set_cons_succ]
                    refine takeD (i := 23) (some 170) (v := .bool false) rfl rfl (by kernel_rfl) (by kernel_rfl) (by kernel_rfl) (fun _ _ _ h => h) (.inl ⟨by rfl, fun w' hw' => by obtain ⟨q1, q2, q3, q4⟩ := hw'; go_simp⟩) HSW2.out ?_
                    simp only [Act.put, List.setIfInBounds_toArray, List.set_cons_zero, List.set_cons_succ]
                    refine wpAnyH_done (by kernel_rfl) ?_ _
                    go_wp2_with fail
                    go_meet
                    exact HSTX
                · have hb3 : (o.act == 3) = false := by simpa using ha3
                  by_cases ha4 : o.act = 4
                  · have hb4 : (o.act == 4) = true := by simp [ha4]
                    clear ha4
                    obtain ⟨csk, hok, hek⟩ := HSTb.out.way k hk2
                    obtain ⟨Av, cv, hVk⟩ := own_slice hok
                    have hcw := HSTb.out.wcell hk2
                    rw [hVk] at hcw hok
                    have hle := own_cap hok
                    have HVK := Lib.hid hVk
                    have c0 := HSTb.out.rd.pcell hk2
                    have hki : (k : Int) < 2 := by omega
                    have hlk : (ES k).length ≤ 20 := by rw [HME.out.len k hk2]; exact hN20
                    have hwk := (HME.out.way k j hk2 hjj hjk).1
                    by_cases hemp : (W k).length = 0
                    · have hempb : decide ((0 : Int) < ((W k).length : Int)) = false := by simp [hemp]
                      clear hek hok hVk
                      rw [hemp] at hcw
                      go_wp2_with fail
                      go_quiet (fail)
                      have hb2 := below_drewN (Below.refl wb.heap.size wb) nq
                      have HSTX : Hid (Stepped w (World.drewN wb nq) bp bw bl bs lm sm G GS C N n nL fL ES) := Lib.hid ⟨ES, _, _, _, _, _, _, Lib.hid (HSTb.out.below hb2), Lib.hid (HME.out.mono (Nat.le_succ n)), HGR0, HSA, by omega⟩
                      clear HSTb HGR0 o0 o1 o2 o3 o4 o5 o6 hcw c0 hb2
                      generalize World.drewN wb nq = w2 at *
                      go_wp2_with fail
                      go_meet
                      exact HSTX
                    · have hempb : decide ((0 : Int) < ((W k).length : Int)) = true := by simp; omega
                      have hpos : 0 < (W k).length := by omega
                      have hal := chooseN_lt o.num (n := (W k).length) (by omega)
                      have HCH := Lib.hid (choose_any o.num (W k).length wb.drew hf4 (by omega) (by omega))
                      obtain ⟨adv, rfl, hadv, hcells⟩ := (Reads.of_own hok).2 (by omega)
                      generalize chooseN o.num (W k).length = a at *
                      obtain ⟨u, ⟨Al, cl2, rfl, hslT⟩, hcs⟩ := hek.2.2 a _ (List.getElem?_eq_getElem hal)
                      have hca := hcells _ _ (hcs 0 _ rfl)
                      simp only [show (rList rTold).size = 1 from rfl, Nat.mul_one, Nat.add_zero] at hca
                      obtain ⟨hE, hG, hM⟩ := HME.out.hear hN20 (by omega) hk2 hjj hjk (List.getElem_mem hal)
                      have HE0 := Lib.hid hE
                      have HGR := Lib.hid hG
                      have HM1 := Lib.hid hM
                      have HSLT := Lib.hid hslT
                      generalize (W k)[a]'hal = l at *
                      obtain ⟨curv, hbv⟩ : ∃ cur : Array Value, Blk wb adv.block 36 cur := own_typed (g := adv.block) hok rfl
                      have HBV := Lib.hid hbv
                      have hadl : (adv.add a).block = adv.block := by unfold Addr.add; split <;> rfl
                      obtain ⟨ada, hada⟩ : ∃ ada, adv.add a = ada := ⟨_, rfl⟩
                      rw [hada] at hca hadl
                      have HSTd := Lib.hid (HSTb.out.below (Below.refl wb.heap.size wb).drew)
                      have HHR := Lib.hid (hear_any T Al cl2 l (G k) (GS k) (C k) (who1 k) (ES k) wb.drew (HSTd.out.rd.tk k hk2) hlk (HSLT.out.keep fun _ _ => rfl) (fun b hb => ⟨(HSTd.out.tb b hb).1.lt, fun e => tb_slot2 (HSTd.out.tb b hb).1 (HSTd.out.rd.tk k hk2) (by decide) (congrArg some e)⟩))
                      have HSW : Hid (wb.drew.cell? ⟨bw, k, none⟩ = some (.slice (some adv) (W k).length cv) ∧ wb.drew.cell? ⟨bp, k, none⟩ = some (.pointer (some ⟨G k, 0, none⟩)) ∧ wb.drew.cell? ⟨ob, 3, none⟩ = some (.int .i64 o.num) ∧ wb.drew.cell? ada = some (.slice Al l.length cl2)) := Lib.hid ⟨hcw, c0, o3, hca⟩
                      have hai : (a : Int) < ((W k).length : Int) := by omega
                      clear hok hek hslT hcs hcells hE hG hM hbv hcw c0 hca o0 o1 o2 o3 o4 o5 o6 hVk
                      go_wp2_with fail
                      refine wp_region_any (by kernel_rfl) ?_
                      change wpAny _ _ _ _ _ _ _ (World.drew wb)
                      refine wpAny_of_held (S := fun w' => w'.cell? ⟨bw, k, none⟩ = some (.slice (some adv) (W k).length cv) ∧ w'.cell? ⟨bp, k, none⟩ = some (.pointer (some ⟨G k, 0, none⟩)) ∧ w'.cell? ⟨ob, 3, none⟩ = some (.int .i64 o.num) ∧ w'.cell? ada = some (.slice Al l.length cl2)) _ _ _ _ ?_
                      refine takeD (i := 0) (some 147) (v := .int .i64 (k : Int)) rfl rfl (by kernel_rfl) (by kernel_rfl) (by kernel_rfl) (fun _ _ _ h => h) (.inl ⟨by rfl, fun w' hw' => by rfl⟩) HSW.out ?_
                      simp only [Act.put, List.setIfInBounds_toArray, List.set_cons_zero, List.set_cons_succ]
                      refine takeD (i := 1) (some 148) (v := .pointer (some ⟨bw, k, none⟩)) rfl rfl (by kernel_rfl) (by kernel_rfl) (by kernel_rfl) (fun _ _ _ h => h) (.inl ⟨by rfl, fun w' hw' => by obtain ⟨q1, q2, q3, q4⟩ := hw'; go_simp⟩) HSW.out ?_
                      simp only [Act.put, List.setIfInBounds_toArray, List.set_cons_zero, List.set_cons_succ]
                      refine takeD (i := 2) (some 149) (v := .slice (some adv) (W k).length cv) rfl rfl (by kernel_rfl) (by kernel_rfl) (by kernel_rfl) (fun _ _ _ h => h) (.inl ⟨by rfl, fun w' hw' => by obtain ⟨q1, q2, q3, q4⟩ := hw'; go_simp⟩) HSW.out ?_
                      simp only [Act.put, List.setIfInBounds_toArray, List.set_cons_zero, List.set_cons_succ]
                      refine takeD (i := 3) (some 150) (v := .int .i64 ((W k).length : Int)) rfl rfl (by kernel_rfl) (by kernel_rfl) (by kernel_rfl) (fun _ _ _ h => h) (.inl ⟨by rfl, fun w' hw' => by obtain ⟨q1, q2, q3, q4⟩ := hw'; go_simp⟩) HSW.out ?_
                      simp only [Act.put, List.setIfInBounds_toArray, List.set_cons_zero, List.set_cons_succ]
                      refine takeD (i := 4) (some 151) (v := .bool true) rfl rfl (by kernel_rfl) (by kernel_rfl) (by kernel_rfl) (fun _ _ _ h => h) (.inl ⟨by rfl, fun w' hw' => by obtain ⟨q1, q2, q3, q4⟩ := hw'; go_simp⟩) HSW.out ?_
                      simp only [Act.put, List.setIfInBounds_toArray, List.set_cons_zero, List.set_cons_succ]
                      refine takeD (i := 5) (some 152) (v := .bool true) rfl rfl (by kernel_rfl) (by kernel_rfl) (by kernel_rfl) (fun _ _ _ h => h) (.inl ⟨by rfl, fun w' hw' => by rfl⟩) HSW.out ?_
                      simp only [Act.put, List.setIfInBounds_toArray, List.set_cons_zero, List.set_cons_succ]
                      refine takeD (i := 6) (some 153) (v := .int .i64 (k : Int)) rfl rfl (by kernel_rfl) (by kernel_rfl) (by kernel_rfl) (fun _ _ _ h => h) (.inl ⟨by rfl, fun w' hw' => by rfl⟩) HSW.out ?_
                      simp only [Act.put, List.setIfInBounds_toArray, List.set_cons_zero, List.set_cons_succ]
                      refine takeD (i := 7) (some 154) (v := .pointer (some ⟨bp, k, none⟩)) rfl rfl (by kernel_rfl) (by kernel_rfl) (by kernel_rfl) (fun _ _ _ h => h) (.inl ⟨by rfl, fun w' hw' => by obtain ⟨q1, q2, q3, q4⟩ := hw'; go_simp⟩) HSW.out ?_
                      simp only [Act.put, List.setIfInBounds_toArray, List.set_cons_zero, List.set_cons_succ]
                      refine takeD (i := 8) (some 155) (v := .pointer (some ⟨G k, 0, none⟩)) rfl rfl (by kernel_rfl) (by kernel_rfl) (by kernel_rfl) (fun _ _ _ h => h) (.inl ⟨by rfl, fun w' hw' => by obtain ⟨q1, q2, q3, q4⟩ := hw'; go_simp⟩) HSW.out ?_
                      simp only [Act.put, List.setIfInBounds_toArray, List.set_cons_zero, List.set_cons_succ]
                      refine takeD (i := 9) (some 156) (v := .int .i64 (k : Int)) rfl rfl (by kernel_rfl) (by kernel_rfl) (by kernel_rfl) (fun _ _ _ h => h) (.inl ⟨by rfl, fun w' hw' => by rfl⟩) HSW.out ?_
                      simp only [Act.put, List.setIfInBounds_toArray, List.set_cons_zero, List.set_cons_succ]
                      refine takeD (i := 10) (some 157) (v := .pointer (some ⟨bw, k, none⟩)) rfl rfl (by kernel_rfl) (by kernel_rfl) (by kernel_rfl) (fun _ _ _ h => h) (.inl ⟨by rfl, fun w' hw' => by obtain ⟨q1, q2, q3, q4⟩ := hw'; go_simp⟩) HSW.out ?_
                      simp only [Act.put, List.setIfInBounds_toArray, List.set_cons_zero, List.set_cons_succ]
                      refine takeD (i := 11) (some 158) (v := .slice (some adv) (W k).length cv) rfl rfl (by kernel_rfl) (by kernel_rfl) (by kernel_rfl) (fun _ _ _ h => h) (.inl ⟨by rfl, fun w' hw' => by obtain ⟨q1, q2, q3, q4⟩ := hw'; go_simp⟩) HSW.out ?_
                      simp only [Act.put, List.setIfInBounds_toArray, List.set_cons_zero, List.set_cons_succ]
                      refine takeD (i := 12) (some 159) (v := .pointer (some ⟨ob, 3, none⟩)) rfl rfl (by kernel_rfl) (by kernel_rfl) (by kernel_rfl) (fun _ _ _ h => h) (.inl ⟨by rfl, fun w' hw' => by obtain ⟨q1, q2, q3, q4⟩ := hw'; go_simp⟩) HSW.out ?_
                      simp only [Act.put, List.setIfInBounds_toArray, List.set_cons_zero, List.set_cons_succ]
                      refine takeD (i := 13) (some 160) (v := .int .i64 o.num) rfl rfl (by kernel_rfl) (by kernel_rfl) (by kernel_rfl) (fun _ _ _ h => h) (.inl ⟨by rfl, fun w' hw' => by obtain ⟨q1, q2, q3, q4⟩ := hw'; go_simp⟩) HSW.out ?_
                      simp only [Act.put, List.setIfInBounds_toArray, List.set_cons_zero, List.set_cons_succ]
                      refine takeD (i := 14) (some 161) (v := .int .i64 (k : Int)) rfl rfl (by kernel_rfl) (by kernel_rfl) (by kernel_rfl) (fun _ _ _ h => h) (.inl ⟨by rfl, fun w' hw' => by rfl⟩) HSW.out ?_
                      simp only [Act.put, List.setIfInBounds_toArray, List.set_cons_zero, List.set_cons_succ]
                      refine takeD (i := 15) (some 162) (v := .pointer (some ⟨bw, k, none⟩)) rfl rfl (by kernel_rfl) (by kernel_rfl) (by kernel_rfl) (fun _ _ _ h => h) (.inl ⟨by rfl, fun w' hw' => by obtain ⟨q1, q2, q3, q4⟩ := hw'; go_simp⟩) HSW.out ?_
                      simp only [Act.put, List.setIfInBounds_toArray, List.set_cons_zero, List.set_cons_succ]
                      refine takeD (i := 16) (some 163) (v := .slice (some adv) (W k).length cv) rfl rfl (by kernel_rfl) (by kernel_rfl) (by kernel_rfl) (fun _ _ _ h => h) (.inl ⟨by rfl, fun w' hw' => by obtain ⟨q1, q2, q3, q4⟩ := hw'; go_simp⟩) HSW.out ?_
                      simp only [Act.put, List.setIfInBounds_toArray, List.set_cons_zero, List.set_cons_succ]
                      refine takeD (i := 17) (some 164) (v := .int .i64 ((W k).length : Int)) rfl rfl (by kernel_rfl) (by kernel_rfl) (by kernel_rfl) (fun _ _ _ h => h) (.inl ⟨by rfl, fun w' hw' => by obtain ⟨q1, q2, q3, q4⟩ := hw'; go_simp⟩) HSW.out ?_
                      simp only [Act.put, List.setIfInBounds_toArray, List.set_cons_zero, List.set_cons_succ]
                      refine wpAnyH_ready (rs := [18]) (by kernel_rfl) (by simp) ?_
                      refine AllReadyH.cons rfl (fun K hK => ?_) AllReadyH.nil
                      go_simp
                      go_at_call 8
                      refine HCH.out.mono ?_
                      rintro e5 w5 ⟨rfl, rfl⟩
                      go_wp2_with fail
                      refine hK.out _ _ HSW.out (fun hcd => ?_)
                      clear hK K hcd HCH
                      refine takeD (i := 19) (some 166) (v := .pointer (some ada)) rfl rfl (by kernel_rfl) (by kernel_rfl) (by kernel_rfl) (fun _ _ _ h => h) (.inl ⟨by rfl, fun w' hw' => by obtain ⟨q1, q2, q3, q4⟩ := hw'; go_simp⟩) HSW.out ?_
                      simp only [Act.put, List.setIfInBounds_toArray, List.set_cons_zero, List.set_cons_succ]
                      refine takeD (i := 20) (some 167) (v := .slice Al l.length cl2) rfl rfl (by kernel_rfl) (by kernel_rfl) (by kernel_rfl) (fun _ _ _ h => h) (.inl ⟨by rfl, fun w' hw' => by obtain ⟨q1, q2, q3, q4⟩ := hw'; go_simp⟩) HSW.out ?_
                      simp only [Act.put, List.setIfInBounds_toArray, List.set_cons_zero, List.set_cons_succ]
                      refine wpAnyH_ready (rs := [21]) (by kernel_rfl) (by simp) ?_
                      refine AllReadyH.cons rfl (fun K hK => ?_) AllReadyH.nil
                      go_simp
                      go_at_call 14
                      refine HHR.out.mono ?_
                      rintro e10 w10 ⟨rfl, hg10, hs10⟩
                      rw [HE0.out]
                      have hst10 := HSTd.out.setP hk2 hg10 hs10 (hearS_length _ _)
                      have hob10 := HOB.out.drew.grown hg10 (slot_ne2 (HSTd.out.rd.tk k hk2) HOB.out.drew (by decide))
                      have hbv10 : w10.heap[adv.block]? = wb.heap[adv.block]? := hg10.block adv.block HBV.out.lt (slot_ne2 (HSTd.out.rd.tk k hk2) HBV.out.drew (by decide))
                      have HSW2 : Hid (w10.cell? ⟨bw, k, none⟩ = some (.slice (some adv) (W k).length cv) ∧ w10.cell? ⟨bp, k, none⟩ = some (.pointer (some ⟨G k, 0, none⟩)) ∧ w10.cell? ⟨ob, 3, none⟩ = some (.int .i64 o.num) ∧ w10.cell? ada = some (.slice Al l.length cl2)) := Lib.hid ⟨by rw [← HVK.out]; exact hst10.wcell hk2, hst10.rd.pcell hk2, (blk7 hob10).2.2.2.1, (World.cell?_of_block (by rw [hadl]; exact hbv10)).trans HSW.out.2.2.2⟩
                      have HSTX : Hid (Stepped w w10 bp bw bl bs lm sm G GS C N n nL fL ES) := Lib.hid ⟨_, _, _, _, nS, fS, SD, Lib.hid hst10, HM1, Lib.hid fun m hm => by
                        by_cases hmk : m = k
                        · subst hmk; rw [upd_at]; exact HGR.out
                        · rw [upd_ne _ _ hmk]; exact Grew.refl _, HSA, by omega⟩
                      clear hst10 hob10 hbv10 hg10 hs10 HSW HHR HM1 HGR HSLT HBV
                      go_wp2_with fail
                      refine hK.out _ _ HSW2.out (fun hcd => ?_)
                      clear hK K hcd
                      refine takeD (i := 22) (some 169) (v := .bool false) rfl rfl (by kernel_rfl) (by kernel_rfl) (by kernel_rfl) (fun _ _ _ h => h) (.inl ⟨by rfl, fun w' hw' => by obtain ⟨q1, q2, q3, q4⟩ := hw'; go_simp⟩) HSW2.out ?_
                      simp only [Act.put, List.setIfInBounds_toArray, List.set_cons_zero, List.set_cons_succ]
                      refine takeD (i := 23) (some 170) (v := .bool false) rfl rfl (by kernel_rfl) (by kernel_rfl) (by kernel_rfl) (fun _ _ _ h => h) (.inl ⟨by rfl, fun w' hw' => by obtain ⟨q1, q2, q3, q4⟩ := hw'; go_simp⟩) HSW2.out ?_
                      simp only [Act.put, List.setIfInBounds_toArray, List.set_cons_zero, List.set_cons_succ]
                      refine wpAnyH_done (by kernel_rfl) ?_ _
                      go_wp2_with fail
                      go_meet
                      exact HSTX
                  · have hb4 : (o.act == 4) = false := by simpa using ha4
                    as_aux_lemma =>
                      have HSTX : Hid (Stepped w wb bp bw bl bs lm sm G GS C N n nL fL ES) := Lib.hid ⟨ES, _, _, _, _, _, _, HSTb, Lib.hid (HME.out.mono (Nat.le_succ n)), HGR0, HSA, by omega⟩
                      clear HSTb HGR0 o0 o1 o2 o3 o4 o5 o6 ha1 ha2 ha3 ha4
                      go_wp2_with fail
                      go_meet
                      exact HSTX
          · go_wp2
            go_meet
            exact ⟨n, hn2, HGO⟩
        · go_wp2
          go_meet
          exact ⟨n, hn2, HGO⟩
end Go.Proofs.Ytmghigmegiainaa
