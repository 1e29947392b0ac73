/- looks: what both tell was said, and is what was told before or later. -/
import Derived.Test.YtmghigmegiainaaMap
import Derived.Test.YtmghigmegiainaaPeel
import Derived.Laws.StructEq
namespace Go.Proofs.Ytmghigmegiainaa
open Go.RowKit

section
variable {P : Program} {ops : Array Oper} {Q : Exit → Act → World → Prop} {md : Region.Mode} {S : World → Prop}
/-- as wpAnyH_take, with the place where the value goes written out -/
theorem takeD {i : Nat} (d : Option Tmp) {oi : Oper} {v : Value} {fuel : Nat} {listed : Array Bool} {a : Act} {w : World} (hi : ops[i]? = some oi) (hd : oi.dst = d)
    (hs : Region.noSelect ops = true) (hf : Region.free md ops listed i = true) (hr : (Region.ready md ops listed).contains i = true)
    (hQ : ∀ c a w, Q (.panic c) (a.put oi.dst v) w → Q (.panic c) a w) (hy : YieldsIf P ops S oi v a) (hS : S w)
    (h : wpAnyH P md ops Q S fuel (listed.setIfInBounds i true) (a.put d v) w) : wpAnyH P md ops Q S (fuel + 1) listed a w := by
  subst hd; exact wpAnyH_take hi hs hf hr hQ hy hS h
end
theorem key_ne {a b c d : Nat} (h : ¬ (c = a ∧ d = b)) : two2 (c : Int) (d : Int) ≠ two2 (a : Int) (b : Int) := fun e => by
  obtain ⟨h1, h2⟩ := two2_inj e
  exact h ⟨by omega, by omega⟩
def Tied (f : Value → Value) (LA : Nat → Nat → Told) : Prop := ∀ k s : Nat, k < 2 → s < 20 → f (two2 (k : Int) (s : Int)) = (LA k s).val_
theorem Tied.put {f : Value → Value} {LA : Nat → Nat → Told} (h : Tied f LA) (k s : Nat) (t : Told) : Tied (putAt f (two2 (k : Int) (s : Int)) t.val_) (set2 LA k s t) := fun k' s' hk hs => by
  unfold set2
  by_cases hc : k' = k ∧ s' = s
  · obtain ⟨rfl, rfl⟩ := hc
    rw [putAt_same, if_pos ⟨rfl, rfl⟩]
  · rw [putAt_other _ _ (key_ne hc), if_neg hc]; exact h k' s' hk hs
/-- what looks needs to find -/
structure Ready (w : World) (bp bl bs lm sm : Nat) (G GS C : Nat → Nat) (who : Nat → Int) (ES : Nat → List Ent) (nS : Nat) (fS : Value → Value) : Prop where
  pa : Blk w bp 25 #[.pointer (some ⟨G 0, 0, none⟩), .pointer (some ⟨G 1, 0, none⟩)]
  tk : ∀ k, k < 2 → Tk w 54 56 (G k) (GS k) (C k) (who k) (ES k)
  lb : Blk w bl 48 #[.map (some lm)]
  sb : Blk w bs 47 #[.map (some sm)]
  sf : MapFn Try.prog 44 w sm nS (.bool false) fS
  ne : sm ≠ lm
theorem Ready.grown {w w' : World} {bp bl bs lm sm : Nat} {G GS C : Nat → Nat} {who : Nat → Int} {ES : Nat → List Ent} {nS n : Nat} {fS f : Value → Value} {z : Value} {k : TypeId} {P : Program} (h : Ready w bp bl bs lm sm G GS C who ES nS fS) (hm : MapFn P k w lm n z f) (hg : w.grownBy w' (some lm)) : Ready w' bp bl bs lm sm G GS C who ES nS fS where
  pa := h.pa.grown hg fun e => by injection e with e; exact hm.notBlk h.pa e.symm
  tk j hj := by
    obtain ⟨c1, b1, _⟩ := (h.tk j hj).row.blk
    exact (h.tk j hj).grown hg (fun e => by injection e with e; exact hm.notBlk (h.tk j hj).head e.symm) (fun e => by injection e with e; exact hm.notBlk b1 e.symm)
  lb := h.lb.grown hg fun e => by injection e with e; exact hm.notBlk h.lb e.symm
  sb := h.sb.grown hg fun e => by injection e with e; exact hm.notBlk h.sb e.symm
  sf := h.sf.grown hg fun e => by injection e with e; exact h.ne e
  ne := h.ne
theorem Ready.pcell {w : World} {bp bl bs lm sm : Nat} {G GS C : Nat → Nat} {who : Nat → Int} {ES : Nat → List Ent} {nS : Nat} {fS : Value → Value} (h : Ready w bp bl bs lm sm G GS C who ES nS fS) {k : Nat} (hk : k < 2) : w.cell? ⟨bp, k, none⟩ = some (.pointer (some ⟨G k, 0, none⟩)) := by
  obtain ⟨c0, c1⟩ := blk2 h.pa
  rcases (show k = 0 ∨ k = 1 by omega) with rfl | rfl
  · exact c0
  · exact c1
/-- what the loops keep -/
def Seeing (w wr : World) (lm n : Nat) (ES : Nat → List Ent) (kk q : Nat) : Prop := w.grownBy wr (some lm) ∧ ∃ (m : Nat) (LA : Nat → Nat → Told) (f : Value → Value), m ≤ n + 20 * kk + q ∧ MapFn Try.prog 49 wr lm m zeroT.val_ f ∧ Tied f LA ∧ Pre ES LA ∧ Prog ES LA kk q

set_option maxRecDepth 100000 in
set_option maxHeartbeats 8000000 in
theorem looks_any (bp bl bs lm sm : Nat) (G GS C : Nat → Nat) (who : Nat → Int) (ES : Nat → List Ent) (nS nL : Nat) (fS fL : Value → Value) (LA : Nat → Nat → Told) (w : World) (h : Ready w bp bl bs lm sm G GS C who ES nS fS) (hlm : MapFn Try.prog 49 w lm nL zeroT.val_ fL) (hn : nL ≤ 100000)
    (hlen : ∀ k, k < 2 → (ES k).length ≤ 20) (hz : ∀ k, k < 2 → ∀ (i : Nat) (e : Ent), (ES k)[i]? = some e → EntZ i e) (hsaid : ∀ k, k < 2 → ∀ (i : Nat) (e : Ent), (ES k)[i]? = some e → 0 < e.t.ver → fS e.t.val_ = .bool true) (hti : Tied fL LA) (hpre : Pre ES LA) :
    Calls Try.prog 18 #[.pointer (some ⟨bp, 0, none⟩), .pointer (some ⟨bl, 0, none⟩), .pointer (some ⟨bs, 0, none⟩)] w fun e w' => e = .returned (.bool true) ∧ w.grownBy w' (some lm) ∧
      ∃ (m : Nat) (LA' : Nat → Nat → Told) (f' : Value → Value), m ≤ nL + 40 ∧ MapFn Try.prog 49 w' lm m zeroT.val_ f' ∧ Tied f' LA' ∧ Seen ES LA' := by
  have HR := Lib.hid h
  have HLM := Lib.hid hlm
  have HLN := Lib.hid hlen
  have HZ := Lib.hid hz
  have HSD := Lib.hid hsaid
  have HS0 : Hid (Seeing w w lm nL ES 0 0) := Lib.hid ⟨only_of_below (Below.refl _ _) _, nL, LA, fL, by omega, hlm, hti, hpre, Prog.begin⟩
  clear h hlm hlen hz hsaid hti hpre
  go_enter Try.func18, Try.ntmps18
  go_wp2
  go_loopw [4] (fun i wr => ∃ kk : Nat, kk ≤ 2 ∧ i = .int .i64 (kk : Int) ∧ Hid (Seeing w wr lm nL ES kk 0)) (fun i _ => 2 - (intOf i).toNat)
  case atStart => exact ⟨0, by omega, rfl, HS0⟩
  case round =>
    obtain ⟨kk, hkk, rfl, HSE⟩ := hrel
    clear HS0
    by_cases hk2 : kk < 2
    · obtain ⟨w4, hw4⟩ : ∃ w4, w4 = wr := ⟨_, rfl⟩
      subst hw4
      have hr := HR.out.grown HLM.out HSE.out.1
      have cp := hr.pcell hk2
      have HRr := Lib.hid hr
      clear hr
      go_wp2_with fail
      refine (tell_any (G kk) (GS kk) (C kk) (who kk) (ES kk) _ (HRr.out.tk kk hk2) (HLN.out kk hk2)).mono ?_
      rintro e1 w5 ⟨⟨v5, rfl, hr5⟩, hb5⟩
      obtain ⟨A5, c5, rfl, hsl5, _⟩ := hr5.sl
      have hTL := Nat.le_trans (tellL_le (ES kk)) (HLN.out kk hk2)
      have hsm := hsl5.max
      have hsl := hsl5.le
      unfold maxLen at hsm
      have HSL := Lib.hid hsl5
      have hlmlt : lm < w4.heap.size := by obtain ⟨_, _, _, _, _, h2, _⟩ := HSE.out; exact h2.lt
      have HB5 := Lib.hid hb5
      have HSE5 : Hid (Seeing w w5 lm nL ES kk 0) := Lib.hid (by
        obtain ⟨hg, m, LA, f, h1, h2, h3⟩ := HSE.out
        exact ⟨hg.trans (only_of_below hb5 _), m, LA, f, h1, h2.grown (only_of_below hb5 none) (by simp), h3⟩)
      clear hsl5 hr5 hb5 HSE
      have HTG : Hid (∀ q x, (tellL (ES kk))[q]? = some x → ∃ (i : Nat) (e : Ent), (ES kk)[i]? = some e ∧ e.t = x ∧ 0 < e.t.ver) := Lib.hid fun q x => tellL_get
      generalize hLL : tellL (ES kk) = L at *
      go_wp2
      go_loopw [6] (fun j w6 => ∃ q : Nat, q ≤ L.length ∧ j = .int .i64 (q : Int) ∧ Hid (w5.grownBy w6 (some lm)) ∧ Hid (Seeing w w6 lm nL ES kk q)) (fun j _ => L.length - (intOf j).toNat)
      case atStart => exact ⟨0, by omega, rfl, Lib.hid (only_of_below (Below.refl _ _) _), HSE5⟩
      case round =>
        obtain ⟨q, hq, rfl, HG6, HS6⟩ := hrel
        by_cases hql : q < L.length
        · have hr := HR.out.grown HLM.out HS6.out.1
          have HR6 := Lib.hid hr
          clear hr
          obtain ⟨_, m, LA6, f6, hm6, hf6, ht6, hp6, hg6⟩ := HS6.out
          have hkeep : Sl rTold wr (fun b => w4.heap.size ≤ b ∧ b < w5.heap.size) A5 c5 L := HSL.out.keep fun p hp => World.cell?_of_block (HG6.out.block p.block hp.2 (fun e => by injection e with e; have := hp.1; omega))
          obtain ⟨a, rfl, hab, hfx, a0, a1, a2, a3, a4⟩ := told_at hkeep hql
          obtain ⟨i0, e0, hi0, he0, hv0⟩ := HTG.out q _ (List.getElem?_eq_getElem hql)
          generalize hxx : L[q]'hql = x at *
          have hz0 := (HZ.out kk hk2 i0 e0 hi0).1
          rw [he0] at hz0
          have hi20 : i0 < 20 := by have h1 := (List.getElem?_eq_some_iff.1 hi0).1; have h2 := HLN.out kk hk2; omega
          obtain ⟨b0, b1⟩ := (show wr.cell? ⟨bl, 0, none⟩ = some (.map (some lm)) ∧ wr.cell? ⟨bs, 0, none⟩ = some (.map (some sm)) from ⟨by rw [HR6.out.lb.cell]; rfl, by rw [HR6.out.sb.cell]; rfl⟩)
          have HQ : Hid ((tellL (ES kk))[q]? = some e0.t) := Lib.hid (by rw [hLL, he0, ← hxx]; exact List.getElem?_eq_getElem hql)
          have HG0 := Lib.hid HS6.out.1
          have HGX : Hid (w5.grownBy wr (some lm)) := HG6
          obtain ⟨xs, xv, xw, xt, xo⟩ := x
          simp only at hz0 a0 a1 a2 a3 a4
          subst hz0
          have hIi : I64 (i0 : Int) := hfx.1
          have HSDX : Hid (fS (⟨(i0 : Int), xv, xw, xt, xo⟩ : Told).val_ = .bool true) := Lib.hid (by rw [← he0]; exact HSD.out kk hk2 i0 e0 hi0 hv0)
          have hab2 : LA6 kk i0 = e0.t ∨ Above e0.t (LA6 kk i0) := (hp6 kk hk2 i0 e0 hi0).1 hv0
          have hIk : I64 (kk : Int) := ⟨by omega, by omega⟩
          have hkey := keyTwo hIk hIi
          have hwas := ht6 kk i0 hk2 hi20
          obtain ⟨was, hWAS⟩ : ∃ was, LA6 kk i0 = was := ⟨_, rfl⟩
          rw [hWAS] at hwas hab2
          rw [he0] at hab2
          have HKEY := Lib.hid hkey
          have HLK : ∀ w', MapFn Try.prog 49 w' lm m zeroT.val_ f6 → (Instr.lookup 48 (.map (some lm)) (.agg #[.int .i64 (kk : Int), .int .i64 (i0 : Int)]) false).run Try.prog w' = .ok (.agg #[.int .i64 was.slot, .int .i64 was.ver, .int .i64 was.who, .string was.val, .bool was.opn]) w' := fun w' hm => by
            have := hm.look lawTwo Try.underlying48 (zeroTold _) hkey
            rw [hwas] at this; exact this
          have HF6 := Lib.hid hf6
          have HLKH := Lib.hid HLK
          have HT6 := Lib.hid ht6
          have HP6 := Lib.hid hp6
          have HPR := Lib.hid hg6
          have HF7 : Hid (MapFn Try.prog 49 wr.drew lm m zeroT.val_ f6) := Lib.hid (hf6.grown (only_drew (only_of_below (Below.refl _ _) none)) (by simp))
          have HSW : Hid (wr.drew.cell? ⟨bl, 0, none⟩ = some (.map (some lm)) ∧ wr.drew.cell? (a.add (q * 5)) = some (.int .i64 (i0 : Int)) ∧ _) := Lib.hid (And.intro b0 (And.intro a0 (HLK wr.drew HF7.out)))
          have HZA : Hid (Below wr.heap.size wr (wr.alloc (.cells #[.int .i64 0, .int .i64 0, .int .i64 0, .string ⟨#[]⟩, .bool false] 44)).drew) := Lib.hid ((Below.refl _ _).alloc (Nat.le_refl _) _).drew
          have hbl := HR6.out.lb.lt
          have hbs := HR6.out.sb.lt
          have HC := Lib.hid (And.intro b0 (And.intro b1 (And.intro a0 (And.intro a1 (And.intro a2 (And.intro a3 a4))))))
          have hal : (a.add (q * 5)).block < wr.heap.size := by
            have e : (a.add (q * 5)).block = a.block := by unfold Addr.add; split <;> rfl
            rw [e]; exact Nat.lt_of_lt_of_le hab.2 HG6.out.size
          clear hkey hwas HLK ht6 hp6 hg6 hf6
          go_wp2_with fail
          refine wp_region_peel (n := 10) (peel_of (by kernel_rfl)) (by kernel_rfl) ?_
          refine wpAny_of_held (S := fun w' => w'.cell? ⟨bl, 0, none⟩ = some (.map (some lm)) ∧ w'.cell? (a.add (q * 5)) = some (.int .i64 (i0 : Int)) ∧ (Instr.lookup 48 (.map (some lm)) (.agg #[.int .i64 (kk : Int), .int .i64 (i0 : Int)]) false).run Try.prog w' = .ok (.agg #[.int .i64 was.slot, .int .i64 was.ver, .int .i64 was.who, .string was.val, .bool was.opn]) w') _ _ _ _ ?_
          refine takeD (i := 0) (some 22) (v := .map (some lm)) rfl rfl (by kernel_rfl) (by kernel_rfl) (by kernel_rfl) (fun _ _ _ h => h) (.inl ⟨by rfl, fun w' hw' => by obtain ⟨q1, q2, q3⟩ := hw'; go_simp⟩) HSW.out ?_
          simp only [Act.put, List.setIfInBounds_toArray, List.set_cons_zero, List.set_cons_succ]
          refine takeD (i := 1) (some 23) (v := .int .i64 (kk : Int)) rfl rfl (by kernel_rfl) (by kernel_rfl) (by kernel_rfl) (fun _ _ _ h => h) (.inl ⟨by rfl, fun w' hw' => by rfl⟩) HSW.out ?_
          simp only [Act.put, List.setIfInBounds_toArray, List.set_cons_zero, List.set_cons_succ]
          refine takeD (i := 2) (some 24) (v := .slice (some a) L.length c5) rfl rfl (by kernel_rfl) (by kernel_rfl) (by kernel_rfl) (fun _ _ _ h => h) (.inl ⟨by rfl, fun w' hw' => by rfl⟩) HSW.out ?_
          simp only [Act.put, List.setIfInBounds_toArray, List.set_cons_zero, List.set_cons_succ]
          refine takeD (i := 3) (some 25) (v := .int .i64 (q : Int)) rfl rfl (by kernel_rfl) (by kernel_rfl) (by kernel_rfl) (fun _ _ _ h => h) (.inl ⟨by rfl, fun w' hw' => by rfl⟩) HSW.out ?_
          simp only [Act.put, List.setIfInBounds_toArray, List.set_cons_zero, List.set_cons_succ]
          refine takeD (i := 4) (some 26) (v := .pointer (some (a.add (q * 5)))) rfl rfl (by kernel_rfl) (by kernel_rfl) (by kernel_rfl) (fun _ _ _ h => h) (.inl ⟨by rfl, fun w' hw' => by obtain ⟨q1, q2, q3⟩ := hw'; go_simp⟩) HSW.out ?_
          simp only [Act.put, List.setIfInBounds_toArray, List.set_cons_zero, List.set_cons_succ]
          refine takeD (i := 5) (some 27) (v := .pointer (some (a.add (q * 5)))) rfl rfl (by kernel_rfl) (by kernel_rfl) (by kernel_rfl) (fun _ _ _ h => h) (.inl ⟨by rfl, fun w' hw' => by obtain ⟨q1, q2, q3⟩ := hw'; go_simp⟩) HSW.out ?_
          simp only [Act.put, List.setIfInBounds_toArray, List.set_cons_zero, List.set_cons_succ]
          refine takeD (i := 6) (some 28) (v := .int .i64 (i0 : Int)) rfl rfl (by kernel_rfl) (by kernel_rfl) (by kernel_rfl) (fun _ _ _ h => h) (.inl ⟨by rfl, fun w' hw' => by obtain ⟨q1, q2, q3⟩ := hw'; go_simp⟩) HSW.out ?_
          simp only [Act.put, List.setIfInBounds_toArray, List.set_cons_zero, List.set_cons_succ]
          refine takeD (i := 7) (some 29) (v := .agg #[.int .i64 (kk : Int), .int .i64 (i0 : Int)]) rfl rfl (by kernel_rfl) (by kernel_rfl) (by kernel_rfl) (fun _ _ _ h => h) (.inl ⟨by rfl, fun w' hw' => by obtain ⟨q1, q2, q3⟩ := hw'; go_simp⟩) HSW.out ?_
          simp only [Act.put, List.setIfInBounds_toArray, List.set_cons_zero, List.set_cons_succ]
          refine takeD (i := 8) (some 30) (v := .agg #[.int .i64 was.slot, .int .i64 was.ver, .int .i64 was.who, .string was.val, .bool was.opn]) rfl rfl (by kernel_rfl) (by kernel_rfl) (by kernel_rfl) (fun _ _ _ h => h) (.inl ⟨by rfl, fun w' hw' => by obtain ⟨q1, q2, q3⟩ := hw'; go_simp⟩) HSW.out ?_
          simp only [Act.put, List.setIfInBounds_toArray, List.set_cons_zero, List.set_cons_succ]
          refine wpAnyH_ready (rs := [9]) (by kernel_rfl) (by simp) ?_
          refine AllReadyH.cons rfl (fun K hK => ?_) AllReadyH.nil
          go_simp
          have hF8 := HF6.out.grown (row := none) (w' := (wr.alloc (.cells #[.int .i64 0, .int .i64 0, .int .i64 0, .string ⟨#[]⟩, .bool false] 44)).drew) (only_of_below HZA.out none) (by simp)
          refine hK.out _ _ ⟨(HZA.out.cell (p := ⟨bl, 0, none⟩) hbl).trans b0, (HZA.out.cell (p := a.add (q * 5)) hal).trans a0, HLKH.out _ hF8⟩ (fun hcd => ?_)
          clear hK K hcd
          refine wpAnyH_done (by kernel_rfl) ?_ _
          have hBN : Blk (wr.alloc (.cells #[.int .i64 0, .int .i64 0, .int .i64 0, .string ⟨#[]⟩, .bool false] 44)).drew wr.heap.size 44 #[.int .i64 0, .int .i64 0, .int .i64 0, .string ⟨#[]⟩, .bool false] := (Blk.new _ _ _).drew
          obtain ⟨n0, n1, n2, n3, n4⟩ := blk5 hBN
          have g0 := hBN.frozen 0
          have g1 := hBN.frozen 1
          have g2 := hBN.frozen 2
          have g3 := hBN.frozen 3
          have g4 := hBN.frozen 4
          have HBN := Lib.hid hBN
          have HF8 := Lib.hid hF8
          clear hBN hF8
          refine peelQ_step rfl (fun K hK => ?_)
          go_simp
          refine hK _ _ ?_
          clear hK K n0 n1 n2 n3 n4 g0 g1 g2 g3 g4
          have HB8 : Hid (Below wr.heap.size wr (wr.alloc (.cells #[.int .i64 was.slot, .int .i64 was.ver, .int .i64 was.who, .string was.val, .bool was.opn] 44)).drew) := Lib.hid ((Below.refl _ _).alloc (Nat.le_refl _) _).drew
          have HW8 : Hid (Blk (wr.alloc (.cells #[.int .i64 was.slot, .int .i64 was.ver, .int .i64 was.who, .string was.val, .bool was.opn] 44)).drew wr.heap.size 44 #[.int .i64 was.slot, .int .i64 was.ver, .int .i64 was.who, .string was.val, .bool was.opn]) := Lib.hid (Blk.new _ _ _).drew
          clear HBN HF8 HSW HF7 HZA a0 a1 a2 a3 a4 b0 b1
          generalize World.drew (World.alloc wr _) = w8 at *
          have HLS : Hid (∀ w', MapFn Try.prog 44 w' sm nS (.bool false) fS → (Instr.lookup 47 (.map (some sm)) (.agg #[.int .i64 (i0 : Int), .int .i64 xv, .int .i64 xw, .string xt, .bool xo]) false).run Try.prog w' = .ok (.bool true) w') := Lib.hid fun w' hm => by
            have := hm.look lawTold Try.underlying47 (zeroBool _) (keyTold hfx)
            rw [HSDX.out] at this; exact this
          have hs9 := HR6.out.sf.grown (row := none) (w' := w8.drew) (only_drew (only_of_below HB8.out none)) (by simp)
          have c9 : ∀ p : Addr, p.block < wr.heap.size → w8.drew.cell? p = wr.cell? p := fun p hp => HB8.out.cell hp
          obtain ⟨n0, n1, n2, n3, n4⟩ := blk5 HW8.out
          obtain ⟨S9, hS9⟩ : ∃ S9 : World → Prop, S9 = fun w' => w'.cell? ⟨bs, 0, none⟩ = some (.map (some sm)) ∧ w'.cell? (a.add (q * 5)) = some (.int .i64 (i0 : Int)) ∧ w'.cell? ⟨(a.add (q * 5)).block, (a.add (q * 5)).off + 1, none⟩ = some (.int .i64 xv) ∧ w'.cell? ⟨(a.add (q * 5)).block, (a.add (q * 5)).off + 2, none⟩ = some (.int .i64 xw) ∧ w'.cell? ⟨(a.add (q * 5)).block, (a.add (q * 5)).off + 3, none⟩ = some (.string xt) ∧ w'.cell? ⟨(a.add (q * 5)).block, (a.add (q * 5)).off + 4, none⟩ = some (.bool xo) ∧
            w'.cell? ⟨wr.heap.size, 0, none⟩ = some (.int .i64 was.slot) ∧ w'.cell? ⟨wr.heap.size, 1, none⟩ = some (.int .i64 was.ver) ∧ w'.cell? ⟨wr.heap.size, 2, none⟩ = some (.int .i64 was.who) ∧ w'.cell? ⟨wr.heap.size, 3, none⟩ = some (.string was.val) ∧ w'.cell? ⟨wr.heap.size, 4, none⟩ = some (.bool was.opn) ∧
            (Instr.lookup 47 (.map (some sm)) (.agg #[.int .i64 (i0 : Int), .int .i64 xv, .int .i64 xw, .string xt, .bool xo]) false).run Try.prog w' = .ok (.bool true) w' := ⟨_, rfl⟩
          have HSW9 : Hid (S9 w8.drew) := Lib.hid (by
            rw [hS9]
            exact ⟨(c9 ⟨bs, 0, none⟩ hbs).trans HC.out.2.1, (c9 (a.add (q * 5)) hal).trans HC.out.2.2.1, (c9 ⟨(a.add (q * 5)).block, (a.add (q * 5)).off + 1, none⟩ hal).trans HC.out.2.2.2.1, (c9 ⟨(a.add (q * 5)).block, (a.add (q * 5)).off + 2, none⟩ hal).trans HC.out.2.2.2.2.1, (c9 ⟨(a.add (q * 5)).block, (a.add (q * 5)).off + 3, none⟩ hal).trans HC.out.2.2.2.2.2.1, (c9 ⟨(a.add (q * 5)).block, (a.add (q * 5)).off + 4, none⟩ hal).trans HC.out.2.2.2.2.2.2, n0, n1, n2, n3, n4, HLS.out _ hs9⟩)
          have hlt8 : wr.heap.size < w8.heap.size := HW8.out.lt
          clear n0 n1 n2 n3 n4 hs9 c9
          by_cases hsame : was = ⟨(i0 : Int), xv, xw, xt, xo⟩
          · have HEQ : ∀ w', (Op.equalIn 10000 44 (.agg #[.int .i64 was.slot, .int .i64 was.ver, .int .i64 was.who, .string was.val, .bool was.opn]) (.agg #[.int .i64 (i0 : Int), .int .i64 xv, .int .i64 xw, .string xt, .bool xo])).run Try.prog w' = .ok true w' := fun w' => by
              have := eqTold_same was w'
              rw [show (.agg #[.int .i64 (i0 : Int), .int .i64 xv, .int .i64 xw, .string xt, .bool xo] : Value) = was.val_ from by rw [hsame]; rfl]
              exact this
            clear hsame
            go_wp2_with fail
            refine wp_region_any (by kernel_rfl) ?_
            change wpAny _ _ _ _ _ _ _ (World.drew w8)
            refine wpAny_of_held (S := S9) _ _ _ _ ?_
            refine takeD (i := 0) (some 31) (v := .map (some sm)) rfl rfl (by kernel_rfl) (by kernel_rfl) (by kernel_rfl) (fun _ _ _ h => h) (.inl ⟨by rfl, fun w' hw' => by rw [hS9] at hw'; obtain ⟨q1, q2, q3, q4, q5, q6, q7, q8, q9, q10, q11, q12⟩ := hw'; go_simp⟩) HSW9.out ?_
            simp only [Act.put, List.setIfInBounds_toArray, List.set_cons_zero, List.set_cons_succ]
            refine takeD (i := 1) (some 32) (v := .slice (some a) L.length c5) rfl rfl (by kernel_rfl) (by kernel_rfl) (by kernel_rfl) (fun _ _ _ h => h) (.inl ⟨by rfl, fun w' hw' => by rfl⟩) HSW9.out ?_
            simp only [Act.put, List.setIfInBounds_toArray, List.set_cons_zero, List.set_cons_succ]
            refine takeD (i := 2) (some 33) (v := .int .i64 (q : Int)) rfl rfl (by kernel_rfl) (by kernel_rfl) (by kernel_rfl) (fun _ _ _ h => h) (.inl ⟨by rfl, fun w' hw' => by rfl⟩) HSW9.out ?_
            simp only [Act.put, List.setIfInBounds_toArray, List.set_cons_zero, List.set_cons_succ]
            refine takeD (i := 3) (some 34) (v := .pointer (some (a.add (q * 5)))) rfl rfl (by kernel_rfl) (by kernel_rfl) (by kernel_rfl) (fun _ _ _ h => h) (.inl ⟨by rfl, fun w' hw' => by rw [hS9] at hw'; obtain ⟨q1, q2, q3, q4, q5, q6, q7, q8, q9, q10, q11, q12⟩ := hw'; go_simp⟩) HSW9.out ?_
            simp only [Act.put, List.setIfInBounds_toArray, List.set_cons_zero, List.set_cons_succ]
            refine takeD (i := 4) (some 35) (v := .agg #[.int .i64 (i0 : Int), .int .i64 xv, .int .i64 xw, .string xt, .bool xo]) rfl rfl (by kernel_rfl) (by kernel_rfl) (by kernel_rfl) (fun _ _ _ h => h) (.inl ⟨by rfl, fun w' hw' => by rw [hS9] at hw'; obtain ⟨q1, q2, q3, q4, q5, q6, q7, q8, q9, q10, q11, q12⟩ := hw'; go_simp⟩) HSW9.out ?_
            simp only [Act.put, List.setIfInBounds_toArray, List.set_cons_zero, List.set_cons_succ]
            refine takeD (i := 5) (some 36) (v := .bool true) rfl rfl (by kernel_rfl) (by kernel_rfl) (by kernel_rfl) (fun _ _ _ h => h) (.inl ⟨by rfl, fun w' hw' => by rw [hS9] at hw'; obtain ⟨q1, q2, q3, q4, q5, q6, q7, q8, q9, q10, q11, q12⟩ := hw'; go_simp⟩) HSW9.out ?_
            simp only [Act.put, List.setIfInBounds_toArray, List.set_cons_zero, List.set_cons_succ]
            refine takeD (i := 6) (some 37) (v := .bool false) rfl rfl (by kernel_rfl) (by kernel_rfl) (by kernel_rfl) (fun _ _ _ h => h) (.inl ⟨by rfl, fun w' hw' => by rw [hS9] at hw'; obtain ⟨q1, q2, q3, q4, q5, q6, q7, q8, q9, q10, q11, q12⟩ := hw'; go_simp⟩) HSW9.out ?_
            simp only [Act.put, List.setIfInBounds_toArray, List.set_cons_zero, List.set_cons_succ]
            refine takeD (i := 7) (some 38) (v := .bool false) rfl rfl (by kernel_rfl) (by kernel_rfl) (by kernel_rfl) (fun _ _ _ h => h) (.inl ⟨by rfl, fun w' hw' => by rfl⟩) HSW9.out ?_
            simp only [Act.put, List.setIfInBounds_toArray, List.set_cons_zero, List.set_cons_succ]
            refine takeD (i := 8) (some 39) (v := .agg #[.int .i64 was.slot, .int .i64 was.ver, .int .i64 was.who, .string was.val, .bool was.opn]) rfl rfl (by kernel_rfl) (by kernel_rfl) (by kernel_rfl) (fun _ _ _ h => h) (.inl ⟨by rfl, fun w' hw' => by rw [hS9] at hw'; obtain ⟨q1, q2, q3, q4, q5, q6, q7, q8, q9, q10, q11, q12⟩ := hw'; go_simp⟩) HSW9.out ?_
            simp only [Act.put, List.setIfInBounds_toArray, List.set_cons_zero, List.set_cons_succ]
            refine takeD (i := 9) (some 40) (v := .slice (some a) L.length c5) rfl rfl (by kernel_rfl) (by kernel_rfl) (by kernel_rfl) (fun _ _ _ h => h) (.inl ⟨by rfl, fun w' hw' => by rfl⟩) HSW9.out ?_
            simp only [Act.put, List.setIfInBounds_toArray, List.set_cons_zero, List.set_cons_succ]
            refine takeD (i := 10) (some 41) (v := .int .i64 (q : Int)) rfl rfl (by kernel_rfl) (by kernel_rfl) (by kernel_rfl) (fun _ _ _ h => h) (.inl ⟨by rfl, fun w' hw' => by rfl⟩) HSW9.out ?_
            simp only [Act.put, List.setIfInBounds_toArray, List.set_cons_zero, List.set_cons_succ]
            refine takeD (i := 11) (some 42) (v := .pointer (some (a.add (q * 5)))) rfl rfl (by kernel_rfl) (by kernel_rfl) (by kernel_rfl) (fun _ _ _ h => h) (.inl ⟨by rfl, fun w' hw' => by rw [hS9] at hw'; obtain ⟨q1, q2, q3, q4, q5, q6, q7, q8, q9, q10, q11, q12⟩ := hw'; go_simp⟩) HSW9.out ?_
            simp only [Act.put, List.setIfInBounds_toArray, List.set_cons_zero, List.set_cons_succ]
            refine takeD (i := 12) (some 43) (v := .agg #[.int .i64 (i0 : Int), .int .i64 xv, .int .i64 xw, .string xt, .bool xo]) rfl rfl (by kernel_rfl) (by kernel_rfl) (by kernel_rfl) (fun _ _ _ h => h) (.inl ⟨by rfl, fun w' hw' => by rw [hS9] at hw'; obtain ⟨q1, q2, q3, q4, q5, q6, q7, q8, q9, q10, q11, q12⟩ := hw'; go_simp⟩) HSW9.out ?_
            simp only [Act.put, List.setIfInBounds_toArray, List.set_cons_zero, List.set_cons_succ]
            refine takeD (i := 13) (some 44) (v := .bool false) rfl rfl (by kernel_rfl) (by kernel_rfl) (by kernel_rfl) (fun _ _ _ h => h) (.inl ⟨by rfl, fun w' hw' => by rw [hS9] at hw'; obtain ⟨q1, q2, q3, q4, q5, q6, q7, q8, q9, q10, q11, q12⟩ := hw'; go_simp⟩) HSW9.out ?_
            simp only [Act.put, List.setIfInBounds_toArray, List.set_cons_zero, List.set_cons_succ]
            refine takeD (i := 14) (some 45) (v := .bool false) rfl rfl (by kernel_rfl) (by kernel_rfl) (by kernel_rfl) (fun _ _ _ h => h) (.inl ⟨by rfl, fun w' hw' => by rfl⟩) HSW9.out ?_
            simp only [Act.put, List.setIfInBounds_toArray, List.set_cons_zero, List.set_cons_succ]
            refine takeD (i := 15) (some 46) (v := undef) rfl rfl (by kernel_rfl) (by kernel_rfl) (by kernel_rfl) (fun _ _ _ h => h) (.inr ⟨by rfl, rfl⟩) HSW9.out ?_
            simp only [Act.put, List.setIfInBounds_toArray, List.set_cons_zero, List.set_cons_succ]
            refine takeD (i := 16) (some 47) (v := undef) rfl rfl (by kernel_rfl) (by kernel_rfl) (by kernel_rfl) (fun _ _ _ h => h) (.inr ⟨by rfl, rfl⟩) HSW9.out ?_
            simp only [Act.put, List.setIfInBounds_toArray, List.set_cons_zero, List.set_cons_succ]
            refine takeD (i := 17) (some 48) (v := undef) rfl rfl (by kernel_rfl) (by kernel_rfl) (by kernel_rfl) (fun _ _ _ h => h) (.inr ⟨by rfl, rfl⟩) HSW9.out ?_
            simp only [Act.put, List.setIfInBounds_toArray, List.set_cons_zero, List.set_cons_succ]
            refine takeD (i := 18) (some 49) (v := undef) rfl rfl (by kernel_rfl) (by kernel_rfl) (by kernel_rfl) (fun _ _ _ h => h) (.inr ⟨by rfl, rfl⟩) HSW9.out ?_
            simp only [Act.put, List.setIfInBounds_toArray, List.set_cons_zero, List.set_cons_succ]
            refine takeD (i := 19) (some 50) (v := undef) rfl rfl (by kernel_rfl) (by kernel_rfl) (by kernel_rfl) (fun _ _ _ h => h) (.inr ⟨by rfl, rfl⟩) HSW9.out ?_
            simp only [Act.put, List.setIfInBounds_toArray, List.set_cons_zero, List.set_cons_succ]
            refine takeD (i := 20) (some 51) (v := undef) rfl rfl (by kernel_rfl) (by kernel_rfl) (by kernel_rfl) (fun _ _ _ h => h) (.inr ⟨by rfl, rfl⟩) HSW9.out ?_
            simp only [Act.put, List.setIfInBounds_toArray, List.set_cons_zero, List.set_cons_succ]
            refine takeD (i := 21) (some 52) (v := undef) rfl rfl (by kernel_rfl) (by kernel_rfl) (by kernel_rfl) (fun _ _ _ h => h) (.inr ⟨by rfl, rfl⟩) HSW9.out ?_
            simp only [Act.put, List.setIfInBounds_toArray, List.set_cons_zero, List.set_cons_succ]
            refine takeD (i := 22) (some 53) (v := .bool false) rfl rfl (by kernel_rfl) (by kernel_rfl) (by kernel_rfl) (fun _ _ _ h => h) (.inl ⟨by rfl, fun w' hw' => by rw [hS9] at hw'; obtain ⟨q1, q2, q3, q4, q5, q6, q7, q8, q9, q10, q11, q12⟩ := hw'; go_simp⟩) HSW9.out ?_
            simp only [Act.put, List.setIfInBounds_toArray, List.set_cons_zero, List.set_cons_succ]
            refine takeD (i := 23) (some 54) (v := .bool false) rfl rfl (by kernel_rfl) (by kernel_rfl) (by kernel_rfl) (fun _ _ _ h => h) (.inl ⟨by rfl, fun w' hw' => by rw [hS9] at hw'; obtain ⟨q1, q2, q3, q4, q5, q6, q7, q8, q9, q10, q11, q12⟩ := hw'; go_simp⟩) HSW9.out ?_
            simp only [Act.put, List.setIfInBounds_toArray, List.set_cons_zero, List.set_cons_succ]
            refine wpAnyH_done (by kernel_rfl) ?_ _
            have HBX : Hid (Below wr.heap.size wr w8.drew) := Lib.hid HB8.out.drew
            clear HEQ hS9 HSW9 hab2
            go_wp2_with fail
            have hFX := HF6.out.grown (row := none) (w' := (w8.drew)) (only_of_below HBX.out none) (by simp)
            have hFXd := hFX.grown (row := none) (w' := (w8.drew).drew) (only_drew (only_of_below (Below.refl _ _) none)) (by simp)
            obtain ⟨w12, hrun, hF12, hg12⟩ := hFXd.store lawTwo Try.underlying48 (by unfold maxLen; omega) HKEY.out (.agg #[.int .i64 (i0 : Int), .int .i64 xv, .int .i64 xw, .string xt, .bool xo])
            have HF12 := Lib.hid hF12
            have HG12 := Lib.hid hg12
            have HSWE : Hid ((w8.drew).drew.cell? ⟨bl, 0, none⟩ = some (.map (some lm)) ∧ (w8.drew).drew.cell? (a.add (q * 5)) = some (.int .i64 (i0 : Int)) ∧ (w8.drew).drew.cell? ⟨(a.add (q * 5)).block, (a.add (q * 5)).off + 1, none⟩ = some (.int .i64 xv) ∧ (w8.drew).drew.cell? ⟨(a.add (q * 5)).block, (a.add (q * 5)).off + 2, none⟩ = some (.int .i64 xw) ∧ (w8.drew).drew.cell? ⟨(a.add (q * 5)).block, (a.add (q * 5)).off + 3, none⟩ = some (.string xt) ∧ (w8.drew).drew.cell? ⟨(a.add (q * 5)).block, (a.add (q * 5)).off + 4, none⟩ = some (.bool xo)) :=
              Lib.hid ⟨(HBX.out.cell (p := ⟨bl, 0, none⟩) hbl).trans HC.out.1, (HBX.out.cell (p := a.add (q * 5)) hal).trans HC.out.2.2.1, (HBX.out.cell (p := ⟨(a.add (q * 5)).block, (a.add (q * 5)).off + 1, none⟩) hal).trans HC.out.2.2.2.1, (HBX.out.cell (p := ⟨(a.add (q * 5)).block, (a.add (q * 5)).off + 2, none⟩) hal).trans HC.out.2.2.2.2.1, (HBX.out.cell (p := ⟨(a.add (q * 5)).block, (a.add (q * 5)).off + 3, none⟩) hal).trans HC.out.2.2.2.2.2.1, (HBX.out.cell (p := ⟨(a.add (q * 5)).block, (a.add (q * 5)).off + 4, none⟩) hal).trans HC.out.2.2.2.2.2.2⟩
            clear hFX hFXd hF12 hg12
            go_wp2_with fail
            refine wp_region_peel (n := 12) (peel_of (by kernel_rfl)) (by kernel_rfl) ?_
            refine wpAny_of_held (S := fun w' => w'.cell? ⟨bl, 0, none⟩ = some (.map (some lm)) ∧ w'.cell? (a.add (q * 5)) = some (.int .i64 (i0 : Int)) ∧ w'.cell? ⟨(a.add (q * 5)).block, (a.add (q * 5)).off + 1, none⟩ = some (.int .i64 xv) ∧ w'.cell? ⟨(a.add (q * 5)).block, (a.add (q * 5)).off + 2, none⟩ = some (.int .i64 xw) ∧ w'.cell? ⟨(a.add (q * 5)).block, (a.add (q * 5)).off + 3, none⟩ = some (.string xt) ∧ w'.cell? ⟨(a.add (q * 5)).block, (a.add (q * 5)).off + 4, none⟩ = some (.bool xo)) _ _ _ _ ?_
            refine takeD (i := 0) (some 55) (v := .map (some lm)) rfl rfl (by kernel_rfl) (by kernel_rfl) (by kernel_rfl) (fun _ _ _ h => h) (.inl ⟨by rfl, fun w' hw' => by obtain ⟨q1, q2, q3, q4, q5, q6⟩ := hw'; go_simp⟩) HSWE.out ?_
            simp only [Act.put, List.setIfInBounds_toArray, List.set_cons_zero, List.set_cons_succ]
            refine takeD (i := 1) (some 56) (v := .int .i64 (kk : Int)) rfl rfl (by kernel_rfl) (by kernel_rfl) (by kernel_rfl) (fun _ _ _ h => h) (.inl ⟨by rfl, fun w' hw' => by rfl⟩) HSWE.out ?_
            simp only [Act.put, List.setIfInBounds_toArray, List.set_cons_zero, List.set_cons_succ]
            refine takeD (i := 2) (some 57) (v := .slice (some a) L.length c5) rfl rfl (by kernel_rfl) (by kernel_rfl) (by kernel_rfl) (fun _ _ _ h => h) (.inl ⟨by rfl, fun w' hw' => by rfl⟩) HSWE.out ?_
            simp only [Act.put, List.setIfInBounds_toArray, List.set_cons_zero, List.set_cons_succ]
            refine takeD (i := 3) (some 58) (v := .int .i64 (q : Int)) rfl rfl (by kernel_rfl) (by kernel_rfl) (by kernel_rfl) (fun _ _ _ h => h) (.inl ⟨by rfl, fun w' hw' => by rfl⟩) HSWE.out ?_
            simp only [Act.put, List.setIfInBounds_toArray, List.set_cons_zero, List.set_cons_succ]
            refine takeD (i := 4) (some 59) (v := .pointer (some (a.add (q * 5)))) rfl rfl (by kernel_rfl) (by kernel_rfl) (by kernel_rfl) (fun _ _ _ h => h) (.inl ⟨by rfl, fun w' hw' => by obtain ⟨q1, q2, q3, q4, q5, q6⟩ := hw'; go_simp⟩) HSWE.out ?_
            simp only [Act.put, List.setIfInBounds_toArray, List.set_cons_zero, List.set_cons_succ]
            refine takeD (i := 5) (some 60) (v := .pointer (some (a.add (q * 5)))) rfl rfl (by kernel_rfl) (by kernel_rfl) (by kernel_rfl) (fun _ _ _ h => h) (.inl ⟨by rfl, fun w' hw' => by obtain ⟨q1, q2, q3, q4, q5, q6⟩ := hw'; go_simp⟩) HSWE.out ?_
            simp only [Act.put, List.setIfInBounds_toArray, List.set_cons_zero, List.set_cons_succ]
            refine takeD (i := 6) (some 61) (v := .int .i64 (i0 : Int)) rfl rfl (by kernel_rfl) (by kernel_rfl) (by kernel_rfl) (fun _ _ _ h => h) (.inl ⟨by rfl, fun w' hw' => by obtain ⟨q1, q2, q3, q4, q5, q6⟩ := hw'; go_simp⟩) HSWE.out ?_
            simp only [Act.put, List.setIfInBounds_toArray, List.set_cons_zero, List.set_cons_succ]
            refine takeD (i := 7) (some 62) (v := .agg #[.int .i64 (kk : Int), .int .i64 (i0 : Int)]) rfl rfl (by kernel_rfl) (by kernel_rfl) (by kernel_rfl) (fun _ _ _ h => h) (.inl ⟨by rfl, fun w' hw' => by obtain ⟨q1, q2, q3, q4, q5, q6⟩ := hw'; go_simp⟩) HSWE.out ?_
            simp only [Act.put, List.setIfInBounds_toArray, List.set_cons_zero, List.set_cons_succ]
            refine takeD (i := 8) (some 63) (v := .slice (some a) L.length c5) rfl rfl (by kernel_rfl) (by kernel_rfl) (by kernel_rfl) (fun _ _ _ h => h) (.inl ⟨by rfl, fun w' hw' => by rfl⟩) HSWE.out ?_
            simp only [Act.put, List.setIfInBounds_toArray, List.set_cons_zero, List.set_cons_succ]
            refine takeD (i := 9) (some 64) (v := .int .i64 (q : Int)) rfl rfl (by kernel_rfl) (by kernel_rfl) (by kernel_rfl) (fun _ _ _ h => h) (.inl ⟨by rfl, fun w' hw' => by rfl⟩) HSWE.out ?_
            simp only [Act.put, List.setIfInBounds_toArray, List.set_cons_zero, List.set_cons_succ]
            refine takeD (i := 10) (some 65) (v := .pointer (some (a.add (q * 5)))) rfl rfl (by kernel_rfl) (by kernel_rfl) (by kernel_rfl) (fun _ _ _ h => h) (.inl ⟨by rfl, fun w' hw' => by obtain ⟨q1, q2, q3, q4, q5, q6⟩ := hw'; go_simp⟩) HSWE.out ?_
            simp only [Act.put, List.setIfInBounds_toArray, List.set_cons_zero, List.set_cons_succ]
            refine takeD (i := 11) (some 66) (v := .agg #[.int .i64 (i0 : Int), .int .i64 xv, .int .i64 xw, .string xt, .bool xo]) rfl rfl (by kernel_rfl) (by kernel_rfl) (by kernel_rfl) (fun _ _ _ h => h) (.inl ⟨by rfl, fun w' hw' => by obtain ⟨q1, q2, q3, q4, q5, q6⟩ := hw'; go_simp⟩) HSWE.out ?_
            simp only [Act.put, List.setIfInBounds_toArray, List.set_cons_zero, List.set_cons_succ]
            refine wpAnyH_done (by kernel_rfl) ?_ _
            refine peelQ_step rfl (fun K hK => ?_)
            rw [show two2 (kk : Int) (i0 : Int) = .agg #[.int .i64 (kk : Int), .int .i64 (i0 : Int)] from rfl] at hrun
            go_simp
            refine hK _ _ ?_
            clear hK K
            go_wp2
            go_roundw
            case rel => exact ⟨q + 1, by omega, by go_num, Lib.hid (HGX.out.trans ((only_drew (only_of_below HBX.out _)).trans HG12.out)), Lib.hid ⟨HG0.out.trans ((only_drew (only_of_below HBX.out _)).trans HG12.out), m + 1, set2 LA6 kk i0 e0.t, _, by omega, HF12.out, by rw [he0]; exact HT6.out.put kk i0 ⟨(i0 : Int), xv, xw, xt, xo⟩, HP6.out.set_ hi0 hv0, HPR.out.set_ (HZ.out kk hk2) hi0 HQ.out⟩⟩
            case measure => simp [intOf]; omega
          · have HEQ : ∀ w', (Op.equalIn 10000 44 (.agg #[.int .i64 was.slot, .int .i64 was.ver, .int .i64 was.who, .string was.val, .bool was.opn]) (.agg #[.int .i64 (i0 : Int), .int .i64 xv, .int .i64 xw, .string xt, .bool xo])).run Try.prog w' = .ok false w' := fun w' => eqTold_ne hsame w'
            have hlat : rLater (⟨(i0 : Int), xv, xw, xt, xo⟩ : Told) was = true := by
              rw [rLater_eq, decide_eq_true_eq, above_iff]
              rcases hab2 with h | h
              · exact absurd h hsame
              · exact h
            clear hsame
            go_wp2_with fail
            refine wp_region_any (by kernel_rfl) ?_
            change wpAny _ _ _ _ _ _ _ (World.drew w8)
            refine wpAny_of_held (S := S9) _ _ _ _ ?_
            refine takeD (i := 0) (some 31) (v := .map (some sm)) rfl rfl (by kernel_rfl) (by kernel_rfl) (by kernel_rfl) (fun _ _ _ h => h) (.inl ⟨by rfl, fun w' hw' => by rw [hS9] at hw'; obtain ⟨q1, q2, q3, q4, q5, q6, q7, q8, q9, q10, q11, q12⟩ := hw'; go_simp⟩) HSW9.out ?_
            simp only [Act.put, List.setIfInBounds_toArray, List.set_cons_zero, List.set_cons_succ]
            refine takeD (i := 1) (some 32) (v := .slice (some a) L.length c5) rfl rfl (by kernel_rfl) (by kernel_rfl) (by kernel_rfl) (fun _ _ _ h => h) (.inl ⟨by rfl, fun w' hw' => by rfl⟩) HSW9.out ?_
            simp only [Act.put, List.setIfInBounds_toArray, List.set_cons_zero, List.set_cons_succ]
            refine takeD (i := 2) (some 33) (v := .int .i64 (q : Int)) rfl rfl (by kernel_rfl) (by kernel_rfl) (by kernel_rfl) (fun _ _ _ h => h) (.inl ⟨by rfl, fun w' hw' => by rfl⟩) HSW9.out ?_
            simp only [Act.put, List.setIfInBounds_toArray, List.set_cons_zero, List.set_cons_succ]
            refine takeD (i := 3) (some 34) (v := .pointer (some (a.add (q * 5)))) rfl rfl (by kernel_rfl) (by kernel_rfl) (by kernel_rfl) (fun _ _ _ h => h) (.inl ⟨by rfl, fun w' hw' => by rw [hS9] at hw'; obtain ⟨q1, q2, q3, q4, q5, q6, q7, q8, q9, q10, q11, q12⟩ := hw'; go_simp⟩) HSW9.out ?_
            simp only [Act.put, List.setIfInBounds_toArray, List.set_cons_zero, List.set_cons_succ]
            refine takeD (i := 4) (some 35) (v := .agg #[.int .i64 (i0 : Int), .int .i64 xv, .int .i64 xw, .string xt, .bool xo]) rfl rfl (by kernel_rfl) (by kernel_rfl) (by kernel_rfl) (fun _ _ _ h => h) (.inl ⟨by rfl, fun w' hw' => by rw [hS9] at hw'; obtain ⟨q1, q2, q3, q4, q5, q6, q7, q8, q9, q10, q11, q12⟩ := hw'; go_simp⟩) HSW9.out ?_
            simp only [Act.put, List.setIfInBounds_toArray, List.set_cons_zero, List.set_cons_succ]
            refine takeD (i := 5) (some 36) (v := .bool true) rfl rfl (by kernel_rfl) (by kernel_rfl) (by kernel_rfl) (fun _ _ _ h => h) (.inl ⟨by rfl, fun w' hw' => by rw [hS9] at hw'; obtain ⟨q1, q2, q3, q4, q5, q6, q7, q8, q9, q10, q11, q12⟩ := hw'; go_simp⟩) HSW9.out ?_
            simp only [Act.put, List.setIfInBounds_toArray, List.set_cons_zero, List.set_cons_succ]
            refine takeD (i := 6) (some 37) (v := .bool false) rfl rfl (by kernel_rfl) (by kernel_rfl) (by kernel_rfl) (fun _ _ _ h => h) (.inl ⟨by rfl, fun w' hw' => by rw [hS9] at hw'; obtain ⟨q1, q2, q3, q4, q5, q6, q7, q8, q9, q10, q11, q12⟩ := hw'; go_simp⟩) HSW9.out ?_
            simp only [Act.put, List.setIfInBounds_toArray, List.set_cons_zero, List.set_cons_succ]
            refine takeD (i := 7) (some 38) (v := .bool false) rfl rfl (by kernel_rfl) (by kernel_rfl) (by kernel_rfl) (fun _ _ _ h => h) (.inl ⟨by rfl, fun w' hw' => by rfl⟩) HSW9.out ?_
            simp only [Act.put, List.setIfInBounds_toArray, List.set_cons_zero, List.set_cons_succ]
            refine takeD (i := 8) (some 39) (v := .agg #[.int .i64 was.slot, .int .i64 was.ver, .int .i64 was.who, .string was.val, .bool was.opn]) rfl rfl (by kernel_rfl) (by kernel_rfl) (by kernel_rfl) (fun _ _ _ h => h) (.inl ⟨by rfl, fun w' hw' => by rw [hS9] at hw'; obtain ⟨q1, q2, q3, q4, q5, q6, q7, q8, q9, q10, q11, q12⟩ := hw'; go_simp⟩) HSW9.out ?_
            simp only [Act.put, List.setIfInBounds_toArray, List.set_cons_zero, List.set_cons_succ]
            refine takeD (i := 9) (some 40) (v := .slice (some a) L.length c5) rfl rfl (by kernel_rfl) (by kernel_rfl) (by kernel_rfl) (fun _ _ _ h => h) (.inl ⟨by rfl, fun w' hw' => by rfl⟩) HSW9.out ?_
            simp only [Act.put, List.setIfInBounds_toArray, List.set_cons_zero, List.set_cons_succ]
            refine takeD (i := 10) (some 41) (v := .int .i64 (q : Int)) rfl rfl (by kernel_rfl) (by kernel_rfl) (by kernel_rfl) (fun _ _ _ h => h) (.inl ⟨by rfl, fun w' hw' => by rfl⟩) HSW9.out ?_
            simp only [Act.put, List.setIfInBounds_toArray, List.set_cons_zero, List.set_cons_succ]
            refine takeD (i := 11) (some 42) (v := .pointer (some (a.add (q * 5)))) rfl rfl (by kernel_rfl) (by kernel_rfl) (by kernel_rfl) (fun _ _ _ h => h) (.inl ⟨by rfl, fun w' hw' => by rw [hS9] at hw'; obtain ⟨q1, q2, q3, q4, q5, q6, q7, q8, q9, q10, q11, q12⟩ := hw'; go_simp⟩) HSW9.out ?_
            simp only [Act.put, List.setIfInBounds_toArray, List.set_cons_zero, List.set_cons_succ]
            refine takeD (i := 12) (some 43) (v := .agg #[.int .i64 (i0 : Int), .int .i64 xv, .int .i64 xw, .string xt, .bool xo]) rfl rfl (by kernel_rfl) (by kernel_rfl) (by kernel_rfl) (fun _ _ _ h => h) (.inl ⟨by rfl, fun w' hw' => by rw [hS9] at hw'; obtain ⟨q1, q2, q3, q4, q5, q6, q7, q8, q9, q10, q11, q12⟩ := hw'; go_simp⟩) HSW9.out ?_
            simp only [Act.put, List.setIfInBounds_toArray, List.set_cons_zero, List.set_cons_succ]
            refine takeD (i := 13) (some 44) (v := .bool true) rfl rfl (by kernel_rfl) (by kernel_rfl) (by kernel_rfl) (fun _ _ _ h => h) (.inl ⟨by rfl, fun w' hw' => by rw [hS9] at hw'; obtain ⟨q1, q2, q3, q4, q5, q6, q7, q8, q9, q10, q11, q12⟩ := hw'; go_simp⟩) HSW9.out ?_
            simp only [Act.put, List.setIfInBounds_toArray, List.set_cons_zero, List.set_cons_succ]
            refine takeD (i := 14) (some 45) (v := .bool true) rfl rfl (by kernel_rfl) (by kernel_rfl) (by kernel_rfl) (fun _ _ _ h => h) (.inl ⟨by rfl, fun w' hw' => by rfl⟩) HSW9.out ?_
            simp only [Act.put, List.setIfInBounds_toArray, List.set_cons_zero, List.set_cons_succ]
            refine takeD (i := 15) (some 46) (v := .slice (some a) L.length c5) rfl rfl (by kernel_rfl) (by kernel_rfl) (by kernel_rfl) (fun _ _ _ h => h) (.inl ⟨by rfl, fun w' hw' => by rfl⟩) HSW9.out ?_
            simp only [Act.put, List.setIfInBounds_toArray, List.set_cons_zero, List.set_cons_succ]
            refine takeD (i := 16) (some 47) (v := .int .i64 (q : Int)) rfl rfl (by kernel_rfl) (by kernel_rfl) (by kernel_rfl) (fun _ _ _ h => h) (.inl ⟨by rfl, fun w' hw' => by rfl⟩) HSW9.out ?_
            simp only [Act.put, List.setIfInBounds_toArray, List.set_cons_zero, List.set_cons_succ]
            refine takeD (i := 17) (some 48) (v := .pointer (some (a.add (q * 5)))) rfl rfl (by kernel_rfl) (by kernel_rfl) (by kernel_rfl) (fun _ _ _ h => h) (.inl ⟨by rfl, fun w' hw' => by rw [hS9] at hw'; obtain ⟨q1, q2, q3, q4, q5, q6, q7, q8, q9, q10, q11, q12⟩ := hw'; go_simp⟩) HSW9.out ?_
            simp only [Act.put, List.setIfInBounds_toArray, List.set_cons_zero, List.set_cons_succ]
            refine takeD (i := 18) (some 49) (v := .agg #[.int .i64 (i0 : Int), .int .i64 xv, .int .i64 xw, .string xt, .bool xo]) rfl rfl (by kernel_rfl) (by kernel_rfl) (by kernel_rfl) (fun _ _ _ h => h) (.inl ⟨by rfl, fun w' hw' => by rw [hS9] at hw'; obtain ⟨q1, q2, q3, q4, q5, q6, q7, q8, q9, q10, q11, q12⟩ := hw'; go_simp⟩) HSW9.out ?_
            simp only [Act.put, List.setIfInBounds_toArray, List.set_cons_zero, List.set_cons_succ]
            refine takeD (i := 19) (some 50) (v := .agg #[.int .i64 was.slot, .int .i64 was.ver, .int .i64 was.who, .string was.val, .bool was.opn]) rfl rfl (by kernel_rfl) (by kernel_rfl) (by kernel_rfl) (fun _ _ _ h => h) (.inl ⟨by rfl, fun w' hw' => by rw [hS9] at hw'; obtain ⟨q1, q2, q3, q4, q5, q6, q7, q8, q9, q10, q11, q12⟩ := hw'; go_simp⟩) HSW9.out ?_
            simp only [Act.put, List.setIfInBounds_toArray, List.set_cons_zero, List.set_cons_succ]
            refine wpAnyH_ready (rs := [20]) (by kernel_rfl) (by simp) ?_
            refine AllReadyH.cons rfl (fun K hK => ?_) AllReadyH.nil
            go_simp
            go_at_call 19
            refine (rLater_any (⟨(i0 : Int), xv, xw, xt, xo⟩ : Told) was _).mono ?_
            rintro e9 w10 ⟨rfl, hb10⟩
            rw [hlat]
            have HB10 : Hid (Below w8.heap.size w8 w10) := Lib.hid ((Below.refl w8.heap.size w8).drew.trans hb10)
            have HSV := HSW9
            have HSW9 : Hid (S9 w10) := Lib.hid (by
              have hq := HSV.out
              rw [hS9] at hq ⊢
              obtain ⟨q1, q2, q3, q4, q5, q6, q7, q8, q9, q10, q11, q12⟩ := hq
              have c : ∀ p : Addr, p.block < w8.heap.size → w10.cell? p = w8.drew.cell? p := fun p hp => hb10.cell hp
              have hz := HB8.out.size
              have s9 := (HR6.out.sf.grown (row := none) (w' := w10) (only_of_below (HB8.out.trans (HB10.out.mono HB8.out.size)) none) (by simp))
              exact ⟨(c _ (Nat.lt_of_lt_of_le hbs hz)).trans q1, (c _ (Nat.lt_of_lt_of_le hal hz)).trans q2, (c ⟨(a.add (q * 5)).block, (a.add (q * 5)).off + 1, none⟩ (Nat.lt_of_lt_of_le hal hz)).trans q3, (c ⟨(a.add (q * 5)).block, (a.add (q * 5)).off + 2, none⟩ (Nat.lt_of_lt_of_le hal hz)).trans q4, (c ⟨(a.add (q * 5)).block, (a.add (q * 5)).off + 3, none⟩ (Nat.lt_of_lt_of_le hal hz)).trans q5, (c ⟨(a.add (q * 5)).block, (a.add (q * 5)).off + 4, none⟩ (Nat.lt_of_lt_of_le hal hz)).trans q6, (c _ hlt8).trans q7, (c _ hlt8).trans q8, (c _ hlt8).trans q9, (c _ hlt8).trans q10, (c _ hlt8).trans q11, HLS.out _ s9⟩)
            have HBX : Hid (Below wr.heap.size wr w10) := Lib.hid (HB8.out.trans (HB10.out.mono HB8.out.size))
            clear hb10 HSV hlat
            go_wp2_with fail
            refine hK.out _ _ HSW9.out (fun hcd => ?_)
            clear hK K hcd
            try simp only [Act.put, List.setIfInBounds_toArray, List.set_cons_zero, List.set_cons_succ]
            refine takeD (i := 21) (some 52) (v := .bool false) rfl rfl (by kernel_rfl) (by kernel_rfl) (by kernel_rfl) (fun _ _ _ h => h) (.inl ⟨by rfl, fun w' hw' => by rw [hS9] at hw'; obtain ⟨q1, q2, q3, q4, q5, q6, q7, q8, q9, q10, q11, q12⟩ := hw'; go_simp⟩) HSW9.out ?_
            simp only [Act.put, List.setIfInBounds_toArray, List.set_cons_zero, List.set_cons_succ]
            refine takeD (i := 22) (some 53) (v := .bool false) rfl rfl (by kernel_rfl) (by kernel_rfl) (by kernel_rfl) (fun _ _ _ h => h) (.inl ⟨by rfl, fun w' hw' => by rw [hS9] at hw'; obtain ⟨q1, q2, q3, q4, q5, q6, q7, q8, q9, q10, q11, q12⟩ := hw'; go_simp⟩) HSW9.out ?_
            simp only [Act.put, List.setIfInBounds_toArray, List.set_cons_zero, List.set_cons_succ]
            refine takeD (i := 23) (some 54) (v := .bool false) rfl rfl (by kernel_rfl) (by kernel_rfl) (by kernel_rfl) (fun _ _ _ h => h) (.inl ⟨by rfl, fun w' hw' => by rw [hS9] at hw'; obtain ⟨q1, q2, q3, q4, q5, q6, q7, q8, q9, q10, q11, q12⟩ := hw'; go_simp⟩) HSW9.out ?_
            simp only [Act.put, List.setIfInBounds_toArray, List.set_cons_zero, List.set_cons_succ]
            refine wpAnyH_done (by kernel_rfl) ?_ _
            clear HEQ hS9 HSW9 hab2
            go_wp2_with fail
            have hFX := HF6.out.grown (row := none) (w' := (w10)) (only_of_below HBX.out none) (by simp)
            have hFXd := hFX.grown (row := none) (w' := (w10).drew) (only_drew (only_of_below (Below.refl _ _) none)) (by simp)
            obtain ⟨w12, hrun, hF12, hg12⟩ := hFXd.store lawTwo Try.underlying48 (by unfold maxLen; omega) HKEY.out (.agg #[.int .i64 (i0 : Int), .int .i64 xv, .int .i64 xw, .string xt, .bool xo])
            have HF12 := Lib.hid hF12
            have HG12 := Lib.hid hg12
            have HSWE : Hid ((w10).drew.cell? ⟨bl, 0, none⟩ = some (.map (some lm)) ∧ (w10).drew.cell? (a.add (q * 5)) = some (.int .i64 (i0 : Int)) ∧ (w10).drew.cell? ⟨(a.add (q * 5)).block, (a.add (q * 5)).off + 1, none⟩ = some (.int .i64 xv) ∧ (w10).drew.cell? ⟨(a.add (q * 5)).block, (a.add (q * 5)).off + 2, none⟩ = some (.int .i64 xw) ∧ (w10).drew.cell? ⟨(a.add (q * 5)).block, (a.add (q * 5)).off + 3, none⟩ = some (.string xt) ∧ (w10).drew.cell? ⟨(a.add (q * 5)).block, (a.add (q * 5)).off + 4, none⟩ = some (.bool xo)) :=
              Lib.hid ⟨(HBX.out.cell (p := ⟨bl, 0, none⟩) hbl).trans HC.out.1, (HBX.out.cell (p := a.add (q * 5)) hal).trans HC.out.2.2.1, (HBX.out.cell (p := ⟨(a.add (q * 5)).block, (a.add (q * 5)).off + 1, none⟩) hal).trans HC.out.2.2.2.1, (HBX.out.cell (p := ⟨(a.add (q * 5)).block, (a.add (q * 5)).off + 2, none⟩) hal).trans HC.out.2.2.2.2.1, (HBX.out.cell (p := ⟨(a.add (q * 5)).block, (a.add (q * 5)).off + 3, none⟩) hal).trans HC.out.2.2.2.2.2.1, (HBX.out.cell (p := ⟨(a.add (q * 5)).block, (a.add (q * 5)).off + 4, none⟩) hal).trans HC.out.2.2.2.2.2.2⟩
            clear hFX hFXd hF12 hg12
            go_wp2_with fail
            refine wp_region_peel (n := 12) (peel_of (by kernel_rfl)) (by kernel_rfl) ?_
            refine wpAny_of_held (S := fun w' => w'.cell? ⟨bl, 0, none⟩ = some (.map (some lm)) ∧ w'.cell? (a.add (q * 5)) = some (.int .i64 (i0 : Int)) ∧ w'.cell? ⟨(a.add (q * 5)).block, (a.add (q * 5)).off + 1, none⟩ = some (.int .i64 xv) ∧ w'.cell? ⟨(a.add (q * 5)).block, (a.add (q * 5)).off + 2, none⟩ = some (.int .i64 xw) ∧ w'.cell? ⟨(a.add (q * 5)).block, (a.add (q * 5)).off + 3, none⟩ = some (.string xt) ∧ w'.cell? ⟨(a.add (q * 5)).block, (a.add (q * 5)).off + 4, none⟩ = some (.bool xo)) _ _ _ _ ?_
            refine takeD (i := 0) (some 55) (v := .map (some lm)) rfl rfl (by kernel_rfl) (by kernel_rfl) (by kernel_rfl) (fun _ _ _ h => h) (.inl ⟨by rfl, fun w' hw' => by obtain ⟨q1, q2, q3, q4, q5, q6⟩ := hw'; go_simp⟩) HSWE.out ?_
            simp only [Act.put, List.setIfInBounds_toArray, List.set_cons_zero, List.set_cons_succ]
            refine takeD (i := 1) (some 56) (v := .int .i64 (kk : Int)) rfl rfl (by kernel_rfl) (by kernel_rfl) (by kernel_rfl) (fun _ _ _ h => h) (.inl ⟨by rfl, fun w' hw' => by rfl⟩) HSWE.out ?_
            simp only [Act.put, List.setIfInBounds_toArray, List.set_cons_zero, List.set_cons_succ]
            refine takeD (i := 2) (some 57) (v := .slice (some a) L.length c5) rfl rfl (by kernel_rfl) (by kernel_rfl) (by kernel_rfl) (fun _ _ _ h => h) (.inl ⟨by rfl, fun w' hw' => by rfl⟩) HSWE.out ?_
            simp only [Act.put, List.setIfInBounds_toArray, List.set_cons_zero, List.set_cons_succ]
            refine takeD (i := 3) (some 58) (v := .int .i64 (q : Int)) rfl rfl (by kernel_rfl) (by kernel_rfl) (by kernel_rfl) (fun _ _ _ h => h) (.inl ⟨by rfl, fun w' hw' => by rfl⟩) HSWE.out ?_
            simp only [Act.put, List.setIfInBounds_toArray, List.set_cons_zero, List.set_cons_succ]
            refine takeD (i := 4) (some 59) (v := .pointer (some (a.add (q * 5)))) rfl rfl (by kernel_rfl) (by kernel_rfl) (by kernel_rfl) (fun _ _ _ h => h) (.inl ⟨by rfl, fun w' hw' => by obtain ⟨q1, q2, q3, q4, q5, q6⟩ := hw'; go_simp⟩) HSWE.out ?_
            simp only [Act.put, List.setIfInBounds_toArray, List.set_cons_zero, List.set_cons_succ]
            refine takeD (i := 5) (some 60) (v := .pointer (some (a.add (q * 5)))) rfl rfl (by kernel_rfl) (by kernel_rfl) (by kernel_rfl) (fun _ _ _ h => h) (.inl ⟨by rfl, fun w' hw' => by obtain ⟨q1, q2, q3, q4, q5, q6⟩ := hw'; go_simp⟩) HSWE.out ?_
            simp only [Act.put, List.setIfInBounds_toArray, List.set_cons_zero, List.set_cons_succ]
            refine takeD (i := 6) (some 61) (v := .int .i64 (i0 : Int)) rfl rfl (by kernel_rfl) (by kernel_rfl) (by kernel_rfl) (fun _ _ _ h => h) (.inl ⟨by rfl, fun w' hw' => by obtain ⟨q1, q2, q3, q4, q5, q6⟩ := hw'; go_simp⟩) HSWE.out ?_
            simp only [Act.put, List.setIfInBounds_toArray, List.set_cons_zero, List.set_cons_succ]
            refine takeD (i := 7) (some 62) (v := .agg #[.int .i64 (kk : Int), .int .i64 (i0 : Int)]) rfl rfl (by kernel_rfl) (by kernel_rfl) (by kernel_rfl) (fun _ _ _ h => h) (.inl ⟨by rfl, fun w' hw' => by obtain ⟨q1, q2, q3, q4, q5, q6⟩ := hw'; go_simp⟩) HSWE.out ?_
            simp only [Act.put, List.setIfInBounds_toArray, List.set_cons_zero, List.set_cons_succ]
            refine takeD (i := 8) (some 63) (v := .slice (some a) L.length c5) rfl rfl (by kernel_rfl) (by kernel_rfl) (by kernel_rfl) (fun _ _ _ h => h) (.inl ⟨by rfl, fun w' hw' => by rfl⟩) HSWE.out ?_
            simp only [Act.put, List.setIfInBounds_toArray, List.set_cons_zero, List.set_cons_succ]
            refine takeD (i := 9) (some 64) (v := .int .i64 (q : Int)) rfl rfl (by kernel_rfl) (by kernel_rfl) (by kernel_rfl) (fun _ _ _ h => h) (.inl ⟨by rfl, fun w' hw' => by rfl⟩) HSWE.out ?_
            simp only [Act.put, List.setIfInBounds_toArray, List.set_cons_zero, List.set_cons_succ]
            refine takeD (i := 10) (some 65) (v := .pointer (some (a.add (q * 5)))) rfl rfl (by kernel_rfl) (by kernel_rfl) (by kernel_rfl) (fun _ _ _ h => h) (.inl ⟨by rfl, fun w' hw' => by obtain ⟨q1, q2, q3, q4, q5, q6⟩ := hw'; go_simp⟩) HSWE.out ?_
            simp only [Act.put, List.setIfInBounds_toArray, List.set_cons_zero, List.set_cons_succ]
            refine takeD (i := 11) (some 66) (v := .agg #[.int .i64 (i0 : Int), .int .i64 xv, .int .i64 xw, .string xt, .bool xo]) rfl rfl (by kernel_rfl) (by kernel_rfl) (by kernel_rfl) (fun _ _ _ h => h) (.inl ⟨by rfl, fun w' hw' => by obtain ⟨q1, q2, q3, q4, q5, q6⟩ := hw'; go_simp⟩) HSWE.out ?_
            simp only [Act.put, List.setIfInBounds_toArray, List.set_cons_zero, List.set_cons_succ]
            refine wpAnyH_done (by kernel_rfl) ?_ _
            refine peelQ_step rfl (fun K hK => ?_)
            rw [show two2 (kk : Int) (i0 : Int) = .agg #[.int .i64 (kk : Int), .int .i64 (i0 : Int)] from rfl] at hrun
            go_simp
            refine hK _ _ ?_
            clear hK K
            go_wp2
            go_roundw
            case rel => exact ⟨q + 1, by omega, by go_num, Lib.hid (HGX.out.trans ((only_drew (only_of_below HBX.out _)).trans HG12.out)), Lib.hid ⟨HG0.out.trans ((only_drew (only_of_below HBX.out _)).trans HG12.out), m + 1, set2 LA6 kk i0 e0.t, _, by omega, HF12.out, by rw [he0]; exact HT6.out.put kk i0 ⟨(i0 : Int), xv, xw, xt, xo⟩, HP6.out.set_ hi0 hv0, HPR.out.set_ (HZ.out kk hk2) hi0 HQ.out⟩⟩
            case measure => simp [intOf]; omega
        · go_wp2
          go_roundw
          case rel => exact ⟨kk + 1, by omega, by go_num, Lib.hid (by
            obtain ⟨hg, m, LA, f, h1, h2, h3, h4, h5⟩ := HS6.out
            exact ⟨hg, m, LA, f, by omega, h2, h3, h4, h5.next (by rw [hLL]; omega)⟩)⟩
          case measure => simp [intOf]; omega
    · go_wp2
      go_ret
      obtain ⟨hg, m, LA, f, h1, h2, h3, h4, h5⟩ := HSE.out
      have : kk = 2 := by omega
      subst this
      exact ⟨rfl, hg, m, LA, f, by omega, h2, h3, h5.seen h4⟩
end Go.Proofs.Ytmghigmegiainaa
