/- Spelling: the texts of a text's units, by the document. -/
import Derived.Test.YtdepkpnicfcbiaaSp1
import Derived.Test.YtdepkpnicfcbiaaPl
namespace Go.Proofs.Ytdepkpnicfcbiaa
open Go.RowKit

set_option maxRecDepth 100000 in
set_option maxHeartbeats 4000000 in
theorem rTexts_any (s : ByteArray) (hs : s.size ≤ 4294967296) (w : World) :
    Calls Try.prog 6 #[.string s] w fun e w' => ∃ v, e = .returned v ∧ w'.ownsRow w.heap.size 9 1 v (txts s).length (strs (txts s)) ∧ Below w.heap.size w w' := by
  have hll := units_len s s.size 0
  have HT : Hid (txts s = (unitsFrom s s.size 0).map (txt1 s)) := Lib.hid rfl
  have HM := Lib.hid (unit_mem s s.size 0)
  generalize txts s = tx at *
  obtain ⟨i0, hi, hz0, hz1, hz2⟩ := info_parts infoSTR
  go_enter Try.func6, Try.ntmps6
  go_wp2_with fail
  refine (rUnits_any s hs _).mono ?_
  rintro e w2 ⟨v, rfl, hown, hb2⟩
  generalize unitsFrom s s.size 0 = l at *
  obtain ⟨A, c, rfl⟩ := own_slice hown
  have HB2 := Lib.hid hb2
  have HR0 : Hid (TxtRel s l (.slice A l.length c) (.slice none 0 0) w w2 w2 0) := Lib.hid ⟨ownsRow_none _ _ _ _, hown, Below.refl _ _⟩
  have hz := hb2.size
  have HGL : Hid (∀ g, (Value.slice A l.length c).ownBlock = some g → g < w2.heap.size) := Lib.hid fun g hg => own_lt hown g hg
  clear hown hb2
  go_wp2
  go_loopw [3, 5] (fun out i wr => ∃ k : Nat, k ≤ l.length ∧ i = .int .i64 (k : Int) ∧ Hid (TxtRel s l (.slice A l.length c) out w w2 wr k)) (fun _ i _ => l.length - (intOf i).toNat)
  case atStart => exact ⟨0, by omega, rfl, HR0⟩
  case round =>
    obtain ⟨k, hk, rfl, HR⟩ := hrel
    clear HR0
    by_cases hlt : k < l.length
    · obtain ⟨hout, hrow, hbel⟩ := HR.out
      have hgl0 := HGL.out
      obtain ⟨g, rfl, _, hg1, hg2, c0, c1, c2⟩ := row3_at hrow hlt
      have hgl : g < w2.heap.size := hgl0 g rfl
      clear hgl0
      obtain ⟨a, ha, he⟩ := HM.out _ (List.getElem_mem hlt)
      have hx : txt1 s (l[k]'hlt) = s.extract a (a + (atR s a).2).toNat := by rw [he]; unfold txt1; simp
      rw [he] at c0 c1 c2
      dsimp only at c0 c1 c2
      have h1 := atR_2 s a
      have h2 := atR_end s a ha
      have hwr : IntKind.i64.wrap ((a : Int) + (atR s a).2) = (a : Int) + (atR s a).2 := by rw [IntKind.wrap_i64]; omega
      have hHW : Hid (Below w2.heap.size w2 wr) := Lib.hid hbel
      have HROW := Lib.hid hrow
      have HOUT := Lib.hid hout
      have hzr := hbel.size
      have hA2 : Hid (Below w2.heap.size w2 (wr.alloc (.cells #[.string (s.extract a (a + (atR s a).2).toNat)] 9)).drew) := Lib.hid ((hbel.alloc hzr _).drew)
      have HSW : Hid (wr.drew.cell? ⟨g, k * 3, none⟩ = some (.int .i64 (a : Int)) ∧ wr.drew.cell? ⟨g, k * 3 + 1, none⟩ = some (.int .i64 (atR s a).2)) := Lib.hid ⟨c0, c1⟩
      have hkl : (k : Int) < (l.length : Int) := by omega
      have ht1 : ((a : Int)).toNat = a := by omega
      have hp1 : (a : Int) ≤ (a : Int) + (atR s a).2 := by omega
      clear hout hrow hbel HR c0 c1 c2
      go_wp2_with fail
      refine wp_region_any (by kernel_rfl) ?_
      change wpAny _ _ _ _ _ _ _ (World.drew wr)
      refine wpAny_of_held (S := fun w' => w'.cell? ⟨g, k * 3, none⟩ = some (.int .i64 (a : Int)) ∧ w'.cell? ⟨g, k * 3 + 1, none⟩ = some (.int .i64 (atR s a).2)) _ _ _ _ ?_
      refine takeD (i := 0) (some 14) (v := u3) rfl rfl (by kernel_rfl) (by kernel_rfl) (by kernel_rfl) (fun _ _ _ h => h) (.inl ⟨by rfl, fun w' hw' => by rfl⟩) HSW.out ?_
      simp only [Act.put, List.setIfInBounds_toArray, List.set_cons_zero, List.set_cons_succ]
      refine takeD (i := 1) (some 15) (v := .string s) rfl rfl (by kernel_rfl) (by kernel_rfl) (by kernel_rfl) (fun _ _ _ h => h) (.inl ⟨by rfl, fun w' hw' => by rfl⟩) HSW.out ?_
      simp only [Act.put, List.setIfInBounds_toArray, List.set_cons_zero, List.set_cons_succ]
      refine takeD (i := 2) (some 16) (v := .slice (some ⟨g, 0, none⟩) l.length c) rfl rfl (by kernel_rfl) (by kernel_rfl) (by kernel_rfl) (fun _ _ _ h => h) (.inl ⟨by rfl, fun w' hw' => by rfl⟩) HSW.out ?_
      simp only [Act.put, List.setIfInBounds_toArray, List.set_cons_zero, List.set_cons_succ]
      refine takeD (i := 3) (some 17) (v := .int .i64 (k : Int)) rfl rfl (by kernel_rfl) (by kernel_rfl) (by kernel_rfl) (fun _ _ _ h => h) (.inl ⟨by rfl, fun w' hw' => by rfl⟩) HSW.out ?_
      simp only [Act.put, List.setIfInBounds_toArray, List.set_cons_zero, List.set_cons_succ]
      refine takeD (i := 4) (some 18) (v := .pointer (some ⟨g, k * 3, none⟩)) rfl rfl (by kernel_rfl) (by kernel_rfl) (by kernel_rfl) (fun _ _ _ h => h) (.inl ⟨by rfl, fun w' hw' => by obtain ⟨q1, q2⟩ := hw'; go_simp⟩) HSW.out ?_
      simp only [Act.put, List.setIfInBounds_toArray, List.set_cons_zero, List.set_cons_succ]
      refine takeD (i := 5) (some 19) (v := .pointer (some ⟨g, k * 3, none⟩)) rfl rfl (by kernel_rfl) (by kernel_rfl) (by kernel_rfl) (fun _ _ _ h => h) (.inl ⟨by rfl, fun w' hw' => by obtain ⟨q1, q2⟩ := hw'; go_simp⟩) HSW.out ?_
      simp only [Act.put, List.setIfInBounds_toArray, List.set_cons_zero, List.set_cons_succ]
      refine takeD (i := 6) (some 20) (v := .int .i64 (a : Int)) rfl rfl (by kernel_rfl) (by kernel_rfl) (by kernel_rfl) (fun _ _ _ h => h) (.inl ⟨by rfl, fun w' hw' => by obtain ⟨q1, q2⟩ := hw'; go_simp⟩) HSW.out ?_
      simp only [Act.put, List.setIfInBounds_toArray, List.set_cons_zero, List.set_cons_succ]
      refine takeD (i := 7) (some 21) (v := .slice (some ⟨g, 0, none⟩) l.length c) rfl rfl (by kernel_rfl) (by kernel_rfl) (by kernel_rfl) (fun _ _ _ h => h) (.inl ⟨by rfl, fun w' hw' => by rfl⟩) HSW.out ?_
      simp only [Act.put, List.setIfInBounds_toArray, List.set_cons_zero, List.set_cons_succ]
      refine takeD (i := 8) (some 22) (v := .int .i64 (k : Int)) rfl rfl (by kernel_rfl) (by kernel_rfl) (by kernel_rfl) (fun _ _ _ h => h) (.inl ⟨by rfl, fun w' hw' => by rfl⟩) HSW.out ?_
      simp only [Act.put, List.setIfInBounds_toArray, List.set_cons_zero, List.set_cons_succ]
      refine takeD (i := 9) (some 23) (v := .pointer (some ⟨g, k * 3, none⟩)) rfl rfl (by kernel_rfl) (by kernel_rfl) (by kernel_rfl) (fun _ _ _ h => h) (.inl ⟨by rfl, fun w' hw' => by obtain ⟨q1, q2⟩ := hw'; go_simp⟩) HSW.out ?_
      simp only [Act.put, List.setIfInBounds_toArray, List.set_cons_zero, List.set_cons_succ]
      refine takeD (i := 10) (some 24) (v := .pointer (some ⟨g, k * 3, none⟩)) rfl rfl (by kernel_rfl) (by kernel_rfl) (by kernel_rfl) (fun _ _ _ h => h) (.inl ⟨by rfl, fun w' hw' => by obtain ⟨q1, q2⟩ := hw'; go_simp⟩) HSW.out ?_
      simp only [Act.put, List.setIfInBounds_toArray, List.set_cons_zero, List.set_cons_succ]
      refine takeD (i := 11) (some 25) (v := .int .i64 (a : Int)) rfl rfl (by kernel_rfl) (by kernel_rfl) (by kernel_rfl) (fun _ _ _ h => h) (.inl ⟨by rfl, fun w' hw' => by obtain ⟨q1, q2⟩ := hw'; go_simp⟩) HSW.out ?_
      simp only [Act.put, List.setIfInBounds_toArray, List.set_cons_zero, List.set_cons_succ]
      refine takeD (i := 12) (some 26) (v := .slice (some ⟨g, 0, none⟩) l.length c) rfl rfl (by kernel_rfl) (by kernel_rfl) (by kernel_rfl) (fun _ _ _ h => h) (.inl ⟨by rfl, fun w' hw' => by rfl⟩) HSW.out ?_
      simp only [Act.put, List.setIfInBounds_toArray, List.set_cons_zero, List.set_cons_succ]
      refine takeD (i := 13) (some 27) (v := .int .i64 (k : Int)) rfl rfl (by kernel_rfl) (by kernel_rfl) (by kernel_rfl) (fun _ _ _ h => h) (.inl ⟨by rfl, fun w' hw' => by rfl⟩) HSW.out ?_
      simp only [Act.put, List.setIfInBounds_toArray, List.set_cons_zero, List.set_cons_succ]
      refine takeD (i := 14) (some 28) (v := .pointer (some ⟨g, k * 3, none⟩)) rfl rfl (by kernel_rfl) (by kernel_rfl) (by kernel_rfl) (fun _ _ _ h => h) (.inl ⟨by rfl, fun w' hw' => by obtain ⟨q1, q2⟩ := hw'; go_simp⟩) HSW.out ?_
      simp only [Act.put, List.setIfInBounds_toArray, List.set_cons_zero, List.set_cons_succ]
      refine takeD (i := 15) (some 29) (v := .pointer (some ⟨g, k * 3 + 1, none⟩)) rfl rfl (by kernel_rfl) (by kernel_rfl) (by kernel_rfl) (fun _ _ _ h => h) (.inl ⟨by rfl, fun w' hw' => by obtain ⟨q1, q2⟩ := hw'; go_simp⟩) HSW.out ?_
      simp only [Act.put, List.setIfInBounds_toArray, List.set_cons_zero, List.set_cons_succ]
      refine takeD (i := 16) (some 30) (v := .int .i64 (atR s a).2) rfl rfl (by kernel_rfl) (by kernel_rfl) (by kernel_rfl) (fun _ _ _ h => h) (.inl ⟨by rfl, fun w' hw' => by obtain ⟨q1, q2⟩ := hw'; go_simp⟩) HSW.out ?_
      simp only [Act.put, List.setIfInBounds_toArray, List.set_cons_zero, List.set_cons_succ]
      refine takeD (i := 17) (some 31) (v := .int .i64 ((a : Int) + (atR s a).2)) rfl rfl (by kernel_rfl) (by kernel_rfl) (by kernel_rfl) (fun _ _ _ h => h) (.inl ⟨by rfl, fun w' hw' => by obtain ⟨q1, q2⟩ := hw'; go_simp⟩) HSW.out ?_
      simp only [Act.put, List.setIfInBounds_toArray, List.set_cons_zero, List.set_cons_succ]
      refine takeD (i := 18) (some 32) (v := .string (s.extract a (a + (atR s a).2).toNat)) rfl rfl (by kernel_rfl) (by kernel_rfl) (by kernel_rfl) (fun _ _ _ h => h) (.inl ⟨by rfl, fun w' hw' => by obtain ⟨q1, q2⟩ := hw'; go_simp⟩) HSW.out ?_
      simp only [Act.put, List.setIfInBounds_toArray, List.set_cons_zero, List.set_cons_succ]
      refine wpAnyH_ready (rs := [19]) (by kernel_rfl) (by simp) ?_
      refine AllReadyH.cons rfl (fun K hK => ?_) AllReadyH.nil
      go_simp
      have hc20 : ∀ p : Addr, p.block < wr.heap.size → (wr.alloc (.cells #[.string (s.extract a (a + (atR s a).2).toNat)] 9)).drew.cell? p = wr.drew.cell? p := fun p hp => World.cell?_alloc_lt _ _ _ hp
      have HSW20 : Hid ((wr.alloc (.cells #[.string (s.extract a (a + (atR s a).2).toNat)] 9)).drew.cell? ⟨g, k * 3, none⟩ = some (.int .i64 (a : Int)) ∧ (wr.alloc (.cells #[.string (s.extract a (a + (atR s a).2).toNat)] 9)).drew.cell? ⟨g, k * 3 + 1, none⟩ = some (.int .i64 (atR s a).2)) := Lib.hid ⟨(hc20 ⟨g, k * 3, none⟩ hg2).trans HSW.out.1, (hc20 ⟨g, k * 3 + 1, none⟩ hg2).trans HSW.out.2⟩
      refine hK.out _ _ HSW20.out (fun hcd => ?_)
      clear hK K hcd hc20
      refine wpAnyH_ready (rs := [20]) (by kernel_rfl) (by simp) ?_
      refine AllReadyH.cons rfl (fun K hK => ?_) AllReadyH.nil
      refine step_append_any _ (by rfl) (Operand.tmp 14) (Operand.tmp 33) 28 (by rfl) w2.heap.size 9 i0 _ 1 16 Try.underlying28 hi hz0 hz1 hz2 rfl (by omega) u3 k _ (by rfl) (by exact (HOUT.out.alloc _)) (wr.heap.size + 1) (some ⟨wr.heap.size, 0, none⟩) 1 1 [.string (s.extract a (a + (atR s a).2).toNat)] (by rfl) ⟨rfl, fun _ => ⟨_, rfl, by simp, cells_new _ [_] _⟩⟩ (by simp [Value.oneCell']) (by unfold maxLen; omega) (by omega) (by exact hA2.out.size) ?_
      intro v' w3 hown3 hg3 _
      have hb3 : Below w2.heap.size w2 w3 := hA2.out.grown hg3 hA2.out.size (own_ge HOUT.out)
      have hrd : ((wr.alloc (.cells #[.string (s.extract a (a + (atR s a).2).toNat)] 9)).drew).ownsRow w.heap.size 45 3 (.slice (some ⟨g, 0, none⟩) l.length c) l.length (unitCells l) := HROW.out.alloc _
      have hrow2 : w3.ownsRow w.heap.size 45 3 (.slice (some ⟨g, 0, none⟩) l.length c) l.length (unitCells l) := hrd.kept hg3 (.inr fun e => by
        have hlt2 : g < w2.heap.size := hgl
        have e' : u3.ownBlock = some g := by rw [← e]; rfl
        have := own_ge HOUT.out g e'; omega)
      have HR3 : Hid (TxtRel s l (.slice (some ⟨g, 0, none⟩) l.length c) v' w w2 w3 (k + 1)) := Lib.hid ⟨by
        rw [List.take_add_one, List.getElem?_eq_getElem hlt, List.map_append]
        simp only [strs, List.map_append, List.map_take, Option.toList, List.map_cons, List.map_nil] at hown3 ⊢
        rw [hx]; exact hown3, hrow2, hb3⟩
      have hgne : some g ≠ u3.ownBlock := fun e => by
        have := own_ge HOUT.out g e.symm; omega
      have hsz2 : g < (wr.alloc (.cells #[.string (s.extract a (a + (atR s a).2).toNat)] 9)).drew.heap.size := Nat.lt_of_lt_of_le hgl hA2.out.size
      have hc3 : ∀ p : Addr, p.block = g → w3.cell? p = (wr.alloc (.cells #[.string (s.extract a (a + (atR s a).2).toNat)] 9)).drew.cell? p := fun p hp => World.cell?_of_block (hg3.block p.block (by rw [hp]; exact hsz2) (by rw [hp]; exact hgne))
      have hsw3 := And.intro ((hc3 ⟨g, k * 3, none⟩ rfl).trans HSW20.out.1) ((hc3 ⟨g, k * 3 + 1, none⟩ rfl).trans HSW20.out.2)
      refine hK.out _ _ hsw3 (fun hcd => ?_)
      clear hK K hcd hc3
      refine takeD (i := 21) (some 3) (v := v') rfl rfl (by kernel_rfl) (by kernel_rfl) (by kernel_rfl) (fun _ _ _ h => h) (.inl ⟨by rfl, fun w' hw' => by rfl⟩) hsw3 ?_
      refine wpAnyH_done (by kernel_rfl) ?_ _
      clear hsw3
      clear hown3 hg3 hb3 hrow2 HROW HOUT hA2 hHW HSW HSW20
      go_wp2
      go_roundw
      case rel => exact ⟨k + 1, by omega, by go_num, HR3⟩
      case measure => simp [intOf]; omega
    · go_wp2
      go_ret
      obtain ⟨hout, hrow, hbel⟩ := HR.out
      have hkl : k = l.length := by omega
      subst hkl
      rw [List.take_length, ← HT.out] at hout
      have hlx : tx.length = l.length := by rw [HT.out, List.length_map]
      exact ⟨_, rfl, by rw [hlx]; exact own_lo hout hz, HB2.out.trans (hbel.mono hz)⟩
end Go.Proofs.Ytdepkpnicfcbiaa
