/- Spelling: the texts of a text's units; what is too long. -/
import Derived.Test.YtdepkpnicfcbiaaA3
import Derived.Test.YtdepkpnicfcbiaaRo
import Derived.OwnWalk
import Derived.Lib.SliceRun
namespace Go.Proofs.Ytdepkpnicfcbiaa
open Go.RowKit

abbrev Tri := Int × Int × Int
/-- the units lie side by side from a to z -/
def contig : List Tri → Int → Int → Prop
  | [], a, z => a = z
  | u :: r, a, z => u.1 = a ∧ contig r (a + u.2.1) z
theorem units_contig (s : ByteArray) : ∀ (n a : Nat), a ≤ s.size → s.size - a ≤ n → contig (unitsFrom s n a) a s.size
  | 0, a, h, hn => by simp only [unitsFrom, contig]; omega
  | n + 1, a, h, hn => by
    rw [unitsFrom]
    split
    · rename_i hlt
      have h1 := atR_2 s a; have h2 := atR_end s a hlt
      simp only [contig, true_and]
      have := units_contig s n (a + (atR s a).2.toNat) (by omega) (by omega)
      rw [show (((a + (atR s a).2.toNat : Nat)) : Int) = (a : Int) + (atR s a).2 by omega] at this
      exact this
    · simp only [contig]; omega
theorem unit_mem (s : ByteArray) : ∀ (n a : Nat) (u : Int × Int × Int), u ∈ unitsFrom s n a → ∃ b : Nat, b < s.size ∧ u = ((b : Int), (atR s b).2, (atR s b).1)
  | 0, _, u, h => by simp [unitsFrom] at h
  | n + 1, a, u, h => by
    rw [unitsFrom] at h
    split at h
    · rcases List.mem_cons.1 h with rfl | h
      · exact ⟨a, by assumption, rfl⟩
      · exact unit_mem s n _ u h
    · simp at h
theorem units_len (s : ByteArray) : ∀ (n a : Nat), (unitsFrom s n a).length ≤ n
  | 0, _ => by simp [unitsFrom]
  | n + 1, a => by
    rw [unitsFrom]; split
    · have := units_len s n (a + (atR s a).2.toNat); simp; omega
    · simp
def strs (l : List ByteArray) : List Value := l.map Value.string
theorem strs_one (l : List ByteArray) : ∀ u ∈ strs l, u.oneCell' = true := by
  intro u hu; simp only [strs, List.mem_map] at hu; obtain ⟨x, _, rfl⟩ := hu; rfl
def txt1 (s : ByteArray) (u : Tri) : ByteArray := s.extract u.1.toNat (u.1 + u.2.1).toNat
def txts (s : ByteArray) : List ByteArray := (unitsFrom s s.size 0).map (txt1 s)
theorem txts_len (s : ByteArray) : (txts s).length ≤ s.size := by unfold txts; rw [List.length_map]; exact units_len s s.size 0
theorem own_lo {w : World} {B B' e size n : Nat} {v : Value} {xs : List Value} (h : w.ownsRow B e size v n xs) (hb : B' ≤ B) : w.ownsRow B' e size v n xs := by
  refine ⟨h.1, ?_⟩
  rcases h.2 with h2 | ⟨g, cap, cur, hv, hB, hr⟩
  · exact .inl h2
  · exact .inr ⟨g, cap, cur, hv, Nat.le_trans hb hB, hr⟩
theorem txt1_size (s : ByteArray) (u : Tri) : (txt1 s u).size ≤ s.size := by unfold txt1; rw [ByteArray.size_extract]; omega
theorem infoSTR : (Try.prog.info? 9).map (fun i => (i.zero, i.size, i.bytes)) = some (some (.string ⟨#[]⟩), 1, 16) := by kernel_rfl
/-- what a round hands on -/
def TxtRel (s : ByteArray) (l : List Tri) (v out : Value) (w w2 wr : World) (k : Nat) : Prop :=
  wr.ownsRow w2.heap.size 9 1 out k (strs ((l.take k).map (txt1 s))) ∧ wr.ownsRow w.heap.size 45 3 v l.length (unitCells l) ∧ Below w2.heap.size w2 wr

set_option maxRecDepth 100000 in
set_option maxHeartbeats 4000000 in
theorem units2_any (s : ByteArray) (hs : s.size ≤ 4294967296) (w : World) :
    Calls Try.prog 11 #[.string s] w fun e w' => ∃ v, e = .returned v ∧ w'.ownsRow w.heap.size 9 1 v (txts s).length (strs (txts s)) ∧ Below w.heap.size w w' := by
  have hll := units_len s s.size 0
  have HT : Hid (txts s = (unitsFrom s s.size 0).map (txt1 s)) := Lib.hid rfl
  have HM := Lib.hid (unit_mem s s.size 0)
  generalize txts s = tx at *
  obtain ⟨i0, hi, hz0, hz1, hz2⟩ := info_parts infoSTR
  go_enter Try.func11, Try.ntmps11
  go_wp2_with fail
  refine (units_any s hs _).mono ?_
  rintro e w2 ⟨v, rfl, hown, hb2⟩
  generalize unitsFrom s s.size 0 = l at *
  obtain ⟨A, c, rfl⟩ := own_slice hown
  have HB2 := Lib.hid hb2
  have HR0 : Hid (TxtRel s l (.slice A l.length c) (.slice none 0 0) w w2 w2 0) := Lib.hid ⟨ownsRow_none _ _ _ _, hown, Below.refl _ _⟩
  have hz := hb2.size
  have HGL : Hid (∀ g, (Value.slice A l.length c).ownBlock = some g → g < w2.heap.size) := Lib.hid fun g hg => own_lt hown g hg
  clear hown hb2
  go_wp2
  go_loopw [3, 9] (fun out i wr => ∃ k : Nat, k ≤ l.length ∧ i = .int .i64 (k : Int) ∧ Hid (TxtRel s l (.slice A l.length c) out w w2 wr k)) (fun _ i _ => l.length - (intOf i).toNat)
  case atStart => exact ⟨0, by omega, rfl, HR0⟩
  case round =>
    obtain ⟨k, hk, rfl, HR⟩ := hrel
    clear HR0
    by_cases hlt : k < l.length
    · obtain ⟨hout, hrow, hbel⟩ := HR.out
      have hgl0 := HGL.out
      obtain ⟨g, rfl, _, hg1, hg2, c0, c1, c2⟩ := row3_at hrow hlt
      have hgl : g < w2.heap.size := hgl0 g rfl
      clear hgl0
      obtain ⟨a, ha, he⟩ := HM.out _ (List.getElem_mem hlt)
      have hx : txt1 s (l[k]'hlt) = s.extract a (a + (atR s a).2).toNat := by rw [he]; unfold txt1; simp
      rw [he] at c0 c1 c2
      dsimp only at c0 c1 c2
      have h1 := atR_2 s a
      have h2 := atR_end s a ha
      have hwr : IntKind.i64.wrap ((a : Int) + (atR s a).2) = (a : Int) + (atR s a).2 := by rw [IntKind.wrap_i64]; omega
      have hHW : Hid (Below w2.heap.size w2 wr) := Lib.hid hbel
      have HROW := Lib.hid hrow
      have HOUT := Lib.hid hout
      have hzr := hbel.size
      have hA2 : Hid (Below w2.heap.size w2 ((wr.alloc (.cells #[.int .i64 a, .int .i64 (atR s a).2, .int .i64 (atR s a).1] 45)).alloc (.cells #[.string (s.extract a (a + (atR s a).2).toNat)] 9))) := Lib.hid ((hbel.alloc hzr _).alloc (by simp; omega) _)
      clear hout hrow hbel HR
      go_wp2_with (at_builtin; refine wpList_append_own _ rfl _ _ 28 rfl w2.heap.size 9 i0 _ 1 16 Try.underlying28 hi hz0 hz1 hz2 rfl (by decide) _ _ _ rfl ((HOUT.out.alloc _).alloc _) ⟨wr.heap.size + 1, 0, none⟩ 1 1 [.string (s.extract a (a + (atR s a).2).toNat)] rfl rfl ?c1 ?c2 ?c3 ?c4 ?c5 ?_)
      case c2 => simp [Value.oneCell']
      case c3 => unfold maxLen; omega
      case c4 => omega
      case c5 => first | omega | (simp only [World.size_alloc]; omega)
      intro v' w3 hown3 hg3 _
      have hb3 : Below w2.heap.size w2 w3 := hA2.out.grown hg3 (by simp; omega) (own_ge HOUT.out)
      have hrow2 : w3.ownsRow w.heap.size 45 3 (.slice (some ⟨g, 0, none⟩) l.length c) l.length (unitCells l) := ((HROW.out.alloc _).alloc _).kept hg3 (.inr fun e => by
        have hlt2 : g < w2.heap.size := hgl
        have e' : u3.ownBlock = some g := by rw [← e]; rfl
        have := own_ge HOUT.out g e'; omega)
      have HR3 : Hid (TxtRel s l (.slice (some ⟨g, 0, none⟩) l.length c) v' w w2 w3 (k + 1)) := Lib.hid ⟨by
        rw [List.take_add_one, List.getElem?_eq_getElem hlt, List.map_append]
        simp only [strs, List.map_append, List.map_take, Option.toList, List.map_cons, List.map_nil] at hown3 ⊢
        rw [hx]; exact hown3, hrow2, hb3⟩
      clear hown3 hg3 hb3 hrow2 HROW HOUT hA2 hHW
      go_wp2
      go_roundw
      case rel => exact ⟨k + 1, by omega, by go_num, HR3⟩
      case measure => simp [intOf]; omega
    · go_wp2
      go_ret
      obtain ⟨hout, hrow, hbel⟩ := HR.out
      have hkl : k = l.length := by omega
      subst hkl
      rw [List.take_length, ← HT.out] at hout
      have hlx : tx.length = l.length := by rw [HT.out, List.length_map]
      exact ⟨_, rfl, by rw [hlx]; exact own_lo hout hz, HB2.out.trans (hbel.mono hz)⟩
end Go.Proofs.Ytdepkpnicfcbiaa
