/- What is put on the way; entries that are wiped out. -/
import Derived.Test.YtmghigmegiainaaTkK
namespace Go.Proofs.Ytmghigmegiainaa
open Go.RowKit

theorem flatT_one (l : List Told) : ∀ u ∈ flatT l, u.oneCell' = true := by
  intro u hu
  simp only [flatT, List.mem_flatMap] at hu
  obtain ⟨x, _, hx⟩ := hu
  exact one_told x u hx
section
variable {w wr w' : World} {bp bq bw : Nat} {G GS C H HS D : Nat → Nat} {who : Nat → Int} {EP EQ : Nat → List Ent} {V : Nat → Value} {W : Nat → List (List Told)} {T : Nat → Prop}
theorem grown_pre {a b c : World} {row : Option Nat} (hb : Below a.heap.size a b) (hg : b.grownBy c row) : a.grownBy c row :=
  ⟨hg.os.trans hb.os, hg.tape.trans hb.tape, hg.output.trans hb.output, Nat.le_trans hb.size hg.size, fun k hk hne => (hg.block k (Nat.lt_of_lt_of_le hk hb.size) hne).trans (hb.block k hk)⟩
theorem own_some {w : World} {base e size n : Nat} {A : Option Addr} {c : Nat} {xs : List Value} (h : w.ownsRow base e size (.slice A n c) n xs) (hn : 0 < n) : ∃ g, ∃ cur : Array Value, A = some ⟨g, 0, none⟩ ∧ Blk w g e cur ∧ n * size ≤ cur.size ∧ base ≤ g := by
  obtain ⟨g, c', cur, hv, hB, hb, hle, hm, hs, ht⟩ := own_blk h hn
  injection hv with hA
  exact ⟨g, cur, hA, hb, by rw [hs]; exact Nat.mul_le_mul_right _ hle, hB⟩
/-- a copy of told entries, put behind what lies on the way -/
theorem St.push {w7 w8 w9 w10 w11 : World} (h : St w w7 bp bq bw G GS C H HS D who EP EQ V W T) {j : Nat} (hj : j < 2) {L : List Told} {v9 v11 : Value} {cs : List Value} (hb8 : Below w7.heap.size w7 w8) (hfit : ∀ x ∈ L, x.fits)
    (h9 : w9.ownsRow w7.heap.size 44 5 v9 L.length (flatT L)) (hg9 : w8.grownBy w9 (some w7.heap.size)) (hz9 : w7.heap.size ≤ w8.heap.size) (hb10 : Below w9.heap.size w9 w10) (hej : Elems (rList rTold) w7 T cs (W j))
    (h11 : w11.ownsRow w.heap.size 36 1 v11 ((W j).length + 1) (cs ++ [v9])) (hg11 : w10.grownBy w11 (V j).ownBlock) (hat : v11.ownBlock = (V j).ownBlock ∨ v11.ownBlock = some w10.heap.size) :
    ∃ T', St w (w11.setCell ⟨bw, j, none⟩ v11) bp bq bw G GS C H HS D who EP EQ (upd V j v11) (upd W j (W j ++ [L])) T' ∧ (∀ b, T' b → T b ∨ w7.heap.size ≤ b) ∧ ∀ (b : Nat) (cur : Array Value), Blk w7 b 44 cur → Blk (w11.setCell ⟨bw, j, none⟩ v11) b 44 cur := by
  obtain ⟨A9, c9, rfl⟩ := own_slice h9
  have hb9 : Below w7.heap.size w7 w9 := hb8.grown hg9 hz9 (fun k hk => by injection hk with hk; omega)
  have hb10' : Below w7.heap.size w7 w10 := hb9.trans (hb10.mono hb9.size)
  have hg : w7.grownBy w11 (V j).ownBlock := grown_pre hb10' hg11
  have hty : ∀ g, (V j).ownBlock = some g → ∃ cur : Array Value, Blk w7 g 36 cur := fun g hg => by
    obtain ⟨cs, ho, _⟩ := h.way j hj
    exact own_typed ho hg
  have hT7 : ∀ b, TB w7 b → some b ≠ (V j).ownBlock := fun b hb e => by
    obtain ⟨cur, hc⟩ := hty _ e.symm
    exact hb.ne_ hc (by decide) rfl
  have hlt : ∀ g, (V j).ownBlock = some g → g < w7.heap.size := fun g hg => h.vlt hj hg
  have hS9 : ∀ g, (Value.slice A9 L.length c9).ownBlock = some g → TB w11 g ∧ w.heap.size ≤ g ∧ w7.heap.size ≤ g := fun g hgg => by
    obtain ⟨cur, hc⟩ := own_typed h9 hgg
    have h7 := own_ge h9 g hgg
    have h10 : TB w10 g := ⟨cur, hc.below hb10 hc.lt⟩
    refine ⟨h10.grown hg11 (fun e => ?_), by have := h.old.size; omega, h7⟩
    have := hlt g e.symm; omega
  refine ⟨fun b => T b ∨ (Value.slice A9 L.length c9).ownBlock = some b, ?_, ?_, ?_⟩
  · refine h.putWay hj hg (fun g hg' => ?_) (fun b hb => .inl hb) (fun b hb => ?_) ?_
    · rcases hat with ha | ha
      · exact .inl (ha.symm.trans hg')
      · rw [ha] at hg'; injection hg' with hg'; have := hb10'.size; exact .inr (by omega)
    · rcases hb with hb | hb
      · exact ⟨(h.tb b hb).1.grown hg (hT7 b (h.tb b hb).1), (h.tb b hb).2⟩
      · exact ⟨(hS9 b hb).1, (hS9 b hb).2.1⟩
    · refine ⟨_, by rw [List.length_append]; exact h11, ?_⟩
      have he : Elems (rList rTold) w11 (fun b => T b ∨ (Value.slice A9 L.length c9).ownBlock = some b) cs (W j) := elems_more hej (fun b hb => .inl hb) fun p hp => World.cell?_of_block (hg.block _ (h.tb _ hp).1.lt (hT7 _ (h.tb _ hp).1))
      have hsl : Sl rTold w9 (fun b => (Value.slice A9 L.length c9).ownBlock = some b) A9 c9 L := Sl.of_own (ρ := rTold) h9 (elems_told hfit) fun g hg => hg
      have hsl11 : Sl rTold w11 (fun b => T b ∨ (Value.slice A9 L.length c9).ownBlock = some b) A9 c9 L := (hsl.keep fun p hp => by
        have h7 := own_ge h9 _ hp
        have hl9 := own_lt h9 _ hp
        have e10 : w10.cell? p = w9.cell? p := hb10.cell hl9
        rw [← e10]
        refine World.cell?_of_block (hg11.block _ (Nat.lt_of_lt_of_le hl9 hb10.size) (fun e => ?_))
        have := hlt _ e.symm; omega).more fun b hb => .inr hb
      exact he.snoc (ρ := rList rTold) ⟨A9, c9, rfl, hsl11⟩
  · rintro b (hb | hb)
    · exact .inl hb
    · exact .inr (hS9 b hb).2.2
  · intro b cur hb
    have h11' : Blk w11 b 44 cur := hb.grown hg (hT7 b ⟨cur, hb⟩)
    have hw : Blk w11 bw 35 #[V 0, V 1] := h.wa.grown hg (fun e => by obtain ⟨cur, hc⟩ := hty _ e.symm; exact Blk.ne_ h.wa hc (by decide) rfl)
    exact h11'.far (p := ⟨bw, j, none⟩) (Blk.ne_ h11' hw (by decide)) v11
theorem elems_take {α : Type} {ρ : Rep α} {w : World} {S : Nat → Prop} {cs : List Value} {xs : List α} (h : Elems ρ w S cs xs) {m : Nat} (hm : m ≤ xs.length) : Elems ρ w S (cs.take (m * ρ.size)) (xs.take m) := by
  obtain ⟨h1, h2, h3⟩ := h
  refine ⟨by rw [List.length_take, List.length_take, h1, Nat.min_eq_left hm, Nat.min_eq_left (Nat.mul_le_mul_right _ hm)], fun u hu => h2 u (List.mem_of_mem_take hu), fun i x hx => ?_⟩
  rw [List.getElem?_take] at hx
  split at hx
  · rename_i hi
    obtain ⟨u, hr, hc⟩ := h3 i x hx
    refine ⟨u, hr, fun j z hz => ?_⟩
    have hj : j < ρ.size := by have := (List.getElem?_eq_some_iff.1 hz).1; rw [ρ.len hr] at this; exact this
    rw [List.getElem?_take, if_pos]
    · exact hc j z hz
    · have : (i + 1) * ρ.size ≤ m * ρ.size := Nat.mul_le_mul_right _ hi
      rw [Nat.add_mul] at this; omega
  · cases hx
theorem elems_drop {α : Type} {ρ : Rep α} {w : World} {S : Nat → Prop} {cs : List Value} {xs : List α} (h : Elems ρ w S cs xs) (m : Nat) : Elems ρ w S (cs.drop (m * ρ.size)) (xs.drop m) := by
  obtain ⟨h1, h2, h3⟩ := h
  refine ⟨by rw [List.length_drop, List.length_drop, h1, Nat.sub_mul], fun u hu => h2 u (List.mem_of_mem_drop hu), fun i x hx => ?_⟩
  rw [List.getElem?_drop] at hx
  obtain ⟨u, hr, hc⟩ := h3 (m + i) x hx
  refine ⟨u, hr, fun j z hz => ?_⟩
  rw [List.getElem?_drop]
  have := hc j z hz
  rwa [show m * ρ.size + (i * ρ.size + j) = (m + i) * ρ.size + j from by rw [Nat.add_mul]; omega]
theorem reads_take {w : World} {B size n m : Nat} {A : Option Addr} {xs : List Value} (h : Reads w B size A n xs) (hm : m ≤ n) : Reads w B size A m (xs.take (m * size)) := by
  refine ⟨by rw [List.length_take, h.1, Nat.min_eq_left (Nat.mul_le_mul_right _ hm)], fun h0 => ?_⟩
  obtain ⟨ad, e, hb, hc⟩ := h.2 (by omega)
  refine ⟨ad, e, hb, fun j u hu => ?_⟩
  rw [List.getElem?_take] at hu
  split at hu
  · exact hc j u hu
  · cases hu
/-- one that lay on the way is taken away -/
theorem St.cutWay {w14 : World} (h : St w wr bp bq bw G GS C H HS D who EP EQ V W T) {k a N : Nat} (hk : k < 2) (ha : a < (W k).length) {v : Value} {cs : List Value} (hb : Below wr.heap.size wr w14) (hek : Elems (rList rTold) wr T cs (W k)) (hN : N = a + ((W k).length - (a + 1)))
    (ho : w14.ownsRow wr.heap.size 36 1 v N (cs.take a ++ cs.drop (a + 1))) :
    St w (w14.setCell ⟨bw, k, none⟩ v) bp bq bw G GS C H HS D who EP EQ (upd V k v) (upd W k ((W k).take a ++ (W k).drop (a + 1))) T := by
  refine h.putWay hk (only_of_below hb _) (fun g hg => .inr (own_ge ho g hg)) (fun _ hb => hb) (fun b hT => ⟨(h.tb b hT).1.grown (only_of_below hb none) (by simp), (h.tb b hT).2⟩) ⟨cs.take a ++ cs.drop (a + 1), ?_, ?_⟩
  · have hl : ((W k).take a ++ (W k).drop (a + 1)).length = N := by rw [List.length_append, List.length_take, List.length_drop, hN]; omega
    rw [hl]
    refine ⟨ho.1, ?_⟩
    rcases ho.2 with h2 | ⟨g, cap, cur, hv, hb', hr⟩
    · exact .inl h2
    · exact .inr ⟨g, cap, cur, hv, by have := h.old.size; omega, hr⟩
  · have h1 := elems_take hek (m := a) (by omega)
    have h2 := elems_drop hek (a + 1)
    have hs : (rList rTold).size = 1 := rfl
    rw [hs, Nat.mul_one] at h1 h2
    exact (h1.app h2).keep fun p hp => hb.cell (h.tb _ hp).1.lt
/-- a row of told entries whose cells may be written: not on the way -/
def Free (w wr : World) (T : Nat → Prop) (A : Option Addr) (N : Nat) : Prop := 0 < N → ∃ bl, ∃ cur : Array Value, A = some ⟨bl, 0, none⟩ ∧ Blk wr bl 44 cur ∧ N * 5 ≤ cur.size ∧ w.heap.size ≤ bl ∧ ¬ T bl
theorem grown_set5 {a w : World} {g : Nat} (h : a.grownBy w (some g)) (n0 n1 n2 n3 n4 : Nat) (v0 v1 v2 v3 v4 : Value) :
    a.grownBy (((((w.setCell ⟨g, n0, none⟩ v0).setCell ⟨g, n1, none⟩ v1).setCell ⟨g, n2, none⟩ v2).setCell ⟨g, n3, none⟩ v3).setCell ⟨g, n4, none⟩ v4) (some g) :=
  only_setCell (only_setCell (only_setCell (only_setCell (only_setCell h (.inl rfl) _) (.inl rfl) _) (.inl rfl) _) (.inl rfl) _) (.inl rfl) _
theorem blk_set5 {w : World} {g t N : Nat} {cur : Array Value} (hb : Blk w g t cur) (hs : N ≤ cur.size) (n0 n1 n2 n3 n4 : Nat) (v0 v1 v2 v3 v4 : Value) :
    ∃ cur' : Array Value, Blk (((((w.setCell ⟨g, n0, none⟩ v0).setCell ⟨g, n1, none⟩ v1).setCell ⟨g, n2, none⟩ v2).setCell ⟨g, n3, none⟩ v3).setCell ⟨g, n4, none⟩ v4) g t cur' ∧ N ≤ cur'.size :=
  ⟨_, ((((hb.set_ n0 v0).set_ n1 v1).set_ n2 v2).set_ n3 v3).set_ n4 v4, by simpa using hs⟩
theorem Free.step {A : Option Addr} {N bl n0 n1 n2 n3 n4 : Nat} (hN : 0 < N) (hA : A = some ⟨bl, 0, none⟩) (h : Free w wr T A N) (hst : St w wr bp bq bw G GS C H HS D who EP EQ V W T) (z0 z1 z2 z3 z4 : Value) :
    ∃ w', w' = (((((wr.setCell ⟨bl, n0, none⟩ z0).setCell ⟨bl, n1, none⟩ z1).setCell ⟨bl, n2, none⟩ z2).setCell ⟨bl, n3, none⟩ z3).setCell ⟨bl, n4, none⟩ z4) ∧ St w w' bp bq bw G GS C H HS D who EP EQ V W T ∧ Free w w' T A N := by
  obtain ⟨bl', cur, hA', hb, hs, h0, hT⟩ := h hN
  have e : bl' = bl := by rw [hA] at hA'; injection hA' with hA'; injection hA' with h1; exact h1.symm
  subst e
  obtain ⟨cur5, hb5, hs5⟩ := blk_set5 hb hs n0 n1 n2 n3 n4 z0 z1 z2 z3 z4
  have hg := grown_set5 (only_of_below (Below.refl wr.heap.size wr) (some bl')) n0 n1 n2 n3 n4 z0 z1 z2 z3 z4
  exact ⟨_, rfl, hst.told hg ⟨cur, hb⟩ h0 hT, fun _ => ⟨bl', cur5, hA, hb5, hs5, h0, hT⟩⟩
theorem Free.cells {A : Option Addr} {N q : Nat} (h : Free w wr T A N) (hq : q < N) : ∃ bl, A = some ⟨bl, 0, none⟩ ∧ (∃ z0 z1 z2 z3 z4, wr.cell? ⟨bl, q * 5, none⟩ = some z0 ∧ wr.cell? ⟨bl, q * 5 + 1, none⟩ = some z1 ∧ wr.cell? ⟨bl, q * 5 + 2, none⟩ = some z2 ∧ wr.cell? ⟨bl, q * 5 + 3, none⟩ = some z3 ∧ wr.cell? ⟨bl, q * 5 + 4, none⟩ = some z4) ∧ ∀ k, wr.frozen? ⟨bl, k, none⟩ = false := by
  obtain ⟨bl, cur, hA, hb, hs, h0, hT⟩ := h (by omega)
  have hc : ∀ k, k < cur.size → ∃ z, wr.cell? ⟨bl, k, none⟩ = some z := fun k hk => ⟨_, by rw [hb.cell]; exact Array.getElem?_eq_getElem hk⟩
  obtain ⟨z0, h0'⟩ := hc (q * 5) (by omega)
  obtain ⟨z1, h1'⟩ := hc (q * 5 + 1) (by omega)
  obtain ⟨z2, h2'⟩ := hc (q * 5 + 2) (by omega)
  obtain ⟨z3, h3'⟩ := hc (q * 5 + 3) (by omega)
  obtain ⟨z4, h4'⟩ := hc (q * 5 + 4) (by omega)
  exact ⟨bl, hA, ⟨z0, z1, z2, z3, z4, h0', h1', h2', h3', h4'⟩, hb.frozen⟩
theorem Free.of_own {base n c : Nat} {A : Option Addr} {xs : List Value} (h : wr.ownsRow base 44 5 (.slice A n c) n xs) (hB : w.heap.size ≤ base) (hT : ∀ b, T b → b < base) : Free w wr T A n := fun hn => by
  obtain ⟨g, cur, hA, hb, hs, hg⟩ := own_some h hn
  exact ⟨g, cur, hA, hb, hs, by omega, fun ht => by have := hT g ht; omega⟩
end
end Go.Proofs.Ytmghigmegiainaa
