/- Steps of two talkers: what they are in memory, and that what comes in can be read so. -/
import Derived.Test.YtmghigmegiainaaTkL
namespace Go.Proofs.Ytmghigmegiainaa
open Go.RowKit

structure TOp where
  act : Int
  who : Int
  slot : Int
  num : Int
  val : ByteArray
  stay : Bool
  l : List Told
def rOp : Rep TOp where
  size := 7
  bulk o := (o.l.map rTold.bulk).sum + 1
  R w S cs o := ∃ A c, cs = [.int .i64 o.act, .int .i64 o.who, .int .i64 o.slot, .int .i64 o.num, .string o.val, .bool o.stay, .slice A o.l.length c] ∧ (I64 o.act ∧ I64 o.who ∧ I64 o.slot ∧ I64 o.num ∧ o.val.size ≤ maxLen) ∧ Sl rTold w S A c o.l
  len := fun ⟨_, _, h, _⟩ => by rw [h]; rfl
  one := fun ⟨_, _, h, _⟩ => by rw [h]; intro u hu; simp at hu; rcases hu with rfl | rfl | rfl | rfl | rfl | rfl | rfl <;> rfl
  keep := fun ⟨A, c, h, h1, h2⟩ hk => ⟨A, c, h, h1, h2.keep hk⟩
  more := fun ⟨A, c, h, h1, h2⟩ hm => ⟨A, c, h, h1, h2.more hm⟩
theorem op_at {w : World} {S : Nat → Prop} {A : Option Addr} {c : Nat} {l : List TOp} (h : Sl rOp w S A c l) {k : Nat} (hk : k < l.length) :
    ∃ ad AL cl, A = some ad ∧ S ad.block ∧ (I64 (l[k]'hk).act ∧ I64 (l[k]'hk).who ∧ I64 (l[k]'hk).slot ∧ I64 (l[k]'hk).num ∧ (l[k]'hk).val.size ≤ maxLen) ∧ Sl rTold w S AL cl (l[k]'hk).l ∧
      w.cell? (ad.add (k * 7)) = some (.int .i64 (l[k]'hk).act) ∧ w.cell? ⟨(ad.add (k * 7)).block, (ad.add (k * 7)).off + 1, none⟩ = some (.int .i64 (l[k]'hk).who) ∧
      w.cell? ⟨(ad.add (k * 7)).block, (ad.add (k * 7)).off + 2, none⟩ = some (.int .i64 (l[k]'hk).slot) ∧ w.cell? ⟨(ad.add (k * 7)).block, (ad.add (k * 7)).off + 3, none⟩ = some (.int .i64 (l[k]'hk).num) ∧
      w.cell? ⟨(ad.add (k * 7)).block, (ad.add (k * 7)).off + 4, none⟩ = some (.string (l[k]'hk).val) ∧ w.cell? ⟨(ad.add (k * 7)).block, (ad.add (k * 7)).off + 5, none⟩ = some (.bool (l[k]'hk).stay) ∧
      w.cell? ⟨(ad.add (k * 7)).block, (ad.add (k * 7)).off + 6, none⟩ = some (.slice AL (l[k]'hk).l.length cl) := by
  obtain ⟨ad, u, e, hs, ⟨AL, cl, rfl, hf, hsl⟩, h0, h1⟩ := h.fields hk
  exact ⟨ad, AL, cl, e, hs, hf, hsl, h0 _ rfl, h1 0 _ rfl, h1 1 _ rfl, h1 2 _ rfl, h1 3 _ rfl, h1 4 _ rfl, h1 5 _ rfl⟩

theorem Opens.map {α β : Type} {ρ : Rep α} {σ : Rep β} {P : Program} {t : TypeId} (f : α → β) (h : Opens P t ρ) (hR : ∀ (w : World) (S : Nat → Prop) (cs : List Value) (y : α), ρ.R w S cs y → σ.R w S cs (f y)) (hb : ∀ y, σ.bulk (f y) ≤ ρ.bulk y) : Opens P t σ := by
  intro H enc w base spare held fuel cs x hx
  obtain ⟨y, hy, hby⟩ := h H enc w base spare held fuel cs x hx
  exact ⟨f y, hR _ _ _ _ hy, Nat.le_trans (hb y) hby⟩
theorem opens_told : Opens Try.prog 44 rTold := by
  refine Opens.map (ρ := rPair rInt (rPair rInt (rPair rInt (rPair rStr rBool)))) (fun y => ⟨y.1, y.2.1, y.2.2.1, y.2.2.2.1, y.2.2.2.2⟩)
    (opens_struct (l := [_, _, _, _, _]) Try.underlying44 rfl (opens_more rfl rfl (opens_int Try.underlying3) (opens_more rfl rfl (opens_int Try.underlying3) (opens_more rfl rfl (opens_int Try.underlying3) (opens_more rfl rfl (opens_string Try.underlying9) (opens_last rfl rfl (opens_bool Try.underlying4))))))) ?_ ?_
  · rintro w S cs ⟨a, b, c, d, e⟩ ⟨c1, d1, rfl, ⟨rfl, h1⟩, c2, d2, rfl, ⟨rfl, h2⟩, c3, d3, rfl, ⟨rfl, h3⟩, c4, d4, rfl, ⟨rfl, h4⟩, h5⟩
    exact ⟨by rw [h5]; rfl, h1, h2, h3, h4⟩
  · rintro ⟨a, b, c, d, e⟩
    simp only [rTold, rPair, rInt, rStr, rBool]; omega
theorem opens_tolds : Opens Try.prog 36 (rList rTold) := opens_slice Try.underlying36 rfl (by decide) opens_told
theorem opens_op : Opens Try.prog 38 rOp := by
  refine Opens.map (ρ := rPair rInt (rPair rInt (rPair rInt (rPair rInt (rPair rStr (rPair rBool (rList rTold))))))) (fun y => ⟨y.1, y.2.1, y.2.2.1, y.2.2.2.1, y.2.2.2.2.1, y.2.2.2.2.2.1, y.2.2.2.2.2.2⟩)
    (opens_struct (l := [_, _, _, _, _, _, _]) Try.underlying38 rfl (opens_more rfl rfl (opens_int Try.underlying3) (opens_more rfl rfl (opens_int Try.underlying3) (opens_more rfl rfl (opens_int Try.underlying3) (opens_more rfl rfl (opens_int Try.underlying3)
      (opens_more rfl rfl (opens_string Try.underlying9) (opens_more rfl rfl (opens_bool Try.underlying4) (opens_last rfl rfl opens_tolds)))))))) ?_ ?_
  · rintro w S cs ⟨a, b, c, d, e, f, g⟩ ⟨c1, d1, rfl, ⟨rfl, h1⟩, c2, d2, rfl, ⟨rfl, h2⟩, c3, d3, rfl, ⟨rfl, h3⟩, c4, d4, rfl, ⟨rfl, h4⟩, c5, d5, rfl, ⟨rfl, h5⟩, c6, d6, rfl, h6, A, cc, rfl, h7⟩
    exact ⟨A, cc, by rw [h6]; rfl, ⟨h1, h2, h3, h4, h5⟩, h7⟩
  · rintro ⟨a, b, c, d, e, f, g⟩
    simp only [rOp, rPair, rInt, rStr, rBool, rList]; omega
theorem opens_ops : Opens Try.prog 22 (rList rOp) := opens_slice Try.underlying22 rfl (by decide) opens_op
theorem mem_le_sum_ {α : Type} {g : α → Nat} {x : α} : ∀ {l : List α}, x ∈ l → g x ≤ (l.map g).sum
  | a :: r, h => by
    simp only [List.map_cons, List.sum_cons]
    rcases List.mem_cons.1 h with rfl | h
    · omega
    · have := mem_le_sum_ (g := g) h; omega
theorem len_le_bulk (l : List Told) : l.length ≤ (l.map rTold.bulk).sum := by
  induction l with
  | nil => simp
  | cons a r ih => simp only [List.map_cons, List.sum_cons, List.length_cons, rTold] at ih ⊢; omega
theorem ops_bulk {l : List TOp} {n : Nat} (h : (l.map rOp.bulk).sum + 1 ≤ n) : ∀ o ∈ l, o.l.length ≤ n := fun o ho => by
  have h1 := mem_le_sum_ (g := rOp.bulk) ho
  have h2 := len_le_bulk o.l
  have h3 : rOp.bulk o = (o.l.map rTold.bulk).sum + 1 := rfl
  omega
end Go.Proofs.Ytmghigmegiainaa
