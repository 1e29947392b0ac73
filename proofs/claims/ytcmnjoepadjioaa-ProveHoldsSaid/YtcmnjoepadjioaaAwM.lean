/- From what came in to abstract values, and from an abstract walk to a law's end. Nothing of the program is named here. -/
import Derived.Test.YtcmnjoepadjioaaAwL
import Derived.Test.YtcmnjoepadjioaaRo
namespace Go.Proofs.Ytcmnjoepadjioaa
open Go.RowKit Go.Maps Go.ChangeShapes Go.WideShapes

/-- cells that stand for abstract data -/
def RpsD (w : World) (S : Nat → Prop) (ps : List AV) (cs : List Value) : Prop := ps.length = cs.length ∧ ∀ (i : Nat) (a : AV) (v : Value), ps[i]? = some a → cs[i]? = some v → RpD w S a v
/-- what a reading stands for, told abstractly -/
def AvsG {α β : Type} (ρ : Rep α) (g : α → β) (av : β → List AV) (ok : β → Prop) : Prop := ∀ w S cs y, ρ.R w S cs y → ok (g y) ∧ RpsD w S (av (g y)) cs
theorem RpsD.one {w : World} {S : Nat → Prop} {a : AV} {v : Value} (h : RpD w S a v) : RpsD w S [a] [v] := by
  refine ⟨rfl, fun i b u hb hu => ?_⟩
  cases i with
  | zero => simp at hb hu; subst hb; subst hu; exact h
  | succ i => simp at hb
theorem RpsD.append {w : World} {S : Nat → Prop} {ps bs : List AV} {vs us : List Value} (h : RpsD w S ps vs) (h' : RpsD w S bs us) : RpsD w S (ps ++ bs) (vs ++ us) := by
  refine ⟨by simp [h.1, h'.1], fun i a v ha hv => ?_⟩
  by_cases hi : i < ps.length
  · rw [List.getElem?_append_left hi] at ha
    rw [List.getElem?_append_left (by rw [← h.1]; exact hi)] at hv
    exact h.2 i a v ha hv
  · rw [List.getElem?_append_right (by omega)] at ha
    rw [List.getElem?_append_right (by rw [← h.1]; omega), ← h.1] at hv
    exact h'.2 _ a v ha hv
theorem avs_int : AvsG rInt id (fun i => [.p (.int .i64 i)]) I64 := fun w S cs y h => by
  obtain ⟨rfl, h⟩ := h; exact ⟨h, .one (.p _ rfl)⟩
theorem avs_bool : AvsG rBool id (fun b => [.p (.bool b)]) (fun _ => True) := fun w S cs y h => by
  have h : cs = [.bool y] := h
  subst h; exact ⟨trivial, .one (.p _ rfl)⟩
theorem avs_str : AvsG rStr id (fun b => [.p (.string b)]) (fun s => s.size ≤ maxLen) := fun w S cs y h => by
  obtain ⟨rfl, h⟩ := h; exact ⟨h, .one (.p _ rfl)⟩
section
variable {α β γ δ : Type} {ρ : Rep α} {σ : Rep γ} {g : α → β} {h : γ → δ} {av : β → List AV} {bv : δ → List AV} {ok : β → Prop} {ok' : δ → Prop}
theorem AvsG.map (k : AvsG ρ g av ok) (f : β → γ) (av' : γ → List AV) (ok' : γ → Prop) (h1 : ∀ y, av y = av' (f y)) (h2 : ∀ y, ok y → ok' (f y)) : AvsG ρ (fun x => f (g x)) av' ok' := fun w S cs y hr => by
  obtain ⟨q1, q2⟩ := k w S cs y hr
  exact ⟨h2 _ q1, by rw [← h1]; exact q2⟩
theorem AvsG.pair (k : AvsG ρ g av ok) (l : AvsG σ h bv ok') : AvsG (rPair ρ σ) (fun x => (g x.1, h x.2)) (fun z => av z.1 ++ bv z.2) (fun z => ok z.1 ∧ ok' z.2) := fun w S cs y hr => by
  obtain ⟨c, d, rfl, h1, h2⟩ := hr
  obtain ⟨q1, q2⟩ := k w S c y.1 h1
  obtain ⟨r1, r2⟩ := l w S d y.2 h2
  exact ⟨⟨q1, r1⟩, q2.append r2⟩
theorem sl_rpd (k : AvsG ρ g av ok) (hs : 0 < ρ.size) {w : World} {S : Nat → Prop} {A : Option Addr} {c : Nat} {xs : List α} (h : Sl ρ w S A c xs) : (∀ y ∈ xs, ok (g y)) ∧ RpD w S (.dsl ρ.size ((xs.map g).map av)) (.slice A xs.length c) := by
  obtain ⟨h1, h2, h3⟩ := h
  refine ⟨fun y hy => ?_, ?_⟩
  · obtain ⟨i, hi⟩ := List.getElem?_of_mem hy
    obtain ⟨ad, u, _, _, hr, _⟩ := h3 i y hi
    exact (k w S u y hr).1
  have hl : ((xs.map g).map av).length = xs.length := by simp
  have hcell : ∀ (i : Nat) (x : α), xs[i]? = some x → ∃ g' o, A = some ⟨g', o, none⟩ ∧ S g' ∧ ∃ u, ρ.R w S u x ∧ ∀ j z, u[j]? = some z → w.cell? ⟨g', o + i * ρ.size + j, none⟩ = some z := by
    intro i x hx
    have h0 : 0 < xs.length := by have := (List.getElem?_eq_some_iff.1 hx).1; omega
    obtain ⟨ad0, u0, e0, s0, r0, c0⟩ := h3 0 _ (List.getElem?_eq_getElem h0)
    have hu0 : 0 < u0.length := by rw [ρ.len r0]; exact hs
    have hc := c0 0 _ (List.getElem?_eq_getElem hu0)
    obtain ⟨b, o, sp⟩ := ad0
    have hsp : sp = none := by
      simp only [Nat.zero_mul, Nat.add_zero, Addr.add, if_pos] at hc
      unfold World.cell? at hc
      split at hc
      · split at hc
        · cases hc
        · rename_i hsp; cases sp with
          | none => rfl
          | some _ => exact absurd rfl hsp
      · cases hc
    subst hsp
    obtain ⟨ad, u, e, s, r, c⟩ := h3 i x hx
    rw [e0] at e; injection e with e; subst e
    refine ⟨b, o, e0, s, u, r, fun j z hz => ?_⟩
    have := c j z hz
    rw [addr_add] at this
    rw [Nat.add_assoc]; exact this
  have hel : ∀ (i : Nat) (e : List AV), ((xs.map g).map av)[i]? = some e → ∃ x, xs[i]? = some x ∧ e = av (g x) := by
    intro i e he
    rw [List.getElem?_map, List.getElem?_map] at he
    cases hx : xs[i]? with
    | none => rw [hx] at he; cases he
    | some x => rw [hx] at he; injection he with he; exact ⟨x, rfl, he.symm⟩
  have := RpD.dsl (w := w) (S := S) ρ.size ((xs.map g).map av) A c
    (fun i j => match A with
      | some a => if (xs[i]?).isSome ∧ j < ρ.size then (w.cell? ⟨a.block, a.off + i * ρ.size + j, none⟩).getD (.bool false) else .bool false
      | none => .bool false) (by omega) h2 (fun e he => ?_) (fun i e j a he ha => ?_) (fun i e j a he ha => ?_) (fun i j => ?_)
  · rw [hl] at this; exact this
  · obtain ⟨i, hi⟩ := List.getElem?_of_mem he
    obtain ⟨x, hx, rfl⟩ := hel i e hi
    obtain ⟨_, _, _, _, u, hr, _⟩ := hcell i x hx
    rw [(k w S u x hr).2.1, ρ.len hr]
  · obtain ⟨x, hx, rfl⟩ := hel i e he
    obtain ⟨g', o, rfl, hg, u, hr, hc⟩ := hcell i x hx
    have hj : j < u.length := by rw [← (k w S u x hr).2.1]; exact (List.getElem?_eq_some_iff.1 ha).1
    have hjs : j < ρ.size := by rw [← ρ.len hr]; exact hj
    refine ⟨g', o, rfl, hg, ?_⟩
    have := hc j _ (List.getElem?_eq_getElem hj)
    simp only [hx, Option.isSome_some, hjs, and_self, if_true, this, Option.getD_some]
  · obtain ⟨x, hx, rfl⟩ := hel i e he
    obtain ⟨g', o, rfl, hg, u, hr, hc⟩ := hcell i x hx
    have hj : j < u.length := by rw [← (k w S u x hr).2.1]; exact (List.getElem?_eq_some_iff.1 ha).1
    have hjs : j < ρ.size := by rw [← ρ.len hr]; exact hj
    have := hc j _ (List.getElem?_eq_getElem hj)
    simp only [hx, Option.isSome_some, hjs, and_self, if_true, this, Option.getD_some]
    exact (k w S u x hr).2.2 j a _ ha (List.getElem?_eq_getElem hj)
  · cases A with
    | none => rfl
    | some a =>
      dsimp only
      split
      · rename_i hij
        obtain ⟨x, hx⟩ := Option.isSome_iff_exists.1 hij.1
        obtain ⟨g', o, e, hg, u, hr, hc⟩ := hcell i x hx
        injection e with e; subst e
        have hj : j < u.length := by rw [ρ.len hr]; exact hij.2
        rw [hc j _ (List.getElem?_eq_getElem hj)]
        exact ρ.one hr _ (List.getElem_mem hj)
      · rfl
theorem AvsG.list (k : AvsG ρ g av ok) (hs : 0 < ρ.size) : AvsG (rList ρ) (List.map g) (fun zs => [.dsl ρ.size (zs.map av)]) (fun zs => ∀ z ∈ zs, ok z) := fun w S cs y hr => by
  obtain ⟨A, c, rfl, hsl⟩ := hr
  obtain ⟨q1, q2⟩ := sl_rpd k hs hsl
  refine ⟨fun z hz => ?_, .one q2⟩
  obtain ⟨x, hx, rfl⟩ := List.mem_map.1 hz
  exact q1 x hx
/-- an argument that is a struct, told abstractly -/
theorem AvsG.agg (k : AvsG ρ g av ok) {w : World} {S : Nat → Prop} {σ' : Nat → Option Value} {cs : Array Value} {y : α} (hr : ρ.R w S cs.toList y) : ok (g y) ∧ Rp w S σ' (.agg (av (g y))) (.agg cs) := by
  obtain ⟨q1, q2, q3⟩ := k w S cs.toList y hr
  exact ⟨q1, .data _ _ (.agg _ _ (by simpa using q2) (fun i a v ha hv => q3 i a v ha (by simpa using hv)) fun v hv => ρ.one hr v (by simpa using hv))⟩
/-- an argument that is a slice, told abstractly -/
theorem AvsG.sl (k : AvsG ρ g av ok) (hs : 0 < ρ.size) {w : World} {S : Nat → Prop} {σ' : Nat → Option Value} {A : Option Addr} {c : Nat} {xs : List α} (h : Sl ρ w S A c xs) : (∀ z ∈ xs.map g, ok z) ∧ Rp w S σ' (.dsl ρ.size ((xs.map g).map av)) (.slice A xs.length c) := by
  obtain ⟨q1, q2⟩ := sl_rpd k hs h
  refine ⟨fun z hz => ?_, .data _ _ q2⟩
  obtain ⟨x, hx, rfl⟩ := List.mem_map.1 hz
  exact q1 x hx
end
/-- a walk from nothing held, to the law's end -/
theorem law_calls {P : Program} {f : FuncId} {ps : List AV} {us : List Value} {W : World} {r : Value} (h : Tri P f ps ⟨0, []⟩ (fun v _ => v = .p r)) (hr : Rps W (fun b => b < W.heap.size) (fun _ => none) ps us) :
    Calls P f us.toArray W fun e W' => e = .returned r ∧ Below W.heap.size W W' := by
  have hs : Sat P W (fun b => b < W.heap.size) (fun _ => none) ⟨0, []⟩ := ⟨fun b hb => hb, fun id u hu => by (cases hu), fun id o ho => by (cases ho), fun i j o o' b hi => by (cases hi), fun i o b hi => by (cases hi), fun i A n c h => by (cases h)⟩
  refine (h W _ _ us hs hr).mono fun e W' ⟨v, S', σ', r', H', h1, h2, h3, h4, h5, _⟩ => ?_
  subst h2
  obtain ⟨rfl, _⟩ := h4.p_inv
  exact ⟨h1, h5.os, h5.tape, h5.output, h5.size, fun b hb => h5.keep b hb fun ⟨i, o, hi, _⟩ => by (cases hi)⟩
/-- a result may be told with less -/
theorem Tri.res {P : Program} {f : FuncId} {ps : List AV} {H : AH} {Q Q' : AV → AH → Prop} (h : Tri P f ps H Q) (hq : ∀ r H', Q r H' → ∃ r', Sub P H' r r' ∧ Q' r' H') : Tri P f ps H Q' := fun w S σ us hs hr =>
  (h w S σ us hs hr).mono fun e w' ⟨v, S', σ', r, H', h1, h2, h3, h4, h5⟩ => by
    obtain ⟨r', q1, q2⟩ := hq r H' h2
    exact ⟨v, S', σ', r', H', h1, q2, h3, q1 _ _ _ _ h3 h4, h5⟩
end Go.Proofs.Ytcmnjoepadjioaa
