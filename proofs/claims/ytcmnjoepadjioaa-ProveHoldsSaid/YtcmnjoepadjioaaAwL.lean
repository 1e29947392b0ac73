/- More of growing slices: told anew one behind the other; two that grow side by side. Nothing of the program is named here. -/
import Derived.Test.YtcmnjoepadjioaaAwK
namespace Go.Proofs.Ytcmnjoepadjioaa
open Go.RowKit Go.Maps

section
variable {P : Program} {w : World} {S : Nat → Prop} {σ : Nat → Option Value} {H H0 H1 H2 H3 V : AH} {B : Nat}
theorem Gst.refl (H : AH) : Gst P H H := ⟨Nat.le_refl _, fun w S σ hs => ⟨S, hs, fun _ h => h, fun _ h => .inl h, fun _ h => h⟩⟩
theorem Gst.trans (h : Gst P H H1) (k : Gst P H1 H2) : Gst P H H2 := ⟨Nat.le_trans h.1 k.1, fun w S σ hs => by
  obtain ⟨S1, a1, a2, a3, a4⟩ := h.2 w S σ hs
  obtain ⟨S2, b1, b2, b3, b4⟩ := k.2 w S1 σ a1
  refine ⟨S2, b1, fun b hb => b2 b (a2 b hb), fun b hb => ?_, fun b hb => a4 b (b4 b hb)⟩
  rcases b3 b hb with hb | hb
  · exact a3 b hb
  · exact .inr (a4 b hb)⟩
theorem Grows.base {t sz : Nat} {v : AV} {es : List (List AV)} (h : Grows t sz H1 H2 v es) (hn : H0.nx ≤ H1.nx) : Grows t sz H0 H2 v es := by
  rcases h with h | ⟨r, xs, h1, h2, h3⟩
  · exact .inl h
  · exact .inr ⟨r, xs, h1, Nat.le_trans hn h2, h3⟩
theorem Grows.ge {t sz j n : Nat} {v : AV} {es : List (List AV)} (h : Grows t sz H0 H1 v es) (hj : v = .osl j sz 0 n) : H0.nx ≤ j := by
  rcases h with ⟨h1, _⟩ | ⟨r, xs, h1, h2, h3, _⟩
  · rw [h1] at hj; cases hj
  · rw [h1] at hj; injection hj with hj; omega
/-- two that grow, of elements of another size -/
theorem Grows.apart {t t' sz sz' : Nat} {v u : AV} {es xs : List (List AV)} (h : Grows t sz H0 H1 v es) (k : Grows t' sz' H2 H1 u xs) (hs : sz ≠ sz') {j : Nat} (hj : ∃ n, u = .osl j sz' 0 n) : ∀ n, v ≠ .osl j sz 0 n := by
  obtain ⟨n, hn⟩ := hj
  refine h.not fun ys e => ?_
  rcases k with ⟨h1, _⟩ | ⟨r, xs, h1, _, _, h4, _⟩
  · rw [h1] at hn; cases hn
  · rw [h1] at hn; injection hn with hn; subst hn; rw [h4] at e; injection e with e; injection e with e1 e2; exact hs e2.symm
theorem Grows.up_ {t sz : Nat} {v : AV} {es : List (List AV)} (h : Grows t sz H0 H1 v es) (hn : H1.nx ≤ H2.nx) (hk : ∀ j o, j < H1.nx → (∃ n, v = .osl j sz 0 n) → H1.get j = some o → H2.get j = some o) : Grows t sz H0 H2 v es := by
  rcases h with h | ⟨r, xs, h1, h2, h3, h4, h5, h6⟩
  · exact .inl h
  · exact .inr ⟨r, xs, h1, h2, by omega, hk r _ h3 ⟨_, h1⟩ h4, h5, h6⟩
theorem Grows.wf {t sz : Nat} {v : AV} {es : List (List AV)} (h : Grows t sz H0 H1 v es) (hw : WF H2) (hk : H1.le H2) : Grows t sz H0 H2 v es := by
  rcases h with h | ⟨r, xs, h1, h2, h3, h4, h5, h6⟩
  · exact .inl h
  · exact .inr ⟨r, xs, h1, h2, (hw _ _ (hk _ _ h4)).1, hk _ _ h4, h5, h6⟩
theorem DtR.set {xs : List (List AV)} {i : Nat} {e : List AV} (h : DtR xs) (he : ∀ a ∈ e, Dt a) : DtR (xs.set i e) := fun x hx => by
  rcases List.mem_or_eq_of_mem_set hx with hx | hx
  · exact h x hx
  · subst hx; exact he
/-- an element is set anew -/
theorem Grows.put {t sz r n q : Nat} {es xs : List (List AV)} {e : List AV} (h : Grows t sz H0 H1 (.osl r sz 0 n) es) (hg : H1.get r = some (.row t sz xs)) (he : ∀ a ∈ e, Dt a) : Grows t sz H0 (H1.put r (.row t sz (xs.set q e))) (.osl r sz 0 n) (es.set q e) := by
  rcases h with ⟨h1, _⟩ | ⟨r', xs', h1, h2, h3, h4, h5, h6⟩
  · cases h1
  · injection h1 with e1 _ _ e2
    subst e1
    rw [hg] at h4
    injection h4 with h4
    injection h4 with _ _ h4
    subst h4
    refine .inr ⟨r, xs.set q e, by rw [List.length_set, e2], h2, h3, AH.get_put_self, ?_, h6.set he⟩
    rw [List.length_set, List.take_set, h5]
end
end Go.Proofs.Ytcmnjoepadjioaa
