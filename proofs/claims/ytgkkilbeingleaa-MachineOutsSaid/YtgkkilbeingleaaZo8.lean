/- Texts that the proof rests on, part 8: what each holds stands at its head. -/
import Derived.Test.YtgkkilbeingleaaZo7

/- More of growing slices: told anew one behind the other; two that grow side by side. Nothing of the program is named here. -/
namespace Go.Proofs.Ytgkkilbeingleaa
open Go.RowKit Go.Maps

section
variable {P : Program} {w : World} {S : Nat → Prop} {σ : Nat → Option Value} {H H0 H1 H2 H3 V : AH} {B : Nat}
theorem Gst.refl (H : AH) : Gst P H H := ⟨Nat.le_refl _, fun w S σ hs => ⟨S, hs, fun _ h => h, fun _ h => .inl h, fun _ h => h⟩⟩
theorem Gst.trans (h : Gst P H H1) (k : Gst P H1 H2) : Gst P H H2 := ⟨Nat.le_trans h.1 k.1, fun w S σ hs => by
  obtain ⟨S1, a1, a2, a3, a4⟩ := h.2 w S σ hs
  obtain ⟨S2, b1, b2, b3, b4⟩ := k.2 w S1 σ a1
  refine ⟨S2, b1, fun b hb => b2 b (a2 b hb), fun b hb => ?_, fun b hb => a4 b (b4 b hb)⟩
  rcases b3 b hb with hb | hb
  · exact a3 b hb
  · exact .inr (a4 b hb)⟩
theorem Grows.base {t sz : Nat} {v : AV} {es : List (List AV)} (h : Grows t sz H1 H2 v es) (hn : H0.nx ≤ H1.nx) : Grows t sz H0 H2 v es := by
  rcases h with h | ⟨r, xs, h1, h2, h3⟩
  · exact .inl h
  · exact .inr ⟨r, xs, h1, Nat.le_trans hn h2, h3⟩
theorem Grows.ge {t sz j n : Nat} {v : AV} {es : List (List AV)} (h : Grows t sz H0 H1 v es) (hj : v = .osl j sz 0 n) : H0.nx ≤ j := by
  rcases h with ⟨h1, _⟩ | ⟨r, xs, h1, h2, h3, _⟩
  · rw [h1] at hj; cases hj
  · rw [h1] at hj; injection hj with hj; omega
/-- two that grow, of elements of another size -/
theorem Grows.apart {t t' sz sz' : Nat} {v u : AV} {es xs : List (List AV)} (h : Grows t sz H0 H1 v es) (k : Grows t' sz' H2 H1 u xs) (hs : sz ≠ sz') {j : Nat} (hj : ∃ n, u = .osl j sz' 0 n) : ∀ n, v ≠ .osl j sz 0 n := by
  obtain ⟨n, hn⟩ := hj
  refine h.not fun ys e => ?_
  rcases k with ⟨h1, _⟩ | ⟨r, xs, h1, _, _, h4, _⟩
  · rw [h1] at hn; cases hn
  · rw [h1] at hn; injection hn with hn; subst hn; rw [h4] at e; injection e with e; injection e with e1 e2; exact hs e2.symm
theorem Grows.wf {t sz : Nat} {v : AV} {es : List (List AV)} (h : Grows t sz H0 H1 v es) (hw : WF H2) (hk : H1.le H2) : Grows t sz H0 H2 v es := by
  rcases h with h | ⟨r, xs, h1, h2, h3, h4, h5, h6⟩
  · exact .inl h
  · exact .inr ⟨r, xs, h1, h2, (hw _ _ (hk _ _ h4)).1, hk _ _ h4, h5, h6⟩
theorem DtR.set {xs : List (List AV)} {i : Nat} {e : List AV} (h : DtR xs) (he : ∀ a ∈ e, Dt a) : DtR (xs.set i e) := fun x hx => by
  rcases List.mem_or_eq_of_mem_set hx with hx | hx
  · exact h x hx
  · subst hx; exact he
/-- an element is set anew -/
theorem Grows.put {t sz r n q : Nat} {es xs : List (List AV)} {e : List AV} (h : Grows t sz H0 H1 (.osl r sz 0 n) es) (hg : H1.get r = some (.row t sz xs)) (he : ∀ a ∈ e, Dt a) : Grows t sz H0 (H1.put r (.row t sz (xs.set q e))) (.osl r sz 0 n) (es.set q e) := by
  rcases h with ⟨h1, _⟩ | ⟨r', xs', h1, h2, h3, h4, h5, h6⟩
  · cases h1
  · injection h1 with e1 _ _ e2
    subst e1
    rw [hg] at h4
    injection h4 with h4
    injection h4 with _ _ h4
    subst h4
    refine .inr ⟨r, xs.set q e, by rw [List.length_set, e2], h2, h3, AH.get_put_self, ?_, h6.set he⟩
    rw [List.length_set, List.take_set, h5]
/-- what was there is as it was -/
def Kp (H H1 : AH) : Prop := H.nx ≤ H1.nx ∧ ∀ j, j < H.nx → H1.get j = H.get j
theorem Kp.refl (H : AH) : Kp H H := ⟨Nat.le_refl _, fun _ _ => rfl⟩
theorem Kp.trans (h : Kp H H1) (k : Kp H1 H2) : Kp H H2 := ⟨Nat.le_trans h.1 k.1, fun j hj => (k.2 j (Nat.lt_of_lt_of_le hj h.1)).trans (h.2 j hj)⟩
theorem Kp.up {n : Nat} (h : Kp H H1) : Kp H (H1.up n) := ⟨Nat.le_trans h.1 (Nat.le_add_right _ _), h.2⟩
theorem Kp.put {i : Nat} {o : AO} (hi : H.nx ≤ i) (h : Kp H H1) : Kp H (H1.put i o) := ⟨h.1, fun j hj => by rw [AH.get_put_ne (by omega)]; exact h.2 j hj⟩
theorem Kp.kill {i : Nat} (hi : H.nx ≤ i) (h : Kp H H1) : Kp H (H1.kill i) := Kp.put hi h
theorem Kp.le (h : Kp H H1) (hw : WF H) : H.le H1 := fun i o ho => by rw [h.2 i (hw i o ho).1]; exact ho
end
end Go.Proofs.Ytgkkilbeingleaa

/- Readings of what came in: each argument that can be read as data stands for a plain thing whose bulk is no greater. Nothing of the program is named here. -/
namespace Go.Proofs.Ytgkkilbeingleaa
open Go.ChangeShapes Go.WideShapes Go.RowKit

/-- what can be read at a type stands for something -/
def Opens {α : Type} (P : Program) (t : TypeId) (ρ : Rep α) : Prop :=
  ∀ (H : Type) (enc : TypeId × Value → H) (w : World) (base : Nat) (spare : Nat → Bool) (held : Bool) (fuel : Nat) (cs : List Value) (x : DataW H × List MemPlace),
    DataW.trod enc P w base spare held fuel t cs = some x → ∃ y, ρ.R w (fun b => b < w.heap.size) cs y ∧ ρ.bulk y ≤ Rows.uptoBulk x.1

theorem bulk_pos {H : Type} (d : DataW H) : 1 ≤ Rows.uptoBulk d := by
  cases d with
  | lit l => cases l <;> simp [Rows.uptoBulk]
  | _ => simp [Rows.uptoBulk]
theorem opens_int {P : Program} {t : TypeId} (ht : P.underlying t = some (.int .i64)) : Opens P t rInt := by
  intro H enc w base spare held fuel cs x h
  obtain ⟨n, rfl, rfl, hw⟩ := DataW.trod_int ht h
  refine ⟨n, ⟨rfl, ?_⟩, bulk_pos _⟩
  simp only [Lit.wf, Bool.and_eq_true, decide_eq_true_eq] at hw
  exact hw
theorem pick {α : Type} {Q : Nat → α → Prop} : ∀ n, (∀ i, i < n → ∃ y, Q i y) → ∃ ys : List α, ys.length = n ∧ ∀ i y, ys[i]? = some y → Q i y
  | 0, _ => ⟨[], rfl, by simp⟩
  | n + 1, h => by
    obtain ⟨ys, hl, hq⟩ := pick n fun i hi => h i (by omega)
    obtain ⟨y, hy⟩ := h n (by omega)
    refine ⟨ys ++ [y], by simp [hl], fun i z hz => ?_⟩
    by_cases hi : i < ys.length
    · rw [List.getElem?_append_left hi] at hz; exact hq i z hz
    · rw [List.getElem?_append_right (by omega)] at hz
      have h0 : i - ys.length = 0 := by have := (List.getElem?_eq_some_iff.1 hz).1; simp at this; omega
      rw [h0] at hz
      simp at hz; subst hz
      obtain rfl : i = n := by omega
      exact hy
theorem sum_le {α H : Type} (f : α → Nat) : ∀ (ys : List α) (ds : List (DataW H)), ys.length = ds.length → (∀ (i : Nat) (y : α) (d : DataW H), ys[i]? = some y → ds[i]? = some d → f y ≤ Rows.uptoBulk d) → (ys.map f).sum ≤ Rows.uptoBulkAll ds
  | [], _, _, _ => by simp
  | y :: ys, [], h, _ => by simp at h
  | y :: ys, d :: ds, h, hf => by
    have ih := sum_le f ys ds (by simpa using h) fun i y d hy hd => hf (i + 1) y d (by simpa using hy) (by simpa using hd)
    have h0 := hf 0 y d rfl rfl
    simp only [List.map_cons, List.sum_cons, Rows.uptoBulkAll]; omega
theorem opens_slice {α : Type} {ρ : Rep α} {P : Program} {t e : TypeId} (ht : P.underlying t = some (.slice e)) (hs : P.cellsOf e = ρ.size) (hp : 0 < ρ.size) (he : Opens P e ρ) : Opens P t (rList ρ) := by
  intro H enc w base spare held fuel cs x h
  rcases DataW.trod_slice ht h with ⟨rfl, rfl⟩ | ⟨a, len, cap, elems, rest, n, _, rfl, rfl, _, hl, hm, hlen, hel, _, _⟩
  · exact ⟨[], ⟨none, 0, rfl, Sl.nil_⟩, by simp [rList, Rows.uptoBulk]⟩
  · have key : ∀ i, i < len → ∃ y, (a.block < w.heap.size ∧ (∃ u, ρ.R w (fun b => b < w.heap.size) u y ∧ ∀ j z, u[j]? = some z → w.cell? (a.add (i * ρ.size + j)) = some z)) ∧ ∀ d, (elems.map (·.1))[i]? = some d → ρ.bulk y ≤ Rows.uptoBulk d := by
      intro i hi
      have h1 := hel i hi
      rw [List.getElem?_eq_getElem (by omega)] at h1
      cases hc : w.cells? base (a.add (i * P.cellsOf e)) (P.cellsOf e) with
      | none => rw [hc] at h1; simp at h1
      | some us =>
        rw [hc] at h1
        simp only [Option.bind_some] at h1
        obtain ⟨y, hy, hb⟩ := he H enc w base spare held n us _ h1
        obtain ⟨_, hcl, hat⟩ := World.cells?_some hc
        have hcell : ∀ j z, us[j]? = some z → w.cell? (a.add (i * ρ.size + j)) = some z := by
          intro j z hz
          have hj : j < P.cellsOf e := by have := (List.getElem?_eq_some_iff.1 hz).1; omega
          have := hat j hj
          rw [hz, add_of_add, hs] at this; exact this
        refine ⟨y, ⟨?_, us, hy, hcell⟩, fun d hd => ?_⟩
        · have h0 : 0 < us.length := by rw [ρ.len hy]; exact hp
          have := World.block_lt_of_cell? w _ (hcell 0 _ (List.getElem?_eq_getElem h0))
          rwa [block_of_add] at this
        · rw [List.getElem?_map, List.getElem?_eq_getElem (by omega)] at hd
          simp at hd; subst hd; exact hb
    obtain ⟨ys, hyl, hq⟩ := pick len key
    refine ⟨ys, ⟨some a, cap, by rw [hyl], by omega, hm, fun i y hy => ?_⟩, ?_⟩
    · obtain ⟨⟨hb, u, hr, hc⟩, _⟩ := hq i y hy
      exact ⟨a, u, rfl, hb, hr, hc⟩
    · have := sum_le ρ.bulk ys (elems.map (·.1)) (by rw [List.length_map]; omega) fun i y d hy hd => (hq i y hy).2 d hd
      simp only [rList, Rows.uptoBulk]; omega
/-- fields from a place on -/
def OpensL {α : Type} (P : Program) (l : List Field) (off : Nat) (ρ : Rep α) : Prop :=
  ∀ (H : Type) (enc : TypeId × Value → H) (w : World) (base : Nat) (spare : Nat → Bool) (held : Bool) (fuel : Nat) (cs : List Value) (xs : List (DataW H × List MemPlace)),
    cs.length = off + ρ.size → xs.length = l.length → (∀ (i : Nat) (f : Field), l[i]? = some f → DataW.trod enc P w base spare held fuel f.type ((cs.drop f.offset).take (P.cellsOf f.type)) = xs[i]?) →
    ∃ y, ρ.R w (fun b => b < w.heap.size) (cs.drop off) y ∧ ρ.bulk y ≤ Rows.uptoBulkAll (xs.map (·.1))
theorem opens_last {α : Type} {ρ : Rep α} {P : Program} {f : Field} {off : Nat} (ho : f.offset = off) (hs : P.cellsOf f.type = ρ.size) (hf : Opens P f.type ρ) : OpensL P [f] off ρ := by
  intro H enc w base spare held fuel cs xs hl hx h
  match xs, hx with
  | [x], _ =>
    have h0 := h 0 f rfl
    rw [ho, hs, List.take_of_length_le (by rw [List.length_drop]; omega)] at h0
    obtain ⟨y, hy, hb⟩ := hf H enc w base spare held fuel _ x h0
    exact ⟨y, hy, by simp only [List.map_cons, List.map_nil, Rows.uptoBulkAll]; omega⟩
theorem opens_more {α β : Type} {ρ : Rep α} {σ : Rep β} {P : Program} {f : Field} {l : List Field} {off : Nat} (ho : f.offset = off) (hs : P.cellsOf f.type = ρ.size) (hf : Opens P f.type ρ) (hl : OpensL P l (off + ρ.size) σ) :
    OpensL P (f :: l) off (rPair ρ σ) := by
  intro H enc w base spare held fuel cs xs hcs hx h
  match xs, hx with
  | x :: xs, hx =>
    have h0 := h 0 f rfl
    rw [ho, hs] at h0
    have hz : (rPair ρ σ).size = ρ.size + σ.size := rfl
    obtain ⟨y, hy, hb⟩ := hf H enc w base spare held fuel _ x h0
    obtain ⟨z, hz, hb'⟩ := hl H enc w base spare held fuel cs xs (by omega) (by simpa using hx) fun i f hi => h (i + 1) f (by simpa using hi)
    refine ⟨(y, z), ⟨_, _, ?_, hy, hz⟩, ?_⟩
    · rw [← List.drop_drop, List.take_append_drop]
    · simp only [rPair, List.map_cons, Rows.uptoBulkAll]; omega
theorem opens_struct {α : Type} {ρ : Rep α} {P : Program} {t : TypeId} {l : List Field} (ht : P.underlying t = some (.struct l.toArray)) (hs : P.cellsOf t = ρ.size) (hl : OpensL P l 0 ρ) : Opens P t ρ := by
  intro H enc w base spare held fuel cs x h
  obtain ⟨xs, n, _, rfl, hcs, hx, hf⟩ := DataW.trod_struct ht h
  obtain ⟨y, hy, hb⟩ := hl H enc w base spare held n cs xs (by omega) (by simpa using hx) fun i f hi => hf i f (by simpa using hi)
  exact ⟨y, by simpa using hy, by simp only [Rows.uptoBulk]; omega⟩
section
variable {H : Type} {enc : TypeId × Value → H} {P : Program} {w : World} {base b0 : Nat} {spare : Nat → Bool} {held : Bool} {r : Reach} {t : TypeId} {v : Value} {d : DataW H} {ps : List MemPlace} {α : Type} {ρ : Rep α}
/-- an argument that is a struct -/
theorem arg_struct {fs : Array Field} (ho : Opens P t ρ) (hs : P.underlying t = some (.struct fs)) (hv : Value.okWide P w r b0 t v) (h : DataW.Trod enc P w base spare held t v d ps) :
    ∃ cs y, v = .agg cs ∧ ρ.R w (fun b => b < w.heap.size) cs.toList y ∧ ρ.bulk y ≤ Rows.uptoBulk d := by
  obtain ⟨cs, rfl, hsz⟩ := okWide_struct hs hv
  obtain ⟨fuel, hf⟩ := h
  obtain ⟨y, hy, hb⟩ := ho H enc w base spare held fuel _ _ hf
  exact ⟨cs, y, rfl, hy, hb⟩
/-- an argument that is a slice -/
theorem arg_slice {e : TypeId} (ho : Opens P t (rList ρ)) (hs : P.underlying t = some (.slice e)) (hv : Value.okWide P w r b0 t v) (h : DataW.Trod enc P w base spare held t v d ps) :
    ∃ A c ys, v = .slice A ys.length c ∧ Sl ρ w (fun b => b < w.heap.size) A c ys ∧ (ys.map ρ.bulk).sum + 1 ≤ Rows.uptoBulk d := by
  obtain ⟨a, n, c, rfl⟩ := okWide_slice hs hv
  obtain ⟨fuel, hf⟩ := h
  obtain ⟨ys, ⟨A, c', e, hy⟩, hb⟩ := ho H enc w base spare held fuel _ _ hf
  simp only [Value.cells, List.cons.injEq, and_true, Value.slice.injEq] at e
  obtain ⟨rfl, rfl, rfl⟩ := e
  exact ⟨_, _, ys, rfl, hy, hb⟩
end
end Go.Proofs.Ytgkkilbeingleaa

/- From what came in to abstract values, and from an abstract walk to a law's end. Nothing of the program is named here. -/
namespace Go.Proofs.Ytgkkilbeingleaa
open Go.RowKit Go.Maps Go.ChangeShapes Go.WideShapes

/-- cells that stand for abstract data -/
def RpsD (w : World) (S : Nat → Prop) (ps : List AV) (cs : List Value) : Prop := ps.length = cs.length ∧ ∀ (i : Nat) (a : AV) (v : Value), ps[i]? = some a → cs[i]? = some v → RpD w S a v
/-- what a reading stands for, told abstractly -/
def AvsG {α β : Type} (ρ : Rep α) (g : α → β) (av : β → List AV) (ok : β → Prop) : Prop := ∀ w S cs y, ρ.R w S cs y → ok (g y) ∧ RpsD w S (av (g y)) cs
theorem RpsD.one {w : World} {S : Nat → Prop} {a : AV} {v : Value} (h : RpD w S a v) : RpsD w S [a] [v] := by
  refine ⟨rfl, fun i b u hb hu => ?_⟩
  cases i with
  | zero => simp at hb hu; subst hb; subst hu; exact h
  | succ i => simp at hb
theorem RpsD.append {w : World} {S : Nat → Prop} {ps bs : List AV} {vs us : List Value} (h : RpsD w S ps vs) (h' : RpsD w S bs us) : RpsD w S (ps ++ bs) (vs ++ us) := by
  refine ⟨by simp [h.1, h'.1], fun i a v ha hv => ?_⟩
  by_cases hi : i < ps.length
  · rw [List.getElem?_append_left hi] at ha
    rw [List.getElem?_append_left (by rw [← h.1]; exact hi)] at hv
    exact h.2 i a v ha hv
  · rw [List.getElem?_append_right (by omega)] at ha
    rw [List.getElem?_append_right (by rw [← h.1]; omega), ← h.1] at hv
    exact h'.2 _ a v ha hv
theorem avs_int : AvsG rInt id (fun i => [.p (.int .i64 i)]) I64 := fun w S cs y h => by
  obtain ⟨rfl, h⟩ := h; exact ⟨h, .one (.p _ rfl)⟩
section
variable {α β γ δ : Type} {ρ : Rep α} {σ : Rep γ} {g : α → β} {h : γ → δ} {av : β → List AV} {bv : δ → List AV} {ok : β → Prop} {ok' : δ → Prop}
theorem AvsG.map (k : AvsG ρ g av ok) (f : β → γ) (av' : γ → List AV) (ok' : γ → Prop) (h1 : ∀ y, av y = av' (f y)) (h2 : ∀ y, ok y → ok' (f y)) : AvsG ρ (fun x => f (g x)) av' ok' := fun w S cs y hr => by
  obtain ⟨q1, q2⟩ := k w S cs y hr
  exact ⟨h2 _ q1, by rw [← h1]; exact q2⟩
theorem AvsG.pair (k : AvsG ρ g av ok) (l : AvsG σ h bv ok') : AvsG (rPair ρ σ) (fun x => (g x.1, h x.2)) (fun z => av z.1 ++ bv z.2) (fun z => ok z.1 ∧ ok' z.2) := fun w S cs y hr => by
  obtain ⟨c, d, rfl, h1, h2⟩ := hr
  obtain ⟨q1, q2⟩ := k w S c y.1 h1
  obtain ⟨r1, r2⟩ := l w S d y.2 h2
  exact ⟨⟨q1, r1⟩, q2.append r2⟩
theorem sl_rpd (k : AvsG ρ g av ok) (hs : 0 < ρ.size) {w : World} {S : Nat → Prop} {A : Option Addr} {c : Nat} {xs : List α} (h : Sl ρ w S A c xs) : (∀ y ∈ xs, ok (g y)) ∧ RpD w S (.dsl ρ.size ((xs.map g).map av)) (.slice A xs.length c) := by
  obtain ⟨h1, h2, h3⟩ := h
  refine ⟨fun y hy => ?_, ?_⟩
  · obtain ⟨i, hi⟩ := List.getElem?_of_mem hy
    obtain ⟨ad, u, _, _, hr, _⟩ := h3 i y hi
    exact (k w S u y hr).1
  have hl : ((xs.map g).map av).length = xs.length := by simp
  have hcell : ∀ (i : Nat) (x : α), xs[i]? = some x → ∃ g' o, A = some ⟨g', o, none⟩ ∧ S g' ∧ ∃ u, ρ.R w S u x ∧ ∀ j z, u[j]? = some z → w.cell? ⟨g', o + i * ρ.size + j, none⟩ = some z := by
    intro i x hx
    have h0 : 0 < xs.length := by have := (List.getElem?_eq_some_iff.1 hx).1; omega
    obtain ⟨ad0, u0, e0, s0, r0, c0⟩ := h3 0 _ (List.getElem?_eq_getElem h0)
    have hu0 : 0 < u0.length := by rw [ρ.len r0]; exact hs
    have hc := c0 0 _ (List.getElem?_eq_getElem hu0)
    obtain ⟨b, o, sp⟩ := ad0
    have hsp : sp = none := by
      simp only [Nat.zero_mul, Nat.add_zero, Addr.add, if_pos] at hc
      unfold World.cell? at hc
      split at hc
      · split at hc
        · cases hc
        · rename_i hsp; cases sp with
          | none => rfl
          | some _ => exact absurd rfl hsp
      · cases hc
    subst hsp
    obtain ⟨ad, u, e, s, r, c⟩ := h3 i x hx
    rw [e0] at e; injection e with e; subst e
    refine ⟨b, o, e0, s, u, r, fun j z hz => ?_⟩
    have := c j z hz
    rw [addr_add] at this
    rw [Nat.add_assoc]; exact this
  have hel : ∀ (i : Nat) (e : List AV), ((xs.map g).map av)[i]? = some e → ∃ x, xs[i]? = some x ∧ e = av (g x) := by
    intro i e he
    rw [List.getElem?_map, List.getElem?_map] at he
    cases hx : xs[i]? with
    | none => rw [hx] at he; cases he
    | some x => rw [hx] at he; injection he with he; exact ⟨x, rfl, he.symm⟩
  have := RpD.dsl (w := w) (S := S) ρ.size ((xs.map g).map av) A c
    (fun i j => match A with
      | some a => if (xs[i]?).isSome ∧ j < ρ.size then (w.cell? ⟨a.block, a.off + i * ρ.size + j, none⟩).getD (.bool false) else .bool false
      | none => .bool false) (by omega) h2 (fun e he => ?_) (fun i e j a he ha => ?_) (fun i e j a he ha => ?_) (fun i j => ?_)
  · rw [hl] at this; exact this
  · obtain ⟨i, hi⟩ := List.getElem?_of_mem he
    obtain ⟨x, hx, rfl⟩ := hel i e hi
    obtain ⟨_, _, _, _, u, hr, _⟩ := hcell i x hx
    rw [(k w S u x hr).2.1, ρ.len hr]
  · obtain ⟨x, hx, rfl⟩ := hel i e he
    obtain ⟨g', o, rfl, hg, u, hr, hc⟩ := hcell i x hx
    have hj : j < u.length := by rw [← (k w S u x hr).2.1]; exact (List.getElem?_eq_some_iff.1 ha).1
    have hjs : j < ρ.size := by rw [← ρ.len hr]; exact hj
    refine ⟨g', o, rfl, hg, ?_⟩
    have := hc j _ (List.getElem?_eq_getElem hj)
    simp only [hx, Option.isSome_some, hjs, and_self, if_true, this, Option.getD_some]
  · obtain ⟨x, hx, rfl⟩ := hel i e he
    obtain ⟨g', o, rfl, hg, u, hr, hc⟩ := hcell i x hx
    have hj : j < u.length := by rw [← (k w S u x hr).2.1]; exact (List.getElem?_eq_some_iff.1 ha).1
    have hjs : j < ρ.size := by rw [← ρ.len hr]; exact hj
    have := hc j _ (List.getElem?_eq_getElem hj)
    simp only [hx, Option.isSome_some, hjs, and_self, if_true, this, Option.getD_some]
    exact (k w S u x hr).2.2 j a _ ha (List.getElem?_eq_getElem hj)
  · cases A with
    | none => rfl
    | some a =>
      dsimp only
      split
      · rename_i hij
        obtain ⟨x, hx⟩ := Option.isSome_iff_exists.1 hij.1
        obtain ⟨g', o, e, hg, u, hr, hc⟩ := hcell i x hx
        injection e with e; subst e
        have hj : j < u.length := by rw [ρ.len hr]; exact hij.2
        rw [hc j _ (List.getElem?_eq_getElem hj)]
        exact ρ.one hr _ (List.getElem_mem hj)
      · rfl
theorem AvsG.list (k : AvsG ρ g av ok) (hs : 0 < ρ.size) : AvsG (rList ρ) (List.map g) (fun zs => [.dsl ρ.size (zs.map av)]) (fun zs => ∀ z ∈ zs, ok z) := fun w S cs y hr => by
  obtain ⟨A, c, rfl, hsl⟩ := hr
  obtain ⟨q1, q2⟩ := sl_rpd k hs hsl
  refine ⟨fun z hz => ?_, .one q2⟩
  obtain ⟨x, hx, rfl⟩ := List.mem_map.1 hz
  exact q1 x hx
/-- an argument that is a struct, told abstractly -/
theorem AvsG.agg (k : AvsG ρ g av ok) {w : World} {S : Nat → Prop} {σ' : Nat → Option Value} {cs : Array Value} {y : α} (hr : ρ.R w S cs.toList y) : ok (g y) ∧ Rp w S σ' (.agg (av (g y))) (.agg cs) := by
  obtain ⟨q1, q2, q3⟩ := k w S cs.toList y hr
  exact ⟨q1, .data _ _ (.agg _ _ (by simpa using q2) (fun i a v ha hv => q3 i a v ha (by simpa using hv)) fun v hv => ρ.one hr v (by simpa using hv))⟩
/-- an argument that is a slice, told abstractly -/
theorem AvsG.sl (k : AvsG ρ g av ok) (hs : 0 < ρ.size) {w : World} {S : Nat → Prop} {σ' : Nat → Option Value} {A : Option Addr} {c : Nat} {xs : List α} (h : Sl ρ w S A c xs) : (∀ z ∈ xs.map g, ok z) ∧ Rp w S σ' (.dsl ρ.size ((xs.map g).map av)) (.slice A xs.length c) := by
  obtain ⟨q1, q2⟩ := sl_rpd k hs h
  refine ⟨fun z hz => ?_, .data _ _ q2⟩
  obtain ⟨x, hx, rfl⟩ := List.mem_map.1 hz
  exact q1 x hx
end
/-- a walk from nothing held, to the law's end -/
theorem law_calls {P : Program} {f : FuncId} {ps : List AV} {us : List Value} {W : World} {r : Value} (h : Tri P f ps ⟨0, []⟩ (fun v _ => v = .p r)) (hr : Rps W (fun b => b < W.heap.size) (fun _ => none) ps us) :
    Calls P f us.toArray W fun e W' => e = .returned r ∧ Below W.heap.size W W' := by
  have hs : Sat P W (fun b => b < W.heap.size) (fun _ => none) ⟨0, []⟩ := ⟨fun b hb => hb, fun id u hu => by (cases hu), fun id o ho => by (cases ho), fun i j o o' b hi => by (cases hi), fun i o b hi => by (cases hi), fun i A n c h => by (cases h)⟩
  refine (h W _ _ us hs hr).mono fun e W' ⟨v, S', σ', r', H', h1, h2, h3, h4, h5, _⟩ => ?_
  subst h2
  obtain ⟨rfl, _⟩ := h4.p_inv
  exact ⟨h1, h5.os, h5.tape, h5.output, h5.size, fun b hb => h5.keep b hb fun ⟨i, o, hi, _⟩ => by (cases hi)⟩
/-- a result may be told with less -/
theorem Tri.res {P : Program} {f : FuncId} {ps : List AV} {H : AH} {Q Q' : AV → AH → Prop} (h : Tri P f ps H Q) (hq : ∀ r H', Q r H' → ∃ r', Sub P H' r r' ∧ Q' r' H') : Tri P f ps H Q' := fun w S σ us hs hr =>
  (h w S σ us hs hr).mono fun e w' ⟨v, S', σ', r, H', h1, h2, h3, h4, h5⟩ => by
    obtain ⟨r', q1, q2⟩ := hq r H' h2
    exact ⟨v, S', σ', r', H', h1, q2, h3, q1 _ _ _ _ h3 h4, h5⟩
end Go.Proofs.Ytgkkilbeingleaa

/- More of abstract walks: appends in drawn regions. Nothing of the program is named here. -/
namespace Go.Proofs.Ytgkkilbeingleaa
open Go.RowKit Go.Maps
section
variable {P : Program} {w : World} {S : Nat → Prop} {σ : Nat → Option Value} {H H0 H1 H2 V : AH} {B : Nat}
theorem Cl.mono {a : AV} {B B' : Nat} (h : Cl B a) (hb : B ≤ B') : Cl B' a := fun w S σ v hr => (h w S σ v hr).mono (fun _ h => h) (fun _ _ => rfl) (fun id u hu => by
  obtain ⟨h1, h2⟩ := cutS_some hu
  rw [cutS_lt (by omega)]; exact h2)
theorem ClO.mono {o : AO} {B B' : Nat} (h : ClO B o) (hb : B ≤ B') : ClO B' o := by
  cases o with
  | box t cs => exact fun a ha => Cl.mono (h a ha) hb
  | row t sz es => exact fun e he a ha => Cl.mono (h e he a ha) hb
  | crow t sz c es => exact fun e he a ha => Cl.mono (h e he a ha) hb
  | map kt n f => exact fun k a ha => Cl.mono (h k a ha) hb
  | smap kt n f st c => exact fun k a ha => Cl.mono (h k a ha) hb
  | miter m st c vis => exact Nat.lt_of_lt_of_le (show m < B from h) hb
  | _ => trivial
theorem WF.up (h : WF H) (n : Nat) : WF (H.up n) := fun id o ho => ⟨Nat.lt_of_lt_of_le (h id o ho).1 (Nat.le_add_right _ _), ClO.mono (h id o ho).2 (Nat.le_add_right _ _)⟩
theorem WF.put (h : WF H) {i : Nat} {o : AO} (hi : i < H.nx) (hc : ClO H.nx o) : WF (H.put i o) := fun id o' ho => by
  by_cases e : id = i
  · subst e; rw [AH.get_put_self] at ho; injection ho with ho; subst ho; exact ⟨hi, hc⟩
  · rw [AH.get_put_ne e] at ho; exact h id o' ho
theorem WF.box (h : WF H) {i : Nat} {t : TypeId} {cs : List AV} (hi : i < H.nx) (hc : Clo H.nx cs) : WF (H.put i (.box t cs)) := h.put hi hc
theorem DtR.clo {es : List (List AV)} (h : ∀ e ∈ es, ∀ a ∈ e, ∃ v, a = .p v ∨ ∃ sz xs, a = .dsl sz xs) : ∀ e ∈ es, Clo B e := fun e he a ha => by
  obtain ⟨v, rfl | ⟨sz, xs, rfl⟩⟩ := h e he a ha
  · exact Cl.p _
  · exact Cl.dsl _ _
/-- what holds a slice that grew is given back with it as data -/
theorem Grows.rt_in {M : AH} {t sz : Nat} {u v v' : AV} {es : List (List AV)} {Q : AV → AH → Prop} (h : Grows t sz M H1 u es) (hwM : WF M) (hle : M.le H1) (hn : M.nx ≤ H1.nx) (hw : WF H0) (h0 : H0.le M) (hn0 : H0.nx ≤ M.nx)
    (hs : ∀ H2, Sub P H2 u (.dsl sz es) → Sub P H2 v v') (hc : Cl H0.nx v') (hq : Q v' H0) : Rt P H0.nx v Q H1 := by
  obtain ⟨H2, k1, k2, k3, _, k4⟩ := h.fz (P := P) hwM hle hn
  exact Gh.step ((GW.st k1 (by omega)).trans (GW.sub (.cons (hs _ k4) .nil) (by omega))) (Gh.back hw (h0.trans k2) (.one hc) ⟨_, rfl, hq⟩)
/-- what holds slices is given back told anew -/
theorem rt_sub {v v' : AV} {Q : AV → AH → Prop} (hw : WF H0) (h0 : H0.le H1) (hn : H0.nx ≤ H1.nx) (hs : Sub P H1 v v') (hc : Cl H0.nx v') (hq : Q v' H0) : Rt P H0.nx v Q H1 :=
  Gh.step (GW.sub (.cons hs .nil) hn) (Gh.back hw h0 (.one hc) ⟨_, rfl, hq⟩)
/-- an append in a drawn region to what it has laid -/
theorem wrf_row {tgt src : Option Nat} {id r off n t sz bytes : Nat} {es ys : List (List AV)} {x : AV} {k : AV → AH → Prop} (ht : tgt = some r) (h1 : V.get r = none) (h2 : H.get r = some (.row t sz es)) (h3 : off + n ≤ es.length) (h4 : ElF V H src sz x ys) (h5 : n + ys.length ≤ maxLen) (h6 : (n + ys.length) * bytes ≤ 140737488355328)
    (hk : k (.osl id sz 0 (n + ys.length)) ((H.kill r).put id (.row t sz ((es.drop off).take n ++ ys)))) : WrF V tgt src id (.app t sz bytes) [.osl r sz off n, x] k H := ⟨_, _, .app_row t sz bytes r off n es ys x H ht h1 h2 h3 h4 h5 h6, hk⟩
theorem elF_whole {src : Option Nat} {sz i n : Nat} {t : TypeId} {es : List (List AV)} (hs : src = some i) (hg : H.get i = some (.row t sz es)) (hn : n = es.length) : ElF V H src sz (.osl i sz 0 n) es := by
  subst hn
  have := ElF.new (V := V) (H := H) (src := src) (sz := sz) i 0 es.length t es hs hg (by omega)
  rwa [List.drop_zero, List.take_length] at this
/-- a range over a map begins -/
theorem nd_bs0 {id : Nat} {e : TypeId} {k : AV → AH → Prop} (hk : ∀ g : Nat, k (.p (.slice (some ⟨g, 0, none⟩) 0 0)) (H.put id (.row e 1 []))) : Nd P id (.bs0 e) [] k H :=
  ⟨_, .bs0 e, fun a H' ⟨g, h1, h2⟩ => by subst h1; subst h2; exact hk g⟩
/-- an entry of a map is looked for, and laid if there is none; what stands in it is written -/
theorem nd_ment {id m n : Nat} {kt : TypeId} {z key : AV} {u : Value} {f : Value → Option AV} {k : AV → AH → Prop} (hg : mapOf (H.get m) = some (kt, n, f)) (K : Keyed P kt) (hv : key.val = some u) (hk : (keyOf P kt u).isSome = true) (hn : n < maxLen)
    (h : ∀ st c, k (.tup [(f u).getD z, .p (.int .i64 (st u : Nat))]) (H.put m (.smap kt (n + 1) (putA f u ((f u).getD z)) st c))) : Nd P id (.ment kt z) [.mp m, key] k H :=
  ⟨_, .ment kt z m n f key u hg K hv hk hn, fun a H' ⟨st, c, e1, e2⟩ => by subst e1; subst e2; exact h st c⟩
theorem nd_est {id m n c : Nat} {kt : TypeId} {u : Value} {s : Int} {x : AV} {f : Value → Option AV} {st : Value → Nat} {k : AV → AH → Prop} (hg : H.get m = some (.smap kt n f st c)) (K : Keyed P kt) (hk : (keyOf P kt u).isSome = true) (hf : (f u).isSome = true) (hs : ((st u : Nat) : Int) = s) (hn : n < maxLen)
    (h : k .any (H.put m (.map kt (n + 1) (putA f u x)))) : Nd P id (.est kt) [.mp m, .p (.int .i64 s), x] k H :=
  ⟨_, .est kt m n f st c u s x hg K hk hf hs hn, fun a H' ⟨e1, e2⟩ => by subst e1; subst e2; exact h⟩
theorem nd_rng {id m n : Nat} {kt : TypeId} {f : Value → Option AV} {k : AV → AH → Prop} (hg : mapOf (H.get m) = some (kt, n, f)) (K : Keyed P kt) (hk : ∀ st c, k (.ptr id 0) ((H.put m (.smap kt n f st c)).put id (.miter m st c []))) : Nd P id (.rng kt) [.mp m] k H :=
  ⟨_, .rng kt m n f hg K, fun a H' ⟨st, c, e1, e2⟩ => by subst e1; subst e2; exact hk st c⟩
/-- a step of a range -/
theorem nd_nxt {id it m c n : Nat} {st : Value → Nat} {vis : List Value} {kt : TypeId} {f : Value → Option AV} {k : AV → AH → Prop} (hi : H.get it = some (.miter m st c vis)) (hm : H.get m = some (.smap kt n f st c)) (K : Keyed P kt) (hv : ∀ x ∈ vis, (f x).isSome = true ∧ (keyOf P kt x).isSome = true) (hd : vis.Nodup)
    (h0 : (∀ x, (keyOf P kt x).isSome = true → (f x).isSome = true → x ∈ vis) → k (.tup [.p (.bool false)]) H) (h1 : ∀ x v, (keyOf P kt x).isSome = true → f x = some v → x ∉ vis → vis.length < n → k (.tup [.p (.bool true), avOfV x, v]) (H.put it (.miter m st c (vis ++ [x])))) : Nd P id .nxt [.ptr it 0] k H :=
  ⟨_, .nxt it m st c vis kt n f hi hm K hv hd, fun a H' h => by
    rcases h with ⟨e1, e2, h⟩ | ⟨x, v, q1, q2, q3, q4, e1, e2⟩
    · subst e1; subst e2; exact h0 h
    · subst e1; subst e2; exact h1 x v q1 q2 q3 q4⟩
/-- the entry that was come to -/
theorem nd_ent {id it m c n : Nat} {st : Value → Nat} {vis : List Value} {kt : TypeId} {f : Value → Option AV} {x : Value} {v : AV} {k : AV → AH → Prop} (hi : H.get it = some (.miter m st c (vis ++ [x]))) (hm : H.get m = some (.smap kt n f st c)) (K : Keyed P kt) (hx : f x = some v) (hk : (keyOf P kt x).isSome = true)
    (h : k (.tup [avOfV x, v]) H) : Nd P id .ent [.ptr it 0] k H :=
  ⟨_, .ent it m st c vis kt n f x v hi hm K hx hk, fun a H' ⟨e1, e2⟩ => by subst e1; subst e2; exact h⟩
/-- a map's stamps are forgotten -/
theorem Gst.unstamp {m n c : Nat} {kt : TypeId} {f : Value → Option AV} {st : Value → Nat} (hg : H.get m = some (.smap kt n f st c)) : Gst P H (H.put m (.map kt n f)) :=
  ⟨Nat.le_refl _, fun w S σ hs => ⟨S, hs.retell hg (by obtain ⟨g, f', es, h1, h2, _, _, h3⟩ := hs.obj m _ hg; exact ⟨g, f', h1, h2, h3⟩) (fun _ => rfl), fun _ h => h, fun _ h => .inl h, fun _ h => h.retell hg rfl⟩⟩
end
end Go.Proofs.Ytgkkilbeingleaa

/- Abstract walks at this translation. -/
namespace Go.Proofs.Ytgkkilbeingleaa
open Go.RowKit
theorem mixed : Try.prog.follows .mixedOrders = true := by kernel_rfl
end Go.Proofs.Ytgkkilbeingleaa
