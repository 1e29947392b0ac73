/- Texts that the proof rests on, part 10: what each holds stands at its head. -/
import Derived.Test.YtpmnlikgldacaaaSv9

/- More of growing slices: told anew one behind the other; two that grow side by side. Nothing of the program is named here. -/
namespace Go.Proofs.Ytpmnlikgldacaaa
open Go.RowKit Go.Maps

section
variable {P : Program} {w : World} {S : Nat → Prop} {σ : Nat → Option Value} {H H0 H1 H2 H3 V : AH} {B : Nat}
theorem Gst.refl (H : AH) : Gst P H H := ⟨Nat.le_refl _, fun _w S _σ hs => ⟨S, hs, fun _ h => h, fun _ h => .inl h, fun _ h => h⟩⟩
theorem Gst.trans (h : Gst P H H1) (k : Gst P H1 H2) : Gst P H H2 := ⟨Nat.le_trans h.1 k.1, fun w S σ hs => by
  obtain ⟨S1, a1, a2, a3, a4⟩ := h.2 w S σ hs
  obtain ⟨S2, b1, b2, b3, b4⟩ := k.2 w S1 σ a1
  refine ⟨S2, b1, fun b hb => b2 b (a2 b hb), fun b hb => ?_, fun b hb => a4 b (b4 b hb)⟩
  rcases b3 b hb with hb | hb
  · exact a3 b hb
  · exact .inr (a4 b hb)⟩
theorem Grows.base {t sz : Nat} {v : AV} {es : List (List AV)} (h : Grows t sz H1 H2 v es) (hn : H0.nx ≤ H1.nx) : Grows t sz H0 H2 v es := by
  rcases h with h | ⟨r, xs, h1, h2, h3⟩
  · exact .inl h
  · exact .inr ⟨r, xs, h1, Nat.le_trans hn h2, h3⟩
/-- two that grow, of elements of another size -/
theorem Grows.apart {t t' sz sz' : Nat} {v u : AV} {es xs : List (List AV)} (h : Grows t sz H0 H1 v es) (k : Grows t' sz' H2 H1 u xs) (hs : sz ≠ sz') {j : Nat} (hj : ∃ n, u = .osl j sz' 0 n) : ∀ n, v ≠ .osl j sz 0 n := by
  obtain ⟨n, hn⟩ := hj
  refine h.not fun ys e => ?_
  rcases k with ⟨h1, _⟩ | ⟨r, xs, h1, _, _, h4, _⟩
  · rw [h1] at hn; cases hn
  · rw [h1] at hn; injection hn with hn; subst hn; rw [h4] at e; injection e with e; injection e with e1 e2; exact hs e2.symm
theorem Grows.up_ {t sz : Nat} {v : AV} {es : List (List AV)} (h : Grows t sz H0 H1 v es) (hn : H1.nx ≤ H2.nx) (hk : ∀ j o, j < H1.nx → (∃ n, v = .osl j sz 0 n) → H1.get j = some o → H2.get j = some o) : Grows t sz H0 H2 v es := by
  rcases h with h | ⟨r, xs, h1, h2, h3, h4, h5, h6⟩
  · exact .inl h
  · exact .inr ⟨r, xs, h1, h2, by omega, hk r _ h3 ⟨_, h1⟩ h4, h5, h6⟩
theorem Grows.wf {t sz : Nat} {v : AV} {es : List (List AV)} (h : Grows t sz H0 H1 v es) (hw : WF H2) (hk : H1.le H2) : Grows t sz H0 H2 v es := by
  rcases h with h | ⟨r, xs, h1, h2, h3, h4, h5, h6⟩
  · exact .inl h
  · exact .inr ⟨r, xs, h1, h2, (hw _ _ (hk _ _ h4)).1, hk _ _ h4, h5, h6⟩
theorem DtR.set {xs : List (List AV)} {i : Nat} {e : List AV} (h : DtR xs) (he : ∀ a ∈ e, Dt a) : DtR (xs.set i e) := fun x hx => by
  rcases List.mem_or_eq_of_mem_set hx with hx | hx
  · exact h x hx
  · subst hx; exact he
/-- an element is set anew -/
theorem Grows.put {t sz r n q : Nat} {es xs : List (List AV)} {e : List AV} (h : Grows t sz H0 H1 (.osl r sz 0 n) es) (hg : H1.get r = some (.row t sz xs)) (he : ∀ a ∈ e, Dt a) : Grows t sz H0 (H1.put r (.row t sz (xs.set q e))) (.osl r sz 0 n) (es.set q e) := by
  rcases h with ⟨h1, _⟩ | ⟨r', xs', h1, h2, h3, h4, h5, h6⟩
  · cases h1
  · injection h1 with e1 _ _ e2
    subst e1
    rw [hg] at h4
    injection h4 with h4
    injection h4 with _ _ h4
    subst h4
    refine .inr ⟨r, xs.set q e, by rw [List.length_set, e2], h2, h3, AH.get_put_self, ?_, h6.set he⟩
    rw [List.length_set, List.take_set, h5]
/-- whatever slice it is, an element is read so -/
theorem elF_acc {sz : Nat} {a : AV} {es : List (List AV)} (h0 : 0 < sz) (h : elF H sz a = some es) {i : Nat} {e : List AV} (he : es[i]? = some e) : ∃ q : Nat → AV, (∀ (P : Program) (kd : IntKind) (k : AV → AH → Prop) (H' : AH), Pu P (.idx sz) [a, .p (.int kd (i : Int))] k H' = k (q 0) H') ∧
    (∀ (P : Program) (m j : Nat) (k : AV → AH → Prop) (H' : AH), Pu P (.addOff m) [q j] k H' = k (q (j + m)) H') ∧ ∀ j, atF H (q j) = some (e.drop j) := by
  have hi := (List.getElem?_eq_some_iff.1 he).1
  have row : ∀ (id off n : Nat) (o : Option AO) (ys : List (List AV)), ((ys.drop off).take n)[i]? = some e → ys[off + i]? = some e ∧ i < n := fun id off n o ys h => by
    rw [List.getElem?_take] at h
    split at h
    · rw [List.getElem?_drop] at h; exact ⟨h, by assumption⟩
    · cases h
  cases elF_iff.2 h with
  | dsl => exact ⟨fun j => .dptr sz es i j, fun P kd k H' => by rw [q_idx_dsl]; simp [h0, hi], fun P m j k H' => by rw [q_add_dptr], fun j => by rw [atF_dptr, he]; rfl⟩
  | row id off n t ys hg hn =>
    obtain ⟨h1, h2⟩ := row id off n none ys he
    exact ⟨fun j => .eptr id sz (off + i) j, fun P kd k H' => by rw [q_idx_osl]; simp [h2], fun P m j k H' => by rw [q_add_eptr], fun j => by rw [atF_eptr, hg, rowAt_row, h1]; rfl⟩
  | frz id off n ys hg hn =>
    obtain ⟨h1, h2⟩ := row id off n none ys he
    exact ⟨fun j => .eptr id sz (off + i) j, fun P kd k H' => by rw [q_idx_osl]; simp [h2], fun P m j k H' => by rw [q_add_eptr], fun j => by rw [atF_eptr, hg, rowAt_frz, h1]; rfl⟩
  | crow id off n c t ys hg hn =>
    obtain ⟨h1, h2⟩ := row id off n none ys he
    exact ⟨fun j => .eptr id sz (off + i) j, fun P kd k H' => by rw [q_idx_osl]; simp [h2], fun P m j k H' => by rw [q_add_eptr], fun j => by rw [atF_eptr, hg, rowAt_crow, h1]; rfl⟩
  | nil_ => simp at hi
theorem elF_len {sz : Nat} {a : AV} {es : List (List AV)} (h : elF H sz a = some es) : ∀ (P : Program) (k : AV → AH → Prop) (H' : AH), Pu P .len [a] k H' = k (.p (.int .i64 (es.length : Int))) H' := by
  intro P k H'
  cases elF_iff.2 h with
  | dsl => rw [q_len_dsl]
  | row id off n t ys hg hn => rw [q_len_osl, List.length_take, List.length_drop, show min n (ys.length - off) = n by omega]
  | frz id off n ys hg hn => rw [q_len_osl, List.length_take, List.length_drop, show min n (ys.length - off) = n by omega]
  | crow id off n c t ys hg hn => rw [q_len_osl, List.length_take, List.length_drop, show min n (ys.length - off) = n by omega]
  | nil_ => rw [q_len_nil]; rfl
theorem elF_le {sz : Nat} {a : AV} {es : List (List AV)} (h : elF H sz a = some es) (hle : H.le H1) : elF H1 sz a = some es := elF_iff.1 ((elF_iff.2 h).le hle)
/-- what was there is as it was -/
def Kp (H H1 : AH) : Prop := H.nx ≤ H1.nx ∧ ∀ j, j < H.nx → H1.get j = H.get j
theorem Kp.refl (H : AH) : Kp H H := ⟨Nat.le_refl _, fun _ _ => rfl⟩
theorem Kp.trans (h : Kp H H1) (k : Kp H1 H2) : Kp H H2 := ⟨Nat.le_trans h.1 k.1, fun j hj => (k.2 j (Nat.lt_of_lt_of_le hj h.1)).trans (h.2 j hj)⟩
theorem Kp.up {n : Nat} (h : Kp H H1) : Kp H (H1.up n) := ⟨Nat.le_trans h.1 (Nat.le_add_right _ _), h.2⟩
theorem Kp.put {i : Nat} {o : AO} (hi : H.nx ≤ i) (h : Kp H H1) : Kp H (H1.put i o) := ⟨h.1, fun j hj => by rw [AH.get_put_ne (by omega)]; exact h.2 j hj⟩
theorem Kp.kill {i : Nat} (hi : H.nx ≤ i) (h : Kp H H1) : Kp H (H1.kill i) := Kp.put hi h
theorem Kp.le (h : Kp H H1) (hw : WF H) : H.le H1 := fun i o ho => by rw [h.2 i (hw i o ho).1]; exact ho
theorem Grows.kp {t sz : Nat} {v : AV} {es : List (List AV)} (h : Grows t sz H0 H1 v es) (k : Kp H1 H2) : Grows t sz H0 H2 v es := h.same k.1 fun j hj _ => k.2 j hj
end
end Go.Proofs.Ytpmnlikgldacaaa

/- Readings of what came in: each argument that can be read as data stands for a plain thing whose bulk is no greater. Nothing of the program is named here. -/
namespace Go.Proofs.Ytpmnlikgldacaaa
open Go.ChangeShapes Go.WideShapes Go.RowKit

/-- what can be read at a type stands for something -/
def Opens {α : Type} (P : Program) (t : TypeId) (ρ : Rep α) : Prop :=
  ∀ (H : Type) (enc : TypeId × Value → H) (w : World) (base : Nat) (spare : Nat → Bool) (held : Bool) (fuel : Nat) (cs : List Value) (x : DataW H × List MemPlace),
    DataW.trod enc P w base spare held fuel t cs = some x → ∃ y, ρ.R w (fun b => b < w.heap.size) cs y ∧ ρ.bulk y ≤ Rows.uptoBulk x.1

theorem bulk_pos {H : Type} (d : DataW H) : 1 ≤ Rows.uptoBulk d := by
  cases d with
  | lit l => cases l <;> simp [Rows.uptoBulk]
  | _ => simp [Rows.uptoBulk]
theorem opens_int {P : Program} {t : TypeId} (ht : P.underlying t = some (.int .i64)) : Opens P t rInt := by
  intro H enc w base spare held fuel cs x h
  obtain ⟨n, rfl, rfl, hw⟩ := DataW.trod_int ht h
  refine ⟨n, ⟨rfl, ?_⟩, bulk_pos _⟩
  simp only [Lit.wf, Bool.and_eq_true, decide_eq_true_eq] at hw
  exact hw
theorem pick {α : Type} {Q : Nat → α → Prop} : ∀ n, (∀ i, i < n → ∃ y, Q i y) → ∃ ys : List α, ys.length = n ∧ ∀ i y, ys[i]? = some y → Q i y
  | 0, _ => ⟨[], rfl, by simp⟩
  | n + 1, h => by
    obtain ⟨ys, hl, hq⟩ := pick n fun i hi => h i (by omega)
    obtain ⟨y, hy⟩ := h n (by omega)
    refine ⟨ys ++ [y], by simp [hl], fun i z hz => ?_⟩
    by_cases hi : i < ys.length
    · rw [List.getElem?_append_left hi] at hz; exact hq i z hz
    · rw [List.getElem?_append_right (by omega)] at hz
      have h0 : i - ys.length = 0 := by have := (List.getElem?_eq_some_iff.1 hz).1; simp at this; omega
      rw [h0] at hz
      simp at hz; subst hz
      obtain rfl : i = n := by omega
      exact hy
theorem sum_le {α H : Type} (f : α → Nat) : ∀ (ys : List α) (ds : List (DataW H)), ys.length = ds.length → (∀ (i : Nat) (y : α) (d : DataW H), ys[i]? = some y → ds[i]? = some d → f y ≤ Rows.uptoBulk d) → (ys.map f).sum ≤ Rows.uptoBulkAll ds
  | [], _, _, _ => by simp
  | y :: ys, [], h, _ => by simp at h
  | y :: ys, d :: ds, h, hf => by
    have ih := sum_le f ys ds (by simpa using h) fun i y d hy hd => hf (i + 1) y d (by simpa using hy) (by simpa using hd)
    have h0 := hf 0 y d rfl rfl
    simp only [List.map_cons, List.sum_cons, Rows.uptoBulkAll]; omega
theorem opens_slice {α : Type} {ρ : Rep α} {P : Program} {t e : TypeId} (ht : P.underlying t = some (.slice e)) (hs : P.cellsOf e = ρ.size) (hp : 0 < ρ.size) (he : Opens P e ρ) : Opens P t (rList ρ) := by
  intro H enc w base spare held fuel cs x h
  rcases DataW.trod_slice ht h with ⟨rfl, rfl⟩ | ⟨a, len, cap, elems, rest, n, _, rfl, rfl, _, hl, hm, hlen, hel, _, _⟩
  · exact ⟨[], ⟨none, 0, rfl, Sl.nil_⟩, by simp [rList, Rows.uptoBulk]⟩
  · have key : ∀ i, i < len → ∃ y, (a.block < w.heap.size ∧ (∃ u, ρ.R w (fun b => b < w.heap.size) u y ∧ ∀ j z, u[j]? = some z → w.cell? (a.add (i * ρ.size + j)) = some z)) ∧ ∀ d, (elems.map (·.1))[i]? = some d → ρ.bulk y ≤ Rows.uptoBulk d := by
      intro i hi
      have h1 := hel i hi
      rw [List.getElem?_eq_getElem (by omega)] at h1
      cases hc : w.cells? base (a.add (i * P.cellsOf e)) (P.cellsOf e) with
      | none => rw [hc] at h1; simp at h1
      | some us =>
        rw [hc] at h1
        simp only [Option.bind_some] at h1
        obtain ⟨y, hy, hb⟩ := he H enc w base spare held n us _ h1
        obtain ⟨_, hcl, hat⟩ := World.cells?_some hc
        have hcell : ∀ j z, us[j]? = some z → w.cell? (a.add (i * ρ.size + j)) = some z := by
          intro j z hz
          have hj : j < P.cellsOf e := by have := (List.getElem?_eq_some_iff.1 hz).1; omega
          have := hat j hj
          rw [hz, add_of_add, hs] at this; exact this
        refine ⟨y, ⟨?_, us, hy, hcell⟩, fun d hd => ?_⟩
        · have h0 : 0 < us.length := by rw [ρ.len hy]; exact hp
          have := World.block_lt_of_cell? w _ (hcell 0 _ (List.getElem?_eq_getElem h0))
          rwa [block_of_add] at this
        · rw [List.getElem?_map, List.getElem?_eq_getElem (by omega)] at hd
          simp at hd; subst hd; exact hb
    obtain ⟨ys, hyl, hq⟩ := pick len key
    refine ⟨ys, ⟨some a, cap, by rw [hyl], by omega, hm, fun i y hy => ?_⟩, ?_⟩
    · obtain ⟨⟨hb, u, hr, hc⟩, _⟩ := hq i y hy
      exact ⟨a, u, rfl, hb, hr, hc⟩
    · have := sum_le ρ.bulk ys (elems.map (·.1)) (by rw [List.length_map]; omega) fun i y d hy hd => (hq i y hy).2 d hd
      simp only [rList, Rows.uptoBulk]; omega
section
variable {H : Type} {enc : TypeId × Value → H} {P : Program} {w : World} {base b0 : Nat} {spare : Nat → Bool} {held : Bool} {r : Reach} {t : TypeId} {v : Value} {d : DataW H} {ps : List MemPlace} {α : Type} {ρ : Rep α}
/-- an argument that is a struct -/
theorem arg_struct {fs : Array Field} (ho : Opens P t ρ) (hs : P.underlying t = some (.struct fs)) (hv : Value.okWide P w r b0 t v) (h : DataW.Trod enc P w base spare held t v d ps) :
    ∃ cs y, v = .agg cs ∧ ρ.R w (fun b => b < w.heap.size) cs.toList y ∧ ρ.bulk y ≤ Rows.uptoBulk d := by
  obtain ⟨cs, rfl, hsz⟩ := okWide_struct hs hv
  obtain ⟨fuel, hf⟩ := h
  obtain ⟨y, hy, hb⟩ := ho H enc w base spare held fuel _ _ hf
  exact ⟨cs, y, rfl, hy, hb⟩
/-- an argument that is a slice -/
theorem arg_slice {e : TypeId} (ho : Opens P t (rList ρ)) (hs : P.underlying t = some (.slice e)) (hv : Value.okWide P w r b0 t v) (h : DataW.Trod enc P w base spare held t v d ps) :
    ∃ A c ys, v = .slice A ys.length c ∧ Sl ρ w (fun b => b < w.heap.size) A c ys ∧ (ys.map ρ.bulk).sum + 1 ≤ Rows.uptoBulk d := by
  obtain ⟨a, n, c, rfl⟩ := okWide_slice hs hv
  obtain ⟨fuel, hf⟩ := h
  obtain ⟨ys, ⟨A, c', e, hy⟩, hb⟩ := ho H enc w base spare held fuel _ _ hf
  simp only [Value.cells, List.cons.injEq, and_true, Value.slice.injEq] at e
  obtain ⟨rfl, rfl, rfl⟩ := e
  exact ⟨_, _, ys, rfl, hy, hb⟩
end
end Go.Proofs.Ytpmnlikgldacaaa

/- From what came in to abstract values, and from an abstract walk to a law's end. Nothing of the program is named here. -/
namespace Go.Proofs.Ytpmnlikgldacaaa
open Go.RowKit Go.Maps Go.ChangeShapes Go.WideShapes

/-- cells that stand for abstract data -/
def RpsD (w : World) (S : Nat → Prop) (ps : List AV) (cs : List Value) : Prop := ps.length = cs.length ∧ ∀ (i : Nat) (a : AV) (v : Value), ps[i]? = some a → cs[i]? = some v → RpD w S a v
/-- what a reading stands for, told abstractly -/
def AvsG {α β : Type} (ρ : Rep α) (g : α → β) (av : β → List AV) (ok : β → Prop) : Prop := ∀ w S cs y, ρ.R w S cs y → ok (g y) ∧ RpsD w S (av (g y)) cs
theorem RpsD.one {w : World} {S : Nat → Prop} {a : AV} {v : Value} (h : RpD w S a v) : RpsD w S [a] [v] := by
  refine ⟨rfl, fun i b u hb hu => ?_⟩
  cases i with
  | zero => simp at hb hu; subst hb; subst hu; exact h
  | succ i => simp at hb
theorem RpsD.append {w : World} {S : Nat → Prop} {ps bs : List AV} {vs us : List Value} (h : RpsD w S ps vs) (h' : RpsD w S bs us) : RpsD w S (ps ++ bs) (vs ++ us) := by
  refine ⟨by simp [h.1, h'.1], fun i a v ha hv => ?_⟩
  by_cases hi : i < ps.length
  · rw [List.getElem?_append_left hi] at ha
    rw [List.getElem?_append_left (by rw [← h.1]; exact hi)] at hv
    exact h.2 i a v ha hv
  · rw [List.getElem?_append_right (by omega)] at ha
    rw [List.getElem?_append_right (by rw [← h.1]; omega), ← h.1] at hv
    exact h'.2 _ a v ha hv
section
variable {α β γ δ : Type} {ρ : Rep α} {σ : Rep γ} {g : α → β} {h : γ → δ} {av : β → List AV} {bv : δ → List AV} {ok : β → Prop} {ok' : δ → Prop}
theorem AvsG.map (k : AvsG ρ g av ok) (f : β → γ) (av' : γ → List AV) (ok' : γ → Prop) (h1 : ∀ y, av y = av' (f y)) (h2 : ∀ y, ok y → ok' (f y)) : AvsG ρ (fun x => f (g x)) av' ok' := fun w S cs y hr => by
  obtain ⟨q1, q2⟩ := k w S cs y hr
  exact ⟨h2 _ q1, by rw [← h1]; exact q2⟩
theorem sl_rpd (k : AvsG ρ g av ok) (hs : 0 < ρ.size) {w : World} {S : Nat → Prop} {A : Option Addr} {c : Nat} {xs : List α} (h : Sl ρ w S A c xs) : (∀ y ∈ xs, ok (g y)) ∧ RpD w S (.dsl ρ.size ((xs.map g).map av)) (.slice A xs.length c) := by
  obtain ⟨h1, h2, h3⟩ := h
  refine ⟨fun y hy => ?_, ?_⟩
  · obtain ⟨i, hi⟩ := List.getElem?_of_mem hy
    obtain ⟨ad, u, _, _, hr, _⟩ := h3 i y hi
    exact (k w S u y hr).1
  have hl : ((xs.map g).map av).length = xs.length := by simp
  have hcell : ∀ (i : Nat) (x : α), xs[i]? = some x → ∃ g' o, A = some ⟨g', o, none⟩ ∧ S g' ∧ ∃ u, ρ.R w S u x ∧ ∀ j z, u[j]? = some z → w.cell? ⟨g', o + i * ρ.size + j, none⟩ = some z := by
    intro i x hx
    have h0 : 0 < xs.length := by have := (List.getElem?_eq_some_iff.1 hx).1; omega
    obtain ⟨ad0, u0, e0, s0, r0, c0⟩ := h3 0 _ (List.getElem?_eq_getElem h0)
    have hu0 : 0 < u0.length := by rw [ρ.len r0]; exact hs
    have hc := c0 0 _ (List.getElem?_eq_getElem hu0)
    obtain ⟨b, o, sp⟩ := ad0
    have hsp : sp = none := by
      simp only [Nat.zero_mul, Nat.add_zero, Addr.add, if_pos] at hc
      unfold World.cell? at hc
      split at hc
      · split at hc
        · cases hc
        · rename_i hsp; cases sp with
          | none => rfl
          | some _ => exact absurd rfl hsp
      · cases hc
    subst hsp
    obtain ⟨ad, u, e, s, r, c⟩ := h3 i x hx
    rw [e0] at e; injection e with e; subst e
    refine ⟨b, o, e0, s, u, r, fun j z hz => ?_⟩
    have := c j z hz
    rw [addr_add] at this
    rw [Nat.add_assoc]; exact this
  have hel : ∀ (i : Nat) (e : List AV), ((xs.map g).map av)[i]? = some e → ∃ x, xs[i]? = some x ∧ e = av (g x) := by
    intro i e he
    rw [List.getElem?_map, List.getElem?_map] at he
    cases hx : xs[i]? with
    | none => rw [hx] at he; cases he
    | some x => rw [hx] at he; injection he with he; exact ⟨x, rfl, he.symm⟩
  have := RpD.dsl (w := w) (S := S) ρ.size ((xs.map g).map av) A c
    (fun i j => match A with
      | some a => if (xs[i]?).isSome ∧ j < ρ.size then (w.cell? ⟨a.block, a.off + i * ρ.size + j, none⟩).getD (.bool false) else .bool false
      | none => .bool false) (by omega) h2 (fun e he => ?_) (fun i e j a he ha => ?_) (fun i e j a he ha => ?_) (fun i j => ?_)
  · rw [hl] at this; exact this
  · obtain ⟨i, hi⟩ := List.getElem?_of_mem he
    obtain ⟨x, hx, rfl⟩ := hel i e hi
    obtain ⟨_, _, _, _, u, hr, _⟩ := hcell i x hx
    rw [(k w S u x hr).2.1, ρ.len hr]
  · obtain ⟨x, hx, rfl⟩ := hel i e he
    obtain ⟨g', o, rfl, hg, u, hr, hc⟩ := hcell i x hx
    have hj : j < u.length := by rw [← (k w S u x hr).2.1]; exact (List.getElem?_eq_some_iff.1 ha).1
    have hjs : j < ρ.size := by rw [← ρ.len hr]; exact hj
    refine ⟨g', o, rfl, hg, ?_⟩
    have := hc j _ (List.getElem?_eq_getElem hj)
    simp only [hx, Option.isSome_some, hjs, and_self, if_true, this, Option.getD_some]
  · obtain ⟨x, hx, rfl⟩ := hel i e he
    obtain ⟨g', o, rfl, hg, u, hr, hc⟩ := hcell i x hx
    have hj : j < u.length := by rw [← (k w S u x hr).2.1]; exact (List.getElem?_eq_some_iff.1 ha).1
    have hjs : j < ρ.size := by rw [← ρ.len hr]; exact hj
    have := hc j _ (List.getElem?_eq_getElem hj)
    simp only [hx, Option.isSome_some, hjs, and_self, if_true, this, Option.getD_some]
    exact (k w S u x hr).2.2 j a _ ha (List.getElem?_eq_getElem hj)
  · cases A with
    | none => rfl
    | some a =>
      dsimp only
      split
      · rename_i hij
        obtain ⟨x, hx⟩ := Option.isSome_iff_exists.1 hij.1
        obtain ⟨g', o, e, hg, u, hr, hc⟩ := hcell i x hx
        injection e with e; subst e
        have hj : j < u.length := by rw [ρ.len hr]; exact hij.2
        rw [hc j _ (List.getElem?_eq_getElem hj)]
        exact ρ.one hr _ (List.getElem_mem hj)
      · rfl
theorem AvsG.list (k : AvsG ρ g av ok) (hs : 0 < ρ.size) : AvsG (rList ρ) (List.map g) (fun zs => [.dsl ρ.size (zs.map av)]) (fun zs => ∀ z ∈ zs, ok z) := fun w S cs y hr => by
  obtain ⟨A, c, rfl, hsl⟩ := hr
  obtain ⟨q1, q2⟩ := sl_rpd k hs hsl
  refine ⟨fun z hz => ?_, .one q2⟩
  obtain ⟨x, hx, rfl⟩ := List.mem_map.1 hz
  exact q1 x hx
/-- an argument that is a struct, told abstractly -/
theorem AvsG.agg (k : AvsG ρ g av ok) {w : World} {S : Nat → Prop} {σ' : Nat → Option Value} {cs : Array Value} {y : α} (hr : ρ.R w S cs.toList y) : ok (g y) ∧ Rp w S σ' (.agg (av (g y))) (.agg cs) := by
  obtain ⟨q1, q2, q3⟩ := k w S cs.toList y hr
  exact ⟨q1, .data _ _ (.agg _ _ (by simpa using q2) (fun i a v ha hv => q3 i a v ha (by simpa using hv)) fun v hv => ρ.one hr v (by simpa using hv))⟩
/-- an argument that is a slice, told abstractly -/
theorem AvsG.sl (k : AvsG ρ g av ok) (hs : 0 < ρ.size) {w : World} {S : Nat → Prop} {σ' : Nat → Option Value} {A : Option Addr} {c : Nat} {xs : List α} (h : Sl ρ w S A c xs) : (∀ z ∈ xs.map g, ok z) ∧ Rp w S σ' (.dsl ρ.size ((xs.map g).map av)) (.slice A xs.length c) := by
  obtain ⟨q1, q2⟩ := sl_rpd k hs h
  refine ⟨fun z hz => ?_, .data _ _ q2⟩
  obtain ⟨x, hx, rfl⟩ := List.mem_map.1 hz
  exact q1 x hx
end
/-- a walk from nothing held, to the law's end -/
theorem law_calls {P : Program} {f : FuncId} {ps : List AV} {us : List Value} {W : World} {r : Value} (h : Tri P f ps ⟨0, []⟩ (fun v _ => v = .p r)) (hr : Rps W (fun b => b < W.heap.size) (fun _ => none) ps us) :
    Calls P f us.toArray W fun e W' => e = .returned r ∧ Below W.heap.size W W' := by
  have hs : Sat P W (fun b => b < W.heap.size) (fun _ => none) ⟨0, []⟩ := ⟨fun b hb => hb, fun id u hu => by (cases hu), fun id o ho => by (cases ho), fun i j o o' b hi => by (cases hi), fun i o b hi => by (cases hi), fun i A n c h => by (cases h)⟩
  refine (h W _ _ us hs hr).mono fun e W' ⟨v, S', σ', r', H', h1, h2, h3, h4, h5, _⟩ => ?_
  subst h2
  obtain ⟨rfl, _⟩ := h4.p_inv
  exact ⟨h1, h5.os, h5.tape, h5.output, h5.size, fun b hb => h5.keep b hb fun ⟨i, o, hi, _⟩ => by (cases hi)⟩
/-- a result may be told with less -/
theorem Tri.res {P : Program} {f : FuncId} {ps : List AV} {H : AH} {Q Q' : AV → AH → Prop} (h : Tri P f ps H Q) (hq : ∀ r H', Q r H' → ∃ r', Sub P H' r r' ∧ Q' r' H') : Tri P f ps H Q' := fun w S σ us hs hr =>
  (h w S σ us hs hr).mono fun e w' ⟨v, S', σ', r, H', h1, h2, h3, h4, h5⟩ => by
    obtain ⟨r', q1, q2⟩ := hq r H' h2
    exact ⟨v, S', σ', r', H', h1, q2, h3, q1 _ _ _ _ h3 h4, h5⟩
end Go.Proofs.Ytpmnlikgldacaaa

/- More of abstract walks: appends in drawn regions. Nothing of the program is named here. -/
namespace Go.Proofs.Ytpmnlikgldacaaa
open Go.RowKit Go.Maps
section
variable {P : Program} {w : World} {S : Nat → Prop} {σ : Nat → Option Value} {H H0 H1 H2 V : AH} {B : Nat}
theorem Cl.mono {a : AV} {B B' : Nat} (h : Cl B a) (hb : B ≤ B') : Cl B' a := fun w S σ v hr => (h w S σ v hr).mono (fun _ h => h) (fun _ _ => rfl) (fun id u hu => by
  obtain ⟨h1, h2⟩ := cutS_some hu
  rw [cutS_lt (by omega)]; exact h2)
theorem ClO.mono {o : AO} {B B' : Nat} (h : ClO B o) (hb : B ≤ B') : ClO B' o := by
  cases o with
  | box t cs => exact fun a ha => Cl.mono (h a ha) hb
  | row t sz es => exact fun e he a ha => Cl.mono (h e he a ha) hb
  | crow t sz c es => exact fun e he a ha => Cl.mono (h e he a ha) hb
  | map kt n f => exact fun k a ha => Cl.mono (h k a ha) hb
  | smap kt n f st c => exact fun k a ha => Cl.mono (h k a ha) hb
  | miter m st c vis => exact Nat.lt_of_lt_of_le (show m < B from h) hb
  | _ => trivial
theorem WF.up (h : WF H) (n : Nat) : WF (H.up n) := fun id o ho => ⟨Nat.lt_of_lt_of_le (h id o ho).1 (Nat.le_add_right _ _), ClO.mono (h id o ho).2 (Nat.le_add_right _ _)⟩
theorem WF.put (h : WF H) {i : Nat} {o : AO} (hi : i < H.nx) (hc : ClO H.nx o) : WF (H.put i o) := fun id o' ho => by
  by_cases e : id = i
  · subst e; rw [AH.get_put_self] at ho; injection ho with ho; subst ho; exact ⟨hi, hc⟩
  · rw [AH.get_put_ne e] at ho; exact h id o' ho
theorem WF.box (h : WF H) {i : Nat} {t : TypeId} {cs : List AV} (hi : i < H.nx) (hc : Clo H.nx cs) : WF (H.put i (.box t cs)) := h.put hi hc
theorem DtR.clo {es : List (List AV)} (h : ∀ e ∈ es, ∀ a ∈ e, ∃ v, a = .p v ∨ ∃ sz xs, a = .dsl sz xs) : ∀ e ∈ es, Clo B e := fun e he a ha => by
  obtain ⟨v, rfl | ⟨sz, xs, rfl⟩⟩ := h e he a ha
  · exact Cl.p _
  · exact Cl.dsl _ _
/-- what holds a slice that grew is given back with it as data -/
theorem Grows.rt_in {M : AH} {t sz : Nat} {u v v' : AV} {es : List (List AV)} {Q : AV → AH → Prop} (h : Grows t sz M H1 u es) (hwM : WF M) (hle : M.le H1) (hn : M.nx ≤ H1.nx) (hw : WF H0) (h0 : H0.le M) (hn0 : H0.nx ≤ M.nx)
    (hs : ∀ H2, Sub P H2 u (.dsl sz es) → Sub P H2 v v') (hc : Cl H0.nx v') (hq : Q v' H0) : Rt P H0.nx v Q H1 := by
  obtain ⟨H2, k1, k2, k3, _, k4⟩ := h.fz (P := P) hwM hle hn
  exact Gh.step ((GW.st k1 (by omega)).trans (GW.sub (.cons (hs _ k4) .nil) (by omega))) (Gh.back hw (h0.trans k2) (.one hc) ⟨_, rfl, hq⟩)
/-- what holds slices is given back told anew -/
theorem rt_sub {v v' : AV} {Q : AV → AH → Prop} (hw : WF H0) (h0 : H0.le H1) (hn : H0.nx ≤ H1.nx) (hs : Sub P H1 v v') (hc : Cl H0.nx v') (hq : Q v' H0) : Rt P H0.nx v Q H1 :=
  Gh.step (GW.sub (.cons hs .nil) hn) (Gh.back hw h0 (.one hc) ⟨_, rfl, hq⟩)
/-- a call in a drawn region that lays a row -/
theorem car_of {id : Nat} {sl : List Nat} {f : FuncId} {first ps cap : List AV} (t : TypeId) (sz : Nat) (es : List (List AV)) {k : AV → AH → Prop} (hc : callable P f = true) (hd : ∀ e ∈ es, e.length = sz) (h : ∀ H2, (mixV V H sl).le H2 → Tri P f (first ++ ps ++ cap) H2 (fun r H' => Grows t sz H2 H' r es ∧ H2.le H' ∧ H2.nx ≤ H'.nx))
    (hk : k (.osl id sz 0 es.length) (H.put id (.row t sz es))) : CaR P V id sl (.fn (.func f) first cap) ps k H :=
  ⟨f, first, cap, t, sz, es, rfl, hc, hd, fun H2 hle => (h H2 hle).mono fun _r _H' ⟨h1, h2, _⟩ => ⟨h1.elim .inl fun ⟨r, xs, e1, e2, _, e4, e5, e6⟩ => .inr ⟨r, xs, e1, e2, e4, e5, e6⟩, h2⟩, hk⟩
/-- an append in a drawn region to what it has laid -/
theorem wrf_row {tgt src : Option Nat} {id r off n t sz bytes : Nat} {es ys : List (List AV)} {x : AV} {k : AV → AH → Prop} (ht : tgt = some r) (h1 : V.get r = none) (h2 : H.get r = some (.row t sz es)) (h3 : off + n ≤ es.length) (h4 : ElF V H src sz x ys) (h5 : n + ys.length ≤ maxLen) (h6 : (n + ys.length) * bytes ≤ 140737488355328)
    (hk : k (.osl id sz 0 (n + ys.length)) ((H.kill r).put id (.row t sz ((es.drop off).take n ++ ys)))) : WrF V tgt src id (.app t sz bytes) [.osl r sz off n, x] k H := ⟨_, _, .app_row t sz bytes r off n es ys x H ht h1 h2 h3 h4 h5 h6, hk⟩
theorem elF_whole {src : Option Nat} {sz i n : Nat} {t : TypeId} {es : List (List AV)} (hs : src = some i) (hg : H.get i = some (.row t sz es)) (hn : n = es.length) : ElF V H src sz (.osl i sz 0 n) es := by
  subst hn
  have := ElF.new (V := V) (H := H) (src := src) (sz := sz) i 0 es.length t es hs hg (by omega)
  rwa [List.drop_zero, List.take_length] at this
/-- a range over a map begins -/
theorem nd_bs0 {id : Nat} {e : TypeId} {k : AV → AH → Prop} (hk : ∀ g : Nat, k (.p (.slice (some ⟨g, 0, none⟩) 0 0)) (H.put id (.row e 1 []))) : Nd P id (.bs0 e) [] k H :=
  ⟨_, .bs0 e, fun a H' ⟨g, h1, h2⟩ => by subst h1; subst h2; exact hk g⟩
end
end Go.Proofs.Ytpmnlikgldacaaa

/- Parts of speech as plain trees, told abstractly; what is wrong with one, which are the same. No walk is here. -/
namespace Go.Proofs.Ytpmnlikgldacaaa
open Go.RowKit Go.Maps
def iv (i : Int) : AV := .p (.int .i64 i)
def bv (b : Bool) : AV := .p (.bool b)
structure Ty where
  kind : Int
  num : Int
  kids : List Ty
mutual
def Ty.size : Ty → Nat
  | ⟨_, _, ks⟩ => 1 + Ty.sizes ks
def Ty.sizes : List Ty → Nat
  | [] => 0
  | t :: r => Ty.size t + Ty.sizes r
end
theorem Ty.size_mk (k n : Int) (ks : List Ty) : Ty.size ⟨k, n, ks⟩ = 1 + Ty.sizes ks := by rw [Ty.size]
theorem Ty.sizes_mem : ∀ {ks : List Ty} {t : Ty}, t ∈ ks → Ty.size t ≤ Ty.sizes ks
  | k :: r, t, h => by
    rw [Ty.sizes]
    rcases List.mem_cons.1 h with rfl | h
    · omega
    · have := Ty.sizes_mem h; omega
/-- a number that counts no further than one above most -/
def capN (s : Nat) (most : Int) : Int := if (s : Int) ≤ most then (s : Int) else most + 1
theorem Ty.size_eq (t : Ty) : t.size = 1 + Ty.sizes t.kids := by cases t; exact Ty.size_mk _ _ _
theorem Ty.sizes_succ (ks : List Ty) (k : Nat) (h : k < ks.length) : Ty.sizes (ks.take (k + 1)) = Ty.sizes (ks.take k) + (ks[k]'h).size := by
  induction ks generalizing k with
  | nil => simp at h
  | cons t r ih =>
    match k with
    | 0 => simp [Ty.sizes]
    | k + 1 =>
      have := ih k (by simpa using h)
      simp only [List.take_succ_cons, Ty.sizes, List.getElem_cons_succ]; omega
theorem Ty.sizes_le (ks : List Ty) (k : Nat) : Ty.sizes (ks.take k) ≤ Ty.sizes ks := by
  induction ks generalizing k with
  | nil => simp
  | cons t r ih =>
    match k with
    | 0 => simp [Ty.sizes]
    | k + 1 => have := ih k; simp only [List.take_succ_cons, Ty.sizes]; omega
theorem Ty.size_pos (t : Ty) : 1 ≤ t.size := by rw [Ty.size_eq]; omega

def Ty.head (k n : Int) (l : Nat) : Int := if k < 1 ∨ 3 < k then 4 else if (l : Int) ≠ (if k = 1 then 0 else 2) then 1 else if n < 0 ∨ 9 < n ∨ (0 < n ∧ 1 < k) then 3 else 0
mutual
def Ty.wrong : Ty → Int
  | ⟨k, n, ks⟩ => if Ty.head k n ks.length = 0 then Ty.wrongs ks else Ty.head k n ks.length
def Ty.wrongs : List Ty → Int
  | [] => 0
  | t :: r => if Ty.wrong t = 0 then Ty.wrongs r else Ty.wrong t
end
def Ty.check (t : Ty) : Int := if 15 < t.size then 7 else t.wrong
theorem Ty.wrong_mk (k n : Int) (ks : List Ty) : Ty.wrong ⟨k, n, ks⟩ = if Ty.head k n ks.length = 0 then Ty.wrongs ks else Ty.head k n ks.length := by rw [Ty.wrong]
theorem Ty.wrongs_step {ks : List Ty} {k : Nat} (h : k < ks.length) : Ty.wrongs (ks.drop k) = if (ks[k]'h).wrong = 0 then Ty.wrongs (ks.drop (k + 1)) else (ks[k]'h).wrong := by
  rw [List.drop_eq_getElem_cons h, Ty.wrongs]
theorem Ty.wrongs_end {ks : List Ty} {k : Nat} (h : ks.length ≤ k) : Ty.wrongs (ks.drop k) = 0 := by rw [List.drop_eq_nil_iff.2 h, Ty.wrongs]

mutual
def Ty.same : Ty → Ty → Bool
  | ⟨k, n, ks⟩, ⟨k', n', ks'⟩ => k == k' && (n == n' && (ks.length == ks'.length && Ty.sames ks ks'))
def Ty.sames : List Ty → List Ty → Bool
  | [], _ => true
  | _ :: _, [] => true
  | t :: r, t' :: r' => Ty.same t t' && Ty.sames r r'
end
theorem Ty.sames_step {ks ls : List Ty} {k : Nat} (h : k < ks.length) (h' : k < ls.length) : Ty.sames (ks.drop k) (ls.drop k) = (Ty.same (ks[k]'h) (ls[k]'h') && Ty.sames (ks.drop (k + 1)) (ls.drop (k + 1))) := by
  rw [List.drop_eq_getElem_cons h, List.drop_eq_getElem_cons h', Ty.sames]
theorem Ty.sames_end {ks ls : List Ty} {k : Nat} (h : ks.length ≤ k) : Ty.sames (ks.drop k) (ls.drop k) = true := by rw [List.drop_eq_nil_iff.2 h, Ty.sames]
theorem Ty.same_eq (t s : Ty) : t.same s = (t.kind == s.kind && (t.num == s.num && (t.kids.length == s.kids.length && Ty.sames t.kids s.kids))) := by cases t; cases s; rw [Ty.same]
mutual
/-- the cells of a type -/
def Ty.cs : Ty → List AV
  | ⟨k, n, ks⟩ => [iv k, iv n, .dsl 3 (Ty.css ks)]
def Ty.css : List Ty → List (List AV)
  | [] => []
  | t :: r => Ty.cs t :: Ty.css r
end
theorem Ty.css_map : ∀ ks : List Ty, Ty.css ks = ks.map Ty.cs
  | [] => by rw [Ty.css]; rfl
  | t :: r => by rw [Ty.css, Ty.css_map r]; rfl
theorem Ty.cs_eq (t : Ty) : t.cs = [iv t.kind, iv t.num, .dsl 3 (t.kids.map Ty.cs)] := by cases t; rw [Ty.cs, Ty.css_map]
theorem Ty.cs_len (t : Ty) : t.cs.length = 3 := by rw [Ty.cs_eq]; rfl
theorem Ty.cs_g0 (t : Ty) : t.cs[0]? = some (iv t.kind) := by rw [Ty.cs_eq]; rfl
theorem Ty.cs_g1 (t : Ty) : t.cs[1]? = some (iv t.num) := by rw [Ty.cs_eq]; rfl
theorem Ty.cs_g2 (t : Ty) : t.cs[2]? = some (.dsl 3 (t.kids.map Ty.cs)) := by rw [Ty.cs_eq]; rfl
theorem Ty.cs_take (t : Ty) : t.cs.take 3 = t.cs := List.take_of_length_le (by rw [Ty.cs_len]; omega)
def Ty.av (t : Ty) : AV := .agg t.cs
theorem dt_ty (l : List Ty) : DtR (l.map Ty.cs) := by
  intro e he a ha
  obtain ⟨c, _, rfl⟩ := List.mem_map.1 he
  rw [Ty.cs_eq] at ha
  simp at ha
  rcases ha with rfl | rfl | rfl
  · exact Dt.p _
  · exact Dt.p _
  · exact Dt.dsl _ _
end Go.Proofs.Ytpmnlikgldacaaa

/- Parts of speech: counting, what is wrong, which are the same: both programs. -/
namespace Go.Proofs.Ytpmnlikgldacaaa
open Go.RowKit Go.Maps
theorem c_kids (t : Ty) : PF Try.prog 70 [t.av] (.dsl 3 (t.kids.map Ty.cs)) := fun H => tri_wf fun hw => tri_speech_kids (by
  unfold S_speech_kids
  simp (disch := first | omega | simp) [Ty.av, Ty.cs_g2]
  exact rt_one hw (by repeat (first | with_reducible assumption | with_reducible exact AH.le.refl _ | with_reducible apply AH.le.up | (with_reducible refine AH.le.put hw ?_ ?_; · first | omega | (simp only [up_nx, put_nx, kill_nx]; done) | (simp only [up_nx, put_nx, kill_nx]; omega)) | (with_reducible refine AH.le.kill hw ?_ ?_; · first | omega | (simp only [up_nx, put_nx, kill_nx]; done) | (simp only [up_nx, put_nx, kill_nx]; omega)))) (by repeat (first | exact Cl.p _ | exact Cl.dsl _ _ | exact Cl.any | refine Cl.tup ?_ | refine Cl.agg ?_ | exact Clo.nil | refine Clo.cons ?_ ?_)) ⟨rfl, rfl⟩)
theorem capN_add {a s : Nat} {most : Int} (_ha : (a : Int) ≤ most) : (a : Int) + capN s (most - a) = capN (a + s) most := by
  unfold capN
  by_cases h : (s : Int) ≤ most - a
  · rw [if_pos h, if_pos (by omega)]; omega
  · rw [if_neg h, if_neg (by omega)]; omega
theorem capN_in {s : Nat} {most : Int} (h : 0 ≤ most) : 0 ≤ capN s most ∧ capN s most ≤ most + 1 := by
  unfold capN; split <;> omega
theorem capN_low {s : Nat} {most : Int} (h : (s : Int) ≤ most) : capN s most = s := by unfold capN; rw [if_pos h]
theorem capN_high {s : Nat} {most : Int} (h : ¬ (s : Int) ≤ most) : capN s most = most + 1 := by unfold capN; rw [if_neg h]
theorem tri_lenA {P : Program} {f : FuncId} {ps : List AV} {H : AH} {Q : AV → AH → Prop} (i j : Nat) {cs : List AV} {sz : Nat} {xs : List (List AV)} (hi : ps[i]? = some (.agg cs)) (hj : cs[j]? = some (.dsl sz xs)) (h : xs.length ≤ maxLen → Tri P f ps H Q) : Tri P f ps H Q := fun w S σ us hs hr => by
  obtain ⟨v, hv, hrv⟩ := hr.at_ hi
  obtain ⟨vs, rfl, h1, h2⟩ := hrv.agg_inv
  obtain ⟨u, hu, hru⟩ := h1.at_ hj
  obtain ⟨A, c, z, rfl, q1, q2, _⟩ := hru.dsl_inv.dsl_inv
  exact h (by omega) w S σ us hs hr
set_option maxHeartbeats 1000000 in
theorem c_CountTy (N : Nat) : ∀ t : Ty, t.size ≤ N → ∀ (most : Int) (H : AH), 0 ≤ most → most ≤ 1000000 → Tri Try.prog 69 [t.av, .fn (.func 70) [] [], iv most] H (fun r H' => H' = H ∧ r = iv (capN t.size most)) := by
  induction N with
  | zero => intro t ht; have := t.size_pos; omega
  | succ N ih =>
    intro t ht most H h0 h1
    refine tri_wf fun hw => tri_lenA 0 2 rfl t.cs_g2 fun hl => tri_deep_Count_api_Part ?_
    have hml : maxLen = 9223372036854775807 := by decide
    rw [List.length_map] at hl
    have hsz := t.size_eq
    unfold S_deep_Count_api_Part
    simp (disch := first | omega | simp) [Ty.av, Ty.cs_len, Ty.cs_take]
    refine ca_pure (by kernel_rfl) (c_kids t _) ?_
    simp (disch := first | omega | simp) []
    refine loop_st (fun s : Int × Nat => [iv s.1, iv s.2]) (fun s H' => s.2 ≤ t.kids.length ∧ s.1 = capN (1 + Ty.sizes (t.kids.take s.2)) most ∧ H.le H' ∧ H.nx ≤ H'.nx) (fun s => t.kids.length - s.2) (1, 0) (.refl (Nat.le_refl _)) ⟨Nat.zero_le _, ?_, (by repeat (first | with_reducible assumption | with_reducible exact AH.le.refl _ | with_reducible apply AH.le.up | (with_reducible refine AH.le.put hw ?_ ?_; · first | omega | (simp only [up_nx, put_nx, kill_nx]; done) | (simp only [up_nx, put_nx, kill_nx]; omega)) | (with_reducible refine AH.le.kill hw ?_ ?_; · first | omega | (simp only [up_nx, put_nx, kill_nx]; done) | (simp only [up_nx, put_nx, kill_nx]; omega)))), (by first | omega | (simp only [up_nx, put_nx]; done) | (simp only [up_nx, put_nx]; omega))⟩ ?_
    · simp only [List.take_zero, Ty.sizes]; unfold capN; split <;> omega
    · rintro ⟨n, i⟩ H1 hn1 ⟨hi, hn, hle, hnx⟩ k hk
      dsimp only at hi hn hk
      unfold S_deep_Count_api_Part_L1
      have hsl := Ty.sizes_le t.kids i
      by_cases hil : i < t.kids.length
      · have hss := Ty.sizes_succ t.kids i hil
        have hsl2 := Ty.sizes_le t.kids (i + 1)
        obtain ⟨x, hx⟩ : ∃ x, t.kids[i]? = some x := ⟨_, List.getElem?_eq_getElem hil⟩
        have hxg : ∀ h, t.kids[i]'h = x := fun h => (List.getElem?_eq_some_iff.1 hx).2
        rw [hxg] at hss
        have hxs : x.size ≤ N := by have := Ty.sizes_mem (List.mem_of_getElem? hx); omega
        have hiv := ivn (i := i) (by omega)
        by_cases hc : ((1 + Ty.sizes (t.kids.take i) : Nat) : Int) ≤ most
        · rw [capN_low hc] at hn
          have hnm : ¬ most < n := by omega
          have hw1 : IntKind.i64.wrap (most - n) = most - n := wrapI (by omega) (by omega)
          have hcap := capN_in (s := x.size) (most := most - n) (by omega)
          have hw2 : IntKind.i64.wrap (n + capN x.size (most - n)) = n + capN x.size (most - n) := wrapI (by omega) (by omega)
          simp (disch := first | omega | simp) [iv, hil, hxg, hnm, Ty.cs_len, Ty.cs_take, hw1]
          refine ca_pure (by kernel_rfl) (ih x hxs (most - n) _ (by omega) (by omega)) ?_
          simp (disch := first | omega | simp) [iv, hw2, hiv]
          refine hk (n + capN x.size (most - n), i + 1) _ _ _ (.refl (by first | omega | (simp only [up_nx, put_nx]; done) | (simp only [up_nx, put_nx]; omega))) ⟨hil, ?_, (by repeat (first | with_reducible assumption | with_reducible exact AH.le.refl _ | with_reducible apply AH.le.up | (with_reducible refine AH.le.put hw ?_ ?_; · first | omega | (simp only [up_nx, put_nx, kill_nx]; done) | (simp only [up_nx, put_nx, kill_nx]; omega)) | (with_reducible refine AH.le.kill hw ?_ ?_; · first | omega | (simp only [up_nx, put_nx, kill_nx]; done) | (simp only [up_nx, put_nx, kill_nx]; omega)))), (by first | omega | (simp only [up_nx, put_nx]; done) | (simp only [up_nx, put_nx]; omega))⟩ (by dsimp only; omega)
          dsimp only
          rw [hn, capN_add hc, hss]
          congr 1; omega
        · rw [capN_high hc] at hn
          have hnm : most < n := by omega
          simp (disch := first | omega | simp) [iv, hil, hxg, hnm, Ty.cs_len, Ty.cs_take]
          refine rt_one hw (by repeat (first | with_reducible assumption | with_reducible exact AH.le.refl _ | with_reducible apply AH.le.up | (with_reducible refine AH.le.put hw ?_ ?_; · first | omega | (simp only [up_nx, put_nx, kill_nx]; done) | (simp only [up_nx, put_nx, kill_nx]; omega)) | (with_reducible refine AH.le.kill hw ?_ ?_; · first | omega | (simp only [up_nx, put_nx, kill_nx]; done) | (simp only [up_nx, put_nx, kill_nx]; omega)))) (by repeat (first | exact Cl.p _ | exact Cl.dsl _ _ | exact Cl.any | refine Cl.tup ?_ | refine Cl.agg ?_ | exact Clo.nil | refine Clo.cons ?_ ?_)) ⟨rfl, ?_⟩
          rw [hn, capN_high (by omega)]
      · simp (disch := first | omega | simp) [iv, hil]
        have hie : t.kids.take i = t.kids := List.take_of_length_le (by omega)
        rw [hie] at hn
        refine rt_one hw (by repeat (first | with_reducible assumption | with_reducible exact AH.le.refl _ | with_reducible apply AH.le.up | (with_reducible refine AH.le.put hw ?_ ?_; · first | omega | (simp only [up_nx, put_nx, kill_nx]; done) | (simp only [up_nx, put_nx, kill_nx]; omega)) | (with_reducible refine AH.le.kill hw ?_ ?_; · first | omega | (simp only [up_nx, put_nx, kill_nx]; done) | (simp only [up_nx, put_nx, kill_nx]; omega)))) (by repeat (first | exact Cl.p _ | exact Cl.dsl _ _ | exact Cl.any | refine Cl.tup ?_ | refine Cl.agg ?_ | exact Clo.nil | refine Clo.cons ?_ ?_)) ⟨rfl, ?_⟩
        rw [hn, hsz]
theorem c_count (t : Ty) (most : Int) (h0 : 0 ≤ most) (h1 : most ≤ 1000000) : PF Try.prog 53 [t.av, iv most] (iv (capN t.size most)) := fun H => tri_wf fun hw => tri_speech_count (by
  unfold S_speech_count
  simp (disch := first | omega | simp) [Ty.av, Ty.cs_len, Ty.cs_take]
  refine ca_pure (by kernel_rfl) (c_CountTy t.size t (Nat.le_refl _) most _ h0 h1) ?_
  exact rt_one hw (by repeat (first | with_reducible assumption | with_reducible exact AH.le.refl _ | with_reducible apply AH.le.up | (with_reducible refine AH.le.put hw ?_ ?_; · first | omega | (simp only [up_nx, put_nx, kill_nx]; done) | (simp only [up_nx, put_nx, kill_nx]; omega)) | (with_reducible refine AH.le.kill hw ?_ ?_; · first | omega | (simp only [up_nx, put_nx, kill_nx]; done) | (simp only [up_nx, put_nx, kill_nx]; omega)))) (by repeat (first | exact Cl.p _ | exact Cl.dsl _ _ | exact Cl.any | refine Cl.tup ?_ | refine Cl.agg ?_ | exact Clo.nil | refine Clo.cons ?_ ?_)) ⟨rfl, rfl⟩)
theorem Ty.wrong_eq (t : Ty) : t.wrong = if Ty.head t.kind t.num t.kids.length = 0 then Ty.wrongs t.kids else Ty.head t.kind t.num t.kids.length := by cases t; exact Ty.wrong_mk _ _ _
theorem Ty.wrongs_at {ks : List Ty} {i : Nat} {x : Ty} (h : ks[i]? = some x) : Ty.wrongs (ks.drop i) = if x.wrong = 0 then Ty.wrongs (ks.drop (i + 1)) else x.wrong := by
  obtain ⟨h1, h2⟩ := List.getElem?_eq_some_iff.1 h
  rw [Ty.wrongs_step h1, h2]
set_option maxHeartbeats 1000000 in
theorem c_RPartSize (N : Nat) : ∀ t : Ty, t.size ≤ N → ∀ (most : Int) (H : AH), 0 ≤ most → most ≤ 1000000 → Tri Try.prog 50 [t.av, iv most] H (fun r H' => H' = H ∧ r = iv (capN t.size most)) := by
  induction N with
  | zero => intro t ht; have := t.size_pos; omega
  | succ N ih =>
    intro t ht most H h0 h1
    refine tri_wf fun hw => tri_lenA 0 2 rfl t.cs_g2 fun hl => tri_wordhoardref_PartSize ?_
    have hml : maxLen = 9223372036854775807 := by decide
    rw [List.length_map] at hl
    have hsz := t.size_eq
    unfold S_wordhoardref_PartSize
    simp (disch := first | omega | simp) [Ty.av]
    refine loop_st (fun s : Int × Nat => [iv s.1, iv s.2]) (fun s H' => H' = (H.up 2).put H.nx (.box 24 t.cs) ∧ s.2 ≤ t.kids.length ∧ s.1 = capN (1 + Ty.sizes (t.kids.take s.2)) most) (fun s => t.kids.length - s.2) (1, 0) (.refl (Nat.le_refl _)) ⟨rfl, Nat.zero_le _, ?_⟩ ?_
    · simp only [List.take_zero, Ty.sizes]; unfold capN; split <;> omega
    · rintro ⟨n, i⟩ H1 hn1 ⟨rfl, hi, hn⟩ k hk
      dsimp only at hi hn hk
      unfold S_wordhoardref_PartSize_L1
      have hsl := Ty.sizes_le t.kids i
      have hcp := capN_in (s := 1 + Ty.sizes (t.kids.take i)) h0
      by_cases hil : i < t.kids.length
      · have hss := Ty.sizes_succ t.kids i hil
        have hsl2 := Ty.sizes_le t.kids (i + 1)
        obtain ⟨x, hx⟩ : ∃ x, t.kids[i]? = some x := ⟨_, List.getElem?_eq_getElem hil⟩
        have hxg : ∀ h, t.kids[i]'h = x := fun h => (List.getElem?_eq_some_iff.1 hx).2
        rw [hxg] at hss
        have hxs : x.size ≤ N := by have := Ty.sizes_mem (List.mem_of_getElem? hx); omega
        have hiv := ivn (i := i) (by omega)
        by_cases hc : ((1 + Ty.sizes (t.kids.take i) : Nat) : Int) ≤ most
        · rw [capN_low hc] at hn
          have hnm : n ≤ most := by omega
          have hw1 : IntKind.i64.wrap (most - n) = most - n := wrapI (by omega) (by omega)
          have hcap := capN_in (s := x.size) (most := most - n) (by omega)
          have hw2 : IntKind.i64.wrap (n + capN x.size (most - n)) = n + capN x.size (most - n) := wrapI (by omega) (by omega)
          simp (disch := first | omega | simp) [iv, hil, hxg, hnm, Ty.cs_len, Ty.cs_g2, Ty.cs_take, hw1]
          refine ca_pure (by kernel_rfl) (ih x hxs (most - n) _ (by omega) (by omega)) ?_
          simp (disch := first | omega | simp) [iv, hw2, hiv]
          refine hk (n + capN x.size (most - n), i + 1) _ _ _ (.refl (by first | omega | (simp only [up_nx, put_nx, kill_nx]; done) | (simp only [up_nx, put_nx, kill_nx]; omega))) ⟨rfl, hil, ?_⟩ (by dsimp only; omega)
          dsimp only
          rw [hn, capN_add hc, hss]
          congr 1; omega
        · rw [capN_high hc] at hn
          have hnm : ¬ n ≤ most := by omega
          have hnm2 : most < n := by omega
          have hw3 : IntKind.i64.wrap (most + 1) = most + 1 := wrapI (by omega) (by omega)
          simp (disch := first | omega | simp) [iv, hil, hnm, hnm2, Ty.cs_g2, hw3]
          refine rt_one hw (by repeat (first | with_reducible assumption | with_reducible exact AH.le.refl _ | with_reducible apply AH.le.up | (with_reducible refine AH.le.put hw ?_ ?_; · first | omega | (simp only [up_nx, put_nx, kill_nx]; done) | (simp only [up_nx, put_nx, kill_nx]; omega)) | (with_reducible refine AH.le.kill hw ?_ ?_; · first | omega | (simp only [up_nx, put_nx, kill_nx]; done) | (simp only [up_nx, put_nx, kill_nx]; omega)))) (by repeat (first | exact Cl.p _ | exact Cl.dsl _ _ | exact Cl.any | refine Cl.tup ?_ | refine Cl.agg ?_ | exact Clo.nil | refine Clo.cons ?_ ?_)) ⟨rfl, ?_⟩
          rw [capN_high (by omega)]
      · have hie : t.kids.take i = t.kids := List.take_of_length_le (by omega)
        rw [hie, ← hsz] at hn
        by_cases hc : (t.size : Int) ≤ most
        · have hnm : ¬ most < n := by rw [hn, capN_low hc]; omega
          simp (disch := first | omega | simp) [iv, hil, hnm, Ty.cs_g2]
          refine rt_one hw (by repeat (first | with_reducible assumption | with_reducible exact AH.le.refl _ | with_reducible apply AH.le.up | (with_reducible refine AH.le.put hw ?_ ?_; · first | omega | (simp only [up_nx, put_nx, kill_nx]; done) | (simp only [up_nx, put_nx, kill_nx]; omega)) | (with_reducible refine AH.le.kill hw ?_ ?_; · first | omega | (simp only [up_nx, put_nx, kill_nx]; done) | (simp only [up_nx, put_nx, kill_nx]; omega)))) (by repeat (first | exact Cl.p _ | exact Cl.dsl _ _ | exact Cl.any | refine Cl.tup ?_ | refine Cl.agg ?_ | exact Clo.nil | refine Clo.cons ?_ ?_)) ⟨rfl, ?_⟩
          rw [hn]
        · have hnm : most < n := by rw [hn, capN_high hc]; omega
          have hw3 : IntKind.i64.wrap (most + 1) = most + 1 := wrapI (by omega) (by omega)
          simp (disch := first | omega | simp) [iv, hil, hnm, Ty.cs_g2, hw3]
          refine rt_one hw (by repeat (first | with_reducible assumption | with_reducible exact AH.le.refl _ | with_reducible apply AH.le.up | (with_reducible refine AH.le.put hw ?_ ?_; · first | omega | (simp only [up_nx, put_nx, kill_nx]; done) | (simp only [up_nx, put_nx, kill_nx]; omega)) | (with_reducible refine AH.le.kill hw ?_ ?_; · first | omega | (simp only [up_nx, put_nx, kill_nx]; done) | (simp only [up_nx, put_nx, kill_nx]; omega)))) (by repeat (first | exact Cl.p _ | exact Cl.dsl _ _ | exact Cl.any | refine Cl.tup ?_ | refine Cl.agg ?_ | exact Clo.nil | refine Clo.cons ?_ ?_)) ⟨rfl, ?_⟩
          rw [capN_high hc]
theorem checkTy_loop {H H1 : AH} {t : Ty} {m : Int} (hm : m = (t.kids.length : Int)) (hw : WF H) (hle : H.le H1) (hn : H.nx ≤ H1.nx) (hl : t.kids.length ≤ 9223372036854775806) (ih : ∀ x ∈ t.kids, ∀ H, Tri Try.prog 54 [x.av] H (fun r H' => H' = H ∧ r = iv x.wrong)) :
    LoopA Try.prog 1 (S_speech_check_L1 (fun r H' => H' = H ∧ r = iv (Ty.wrongs t.kids)) H (.dsl 3 (t.kids.map Ty.cs)) (iv m)) [iv 0] H1 := by
  subst hm
  refine loop_st (fun i : Nat => [iv i]) (fun i H' => H.le H' ∧ H.nx ≤ H'.nx ∧ i ≤ t.kids.length ∧ Ty.wrongs t.kids = Ty.wrongs (t.kids.drop i)) (fun i => t.kids.length - i) 0 (.refl (Nat.le_refl _)) ⟨hle, hn, Nat.zero_le _, by simp⟩ ?_
  rintro i H2 hn2 ⟨hle2, hn3, hi, hwr⟩ k hk
  unfold S_speech_check_L1
  by_cases hil : i < t.kids.length
  · obtain ⟨x, hx⟩ : ∃ x, t.kids[i]? = some x := ⟨_, List.getElem?_eq_getElem hil⟩
    have hxg : ∀ h, t.kids[i]'h = x := fun h => (List.getElem?_eq_some_iff.1 hx).2
    have hiv := ivn (i := i) (by omega)
    rw [Ty.wrongs_at hx] at hwr
    simp (disch := first | omega | simp) [iv, hil, hxg, Ty.cs_len, Ty.cs_take]
    refine ca_pure (by kernel_rfl) (ih x (List.mem_of_getElem? hx) _) ?_
    by_cases h0 : x.wrong = 0
    · rw [if_pos h0] at hwr
      simp (disch := first | omega | simp) [iv, h0, hiv]
      exact hk (i + 1) _ _ _ (.refl (by first | omega | (simp only [up_nx, put_nx]; done) | (simp only [up_nx, put_nx]; omega))) ⟨(by repeat (first | with_reducible assumption | with_reducible exact AH.le.refl _ | with_reducible apply AH.le.up | (with_reducible refine AH.le.put hw ?_ ?_; · first | omega | (simp only [up_nx, put_nx, kill_nx]; done) | (simp only [up_nx, put_nx, kill_nx]; omega)) | (with_reducible refine AH.le.kill hw ?_ ?_; · first | omega | (simp only [up_nx, put_nx, kill_nx]; done) | (simp only [up_nx, put_nx, kill_nx]; omega)))), (by first | omega | (simp only [up_nx, put_nx]; done) | (simp only [up_nx, put_nx]; omega)), hil, hwr⟩ (by omega)
    · rw [if_neg h0] at hwr
      simp (disch := first | omega | simp) [iv, h0]
      exact rt_one hw (by repeat (first | with_reducible assumption | with_reducible exact AH.le.refl _ | with_reducible apply AH.le.up | (with_reducible refine AH.le.put hw ?_ ?_; · first | omega | (simp only [up_nx, put_nx, kill_nx]; done) | (simp only [up_nx, put_nx, kill_nx]; omega)) | (with_reducible refine AH.le.kill hw ?_ ?_; · first | omega | (simp only [up_nx, put_nx, kill_nx]; done) | (simp only [up_nx, put_nx, kill_nx]; omega)))) (by repeat (first | exact Cl.p _ | exact Cl.dsl _ _ | exact Cl.any | refine Cl.tup ?_ | refine Cl.agg ?_ | exact Clo.nil | refine Clo.cons ?_ ?_)) ⟨rfl, by rw [hwr]⟩
  · rw [Ty.wrongs_end (by omega)] at hwr
    simp (disch := first | omega | simp) [iv, hil]
    exact rt_one hw (by repeat (first | with_reducible assumption | with_reducible exact AH.le.refl _ | with_reducible apply AH.le.up | (with_reducible refine AH.le.put hw ?_ ?_; · first | omega | (simp only [up_nx, put_nx, kill_nx]; done) | (simp only [up_nx, put_nx, kill_nx]; omega)) | (with_reducible refine AH.le.kill hw ?_ ?_; · first | omega | (simp only [up_nx, put_nx, kill_nx]; done) | (simp only [up_nx, put_nx, kill_nx]; omega)))) (by repeat (first | exact Cl.p _ | exact Cl.dsl _ _ | exact Cl.any | refine Cl.tup ?_ | refine Cl.agg ?_ | exact Clo.nil | refine Clo.cons ?_ ?_)) ⟨rfl, by rw [hwr]⟩
theorem typeWrong_loop {H H1 : AH} {t : Ty} {b : Nat} {tt : TypeId} (hb : H1.get b = some (.box tt t.cs)) (hw : WF H) (hle : H.le H1) (_hn : H.nx ≤ H1.nx) (hl : t.kids.length ≤ 9223372036854775806) (ih : ∀ x ∈ t.kids, ∀ H, Tri Try.prog 51 [x.av] H (fun r H' => H' = H ∧ r = iv x.wrong)) :
    LoopA Try.prog 1 (S_wordhoardref_partWrong_L1 (fun r H' => H' = H ∧ r = iv (Ty.wrongs t.kids)) H (.ptr b 0)) [iv 0] H1 := by
  refine loop_st (fun i : Nat => [iv i]) (fun i H' => H1 = H' ∧ i ≤ t.kids.length ∧ Ty.wrongs t.kids = Ty.wrongs (t.kids.drop i)) (fun i => t.kids.length - i) 0 (.refl (Nat.le_refl _)) ⟨rfl, Nat.zero_le _, by simp⟩ ?_
  rintro i H2 hn2 ⟨rfl, hi, hwr⟩ k hk
  unfold S_wordhoardref_partWrong_L1
  by_cases hil : i < t.kids.length
  · obtain ⟨x, hx⟩ : ∃ x, t.kids[i]? = some x := ⟨_, List.getElem?_eq_getElem hil⟩
    have hxg : ∀ h, t.kids[i]'h = x := fun h => (List.getElem?_eq_some_iff.1 hx).2
    have hiv := ivn (i := i) (by omega)
    rw [Ty.wrongs_at hx] at hwr
    simp (disch := first | omega | simp) [iv, hil, hxg, Ty.cs_len, Ty.cs_g2, Ty.cs_take, hb]
    refine ca_pure (by kernel_rfl) (ih x (List.mem_of_getElem? hx) _) ?_
    by_cases h0 : x.wrong = 0
    · rw [if_pos h0] at hwr
      simp (disch := first | omega | simp) [iv, h0, hiv]
      exact hk (i + 1) _ _ _ (.refl (by first | omega | (simp only [up_nx, put_nx, kill_nx]; done) | (simp only [up_nx, put_nx, kill_nx]; omega))) ⟨rfl, hil, hwr⟩ (by omega)
    · rw [if_neg h0] at hwr
      simp (disch := first | omega | simp) [iv, h0]
      exact rt_one hw (by repeat (first | with_reducible assumption | with_reducible exact AH.le.refl _ | with_reducible apply AH.le.up | (with_reducible refine AH.le.put hw ?_ ?_; · first | omega | (simp only [up_nx, put_nx, kill_nx]; done) | (simp only [up_nx, put_nx, kill_nx]; omega)) | (with_reducible refine AH.le.kill hw ?_ ?_; · first | omega | (simp only [up_nx, put_nx, kill_nx]; done) | (simp only [up_nx, put_nx, kill_nx]; omega)))) (by repeat (first | exact Cl.p _ | exact Cl.dsl _ _ | exact Cl.any | refine Cl.tup ?_ | refine Cl.agg ?_ | exact Clo.nil | refine Clo.cons ?_ ?_)) ⟨rfl, by rw [hwr]⟩
  · rw [Ty.wrongs_end (by omega)] at hwr
    simp (disch := first | omega | simp) [iv, hil, Ty.cs_g2, hb]
    exact rt_one hw (by repeat (first | with_reducible assumption | with_reducible exact AH.le.refl _ | with_reducible apply AH.le.up | (with_reducible refine AH.le.put hw ?_ ?_; · first | omega | (simp only [up_nx, put_nx, kill_nx]; done) | (simp only [up_nx, put_nx, kill_nx]; omega)) | (with_reducible refine AH.le.kill hw ?_ ?_; · first | omega | (simp only [up_nx, put_nx, kill_nx]; done) | (simp only [up_nx, put_nx, kill_nx]; omega)))) (by repeat (first | exact Cl.p _ | exact Cl.dsl _ _ | exact Cl.any | refine Cl.tup ?_ | refine Cl.agg ?_ | exact Clo.nil | refine Clo.cons ?_ ?_)) ⟨rfl, by rw [hwr]⟩
theorem Ty.head_cases (t : Ty) (P : Prop) (h1 : t.kind < 1 → P) (h1b : 3 < t.kind → P) (h2 : t.kind = 1 → t.kids.length ≠ 0 → P) (h3 : t.kind = 2 → t.kids.length ≠ 2 → P) (h3b : t.kind = 3 → t.kids.length ≠ 2 → P)
    (h4 : t.kind = 1 → t.kids.length = 0 → t.num < 0 → P) (h5 : t.kind = 1 → t.kids.length = 0 → 9 < t.num → P) (h6 : t.kind = 1 → t.kids.length = 0 → 0 ≤ t.num → t.num ≤ 9 → P)
    (h7 : t.kind = 2 ∨ t.kind = 3 → t.kids.length = 2 → t.num < 0 → P) (h8 : t.kind = 2 ∨ t.kind = 3 → t.kids.length = 2 → 0 < t.num → t.num ≤ 9 → P) (h8b : t.kind = 2 ∨ t.kind = 3 → t.kids.length = 2 → 9 < t.num → P) (h9 : t.kind = 2 ∨ t.kind = 3 → t.kids.length = 2 → t.num = 0 → P) : P := by
  by_cases k1 : t.kind < 1
  · exact h1 k1
  by_cases k2 : 3 < t.kind
  · exact h1b k2
  have : t.kind = 1 ∨ t.kind = 2 ∨ t.kind = 3 := by omega
  rcases this with k | k | k
  · by_cases l : t.kids.length = 0
    · by_cases n1 : t.num < 0
      · exact h4 k l n1
      · by_cases n2 : 9 < t.num
        · exact h5 k l n2
        · exact h6 k l (by omega) (by omega)
    · exact h2 k l
  all_goals
    by_cases l : t.kids.length = 2
    · by_cases n1 : t.num < 0
      · exact h7 (by omega) l n1
      · by_cases n2 : t.num = 0
        · exact h9 (by omega) l n2
        · by_cases n3 : 9 < t.num
          · exact h8b (by omega) l n3
          · exact h8 (by omega) l (by omega) (by omega)
  · exact h3 k l
  · exact h3b k l
set_option maxHeartbeats 2000000 in
theorem c_check (N : Nat) : ∀ t : Ty, t.size ≤ N → ∀ H : AH, Tri Try.prog 54 [t.av] H (fun r H' => H' = H ∧ r = iv t.wrong) := by
  induction N with
  | zero => intro t ht; have := t.size_pos; omega
  | succ N ih =>
    intro t ht H
    refine tri_wf fun hw => tri_lenA 0 2 rfl t.cs_g2 fun hl => tri_speech_check ?_
    have hml : maxLen = 9223372036854775807 := by decide
    rw [List.length_map] at hl
    have hsz := t.size_eq
    have hk : ∀ x ∈ t.kids, ∀ H, Tri Try.prog 54 [x.av] H (fun r H' => H' = H ∧ r = iv x.wrong) := fun x hx H => ih x (by have := Ty.sizes_mem hx; omega) H
    unfold S_speech_check
    refine Ty.head_cases t _ (fun k1 => ?_) (fun k1 => ?_) (fun k1 l => ?_) (fun k1 l => ?_) (fun k1 l => ?_) (fun k1 l n => ?_) (fun k1 l n => ?_) (fun k1 l n n2 => ?_) (fun k1 l n => ?_) (fun k1 l n n2 => ?_) (fun k1 l n => ?_) (fun k1 l n => ?_)
    · have q1 : ¬ t.kind = 1 := by omega
      have q2 : ¬ t.kind = 2 := by omega
      have q3 : ¬ t.kind = 3 := by omega
      have hwr : t.wrong = 4 := by rw [Ty.wrong_eq]; simp [Ty.head, k1]
      simp (disch := first | omega | simp) [Ty.av]
      refine cut_st (fun _ : Unit => []) (fun _ _ => False) (fun k hk2 => ?_) (fun _ _ _ h => h.elim)
      simp (disch := first | omega | simp) [iv, Ty.cs_g0, q1, q2, q3]
      exact rt_one hw (by repeat (first | with_reducible assumption | with_reducible exact AH.le.refl _ | with_reducible apply AH.le.up | (with_reducible refine AH.le.put hw ?_ ?_; · first | omega | (simp only [up_nx, put_nx, kill_nx]; done) | (simp only [up_nx, put_nx, kill_nx]; omega)) | (with_reducible refine AH.le.kill hw ?_ ?_; · first | omega | (simp only [up_nx, put_nx, kill_nx]; done) | (simp only [up_nx, put_nx, kill_nx]; omega)))) (by repeat (first | exact Cl.p _ | exact Cl.dsl _ _ | exact Cl.any | refine Cl.tup ?_ | refine Cl.agg ?_ | exact Clo.nil | refine Clo.cons ?_ ?_)) ⟨rfl, by rw [hwr]⟩
    · have q0 : ¬ t.kind < 1 := by omega
      have q1 : ¬ t.kind = 1 := by omega
      have q2 : ¬ t.kind = 2 := by omega
      have q3 : ¬ t.kind = 3 := by omega
      have hwr : t.wrong = 4 := by rw [Ty.wrong_eq]; simp [Ty.head, k1, q0]
      simp (disch := first | omega | simp) [Ty.av]
      refine cut_st (fun _ : Unit => []) (fun _ _ => False) (fun k hk2 => ?_) (fun _ _ _ h => h.elim)
      simp (disch := first | omega | simp) [iv, Ty.cs_g0, q1, q2, q3]
      exact rt_one hw (by repeat (first | with_reducible assumption | with_reducible exact AH.le.refl _ | with_reducible apply AH.le.up | (with_reducible refine AH.le.put hw ?_ ?_; · first | omega | (simp only [up_nx, put_nx, kill_nx]; done) | (simp only [up_nx, put_nx, kill_nx]; omega)) | (with_reducible refine AH.le.kill hw ?_ ?_; · first | omega | (simp only [up_nx, put_nx, kill_nx]; done) | (simp only [up_nx, put_nx, kill_nx]; omega)))) (by repeat (first | exact Cl.p _ | exact Cl.dsl _ _ | exact Cl.any | refine Cl.tup ?_ | refine Cl.agg ?_ | exact Clo.nil | refine Clo.cons ?_ ?_)) ⟨rfl, by rw [hwr]⟩
    · have l2 : ¬ ((t.kids.length : Int) = 0) := by omega
      have l3 : 0 < t.kids.length := by omega
      have hwr : t.wrong = 1 := by rw [Ty.wrong_eq]; simp [Ty.head, k1, l]
      simp (disch := first | omega | simp) [Ty.av]
      refine cut_st (fun _ : Unit => [iv 0, iv 9]) (fun _ H' => ((H.up 2).put H.nx (.box 24 t.cs)) = H') (fun k hk2 => ?_) ?_
      · simp (disch := first | omega | simp) [iv, Ty.cs_g0, k1]
        exact hk2 () _ _ _ (.refl (by first | omega | (simp only [up_nx, put_nx, kill_nx]; done) | (simp only [up_nx, put_nx, kill_nx]; omega))) rfl
      · rintro _ _ _ rfl
        unfold S_speech_check_K2
        simp (disch := first | omega | simp) [iv, Ty.cs_g2, l]
        exact rt_one hw (by repeat (first | with_reducible assumption | with_reducible exact AH.le.refl _ | with_reducible apply AH.le.up | (with_reducible refine AH.le.put hw ?_ ?_; · first | omega | (simp only [up_nx, put_nx, kill_nx]; done) | (simp only [up_nx, put_nx, kill_nx]; omega)) | (with_reducible refine AH.le.kill hw ?_ ?_; · first | omega | (simp only [up_nx, put_nx, kill_nx]; done) | (simp only [up_nx, put_nx, kill_nx]; omega)))) (by repeat (first | exact Cl.p _ | exact Cl.dsl _ _ | exact Cl.any | refine Cl.tup ?_ | refine Cl.agg ?_ | exact Clo.nil | refine Clo.cons ?_ ?_)) ⟨rfl, by rw [hwr]⟩
    · have l2 : ¬ ((t.kids.length : Int) = 2) := by omega
      have hwr : t.wrong = 1 := by rw [Ty.wrong_eq]; simp [Ty.head, k1, l2]
      simp (disch := first | omega | simp) [Ty.av]
      refine cut_st (fun _ : Unit => [iv 2, iv 0]) (fun _ H' => ((H.up 2).put H.nx (.box 24 t.cs)) = H') (fun k hk2 => ?_) ?_
      · simp (disch := first | omega | simp) [iv, Ty.cs_g0, k1]
        exact hk2 () _ _ _ (.refl (by first | omega | (simp only [up_nx, put_nx, kill_nx]; done) | (simp only [up_nx, put_nx, kill_nx]; omega))) rfl
      · rintro _ _ _ rfl
        unfold S_speech_check_K2
        simp (disch := first | omega | simp) [iv, Ty.cs_g2, l2]
        exact rt_one hw (by repeat (first | with_reducible assumption | with_reducible exact AH.le.refl _ | with_reducible apply AH.le.up | (with_reducible refine AH.le.put hw ?_ ?_; · first | omega | (simp only [up_nx, put_nx, kill_nx]; done) | (simp only [up_nx, put_nx, kill_nx]; omega)) | (with_reducible refine AH.le.kill hw ?_ ?_; · first | omega | (simp only [up_nx, put_nx, kill_nx]; done) | (simp only [up_nx, put_nx, kill_nx]; omega)))) (by repeat (first | exact Cl.p _ | exact Cl.dsl _ _ | exact Cl.any | refine Cl.tup ?_ | refine Cl.agg ?_ | exact Clo.nil | refine Clo.cons ?_ ?_)) ⟨rfl, by rw [hwr]⟩
    · have l2 : ¬ ((t.kids.length : Int) = 2) := by omega
      have hwr : t.wrong = 1 := by rw [Ty.wrong_eq]; simp [Ty.head, k1, l2]
      simp (disch := first | omega | simp) [Ty.av]
      refine cut_st (fun _ : Unit => [iv 2, iv 0]) (fun _ H' => ((H.up 2).put H.nx (.box 24 t.cs)) = H') (fun k hk2 => ?_) ?_
      · simp (disch := first | omega | simp) [iv, Ty.cs_g0, k1]
        exact hk2 () _ _ _ (.refl (by first | omega | (simp only [up_nx, put_nx, kill_nx]; done) | (simp only [up_nx, put_nx, kill_nx]; omega))) rfl
      · rintro _ _ _ rfl
        unfold S_speech_check_K2
        simp (disch := first | omega | simp) [iv, Ty.cs_g2, l2]
        exact rt_one hw (by repeat (first | with_reducible assumption | with_reducible exact AH.le.refl _ | with_reducible apply AH.le.up | (with_reducible refine AH.le.put hw ?_ ?_; · first | omega | (simp only [up_nx, put_nx, kill_nx]; done) | (simp only [up_nx, put_nx, kill_nx]; omega)) | (with_reducible refine AH.le.kill hw ?_ ?_; · first | omega | (simp only [up_nx, put_nx, kill_nx]; done) | (simp only [up_nx, put_nx, kill_nx]; omega)))) (by repeat (first | exact Cl.p _ | exact Cl.dsl _ _ | exact Cl.any | refine Cl.tup ?_ | refine Cl.agg ?_ | exact Clo.nil | refine Clo.cons ?_ ?_)) ⟨rfl, by rw [hwr]⟩
    · have hwr : t.wrong = 3 := by rw [Ty.wrong_eq]; simp [Ty.head, k1, l, n]
      simp (disch := first | omega | simp) [Ty.av]
      refine cut_st (fun _ : Unit => [iv 0, iv 9]) (fun _ H' => ((H.up 2).put H.nx (.box 24 t.cs)) = H') (fun k hk2 => ?_) ?_
      · simp (disch := first | omega | simp) [iv, Ty.cs_g0, k1]
        exact hk2 () _ _ _ (.refl (by first | omega | (simp only [up_nx, put_nx, kill_nx]; done) | (simp only [up_nx, put_nx, kill_nx]; omega))) rfl
      · rintro _ _ _ rfl
        unfold S_speech_check_K2
        simp (disch := first | omega | simp) [iv, Ty.cs_g1, Ty.cs_g2, l, n]
        exact rt_one hw (by repeat (first | with_reducible assumption | with_reducible exact AH.le.refl _ | with_reducible apply AH.le.up | (with_reducible refine AH.le.put hw ?_ ?_; · first | omega | (simp only [up_nx, put_nx, kill_nx]; done) | (simp only [up_nx, put_nx, kill_nx]; omega)) | (with_reducible refine AH.le.kill hw ?_ ?_; · first | omega | (simp only [up_nx, put_nx, kill_nx]; done) | (simp only [up_nx, put_nx, kill_nx]; omega)))) (by repeat (first | exact Cl.p _ | exact Cl.dsl _ _ | exact Cl.any | refine Cl.tup ?_ | refine Cl.agg ?_ | exact Clo.nil | refine Clo.cons ?_ ?_)) ⟨rfl, by rw [hwr]⟩
    · have n1 : ¬ t.num < 0 := by omega
      have hwr : t.wrong = 3 := by rw [Ty.wrong_eq]; simp [Ty.head, k1, l, n, n1]
      simp (disch := first | omega | simp) [Ty.av]
      refine cut_st (fun _ : Unit => [iv 0, iv 9]) (fun _ H' => ((H.up 2).put H.nx (.box 24 t.cs)) = H') (fun k hk2 => ?_) ?_
      · simp (disch := first | omega | simp) [iv, Ty.cs_g0, k1]
        exact hk2 () _ _ _ (.refl (by first | omega | (simp only [up_nx, put_nx, kill_nx]; done) | (simp only [up_nx, put_nx, kill_nx]; omega))) rfl
      · rintro _ _ _ rfl
        unfold S_speech_check_K2
        simp (disch := first | omega | simp) [iv, Ty.cs_g1, Ty.cs_g2, l, n, n1]
        exact rt_one hw (by repeat (first | with_reducible assumption | with_reducible exact AH.le.refl _ | with_reducible apply AH.le.up | (with_reducible refine AH.le.put hw ?_ ?_; · first | omega | (simp only [up_nx, put_nx, kill_nx]; done) | (simp only [up_nx, put_nx, kill_nx]; omega)) | (with_reducible refine AH.le.kill hw ?_ ?_; · first | omega | (simp only [up_nx, put_nx, kill_nx]; done) | (simp only [up_nx, put_nx, kill_nx]; omega)))) (by repeat (first | exact Cl.p _ | exact Cl.dsl _ _ | exact Cl.any | refine Cl.tup ?_ | refine Cl.agg ?_ | exact Clo.nil | refine Clo.cons ?_ ?_)) ⟨rfl, by rw [hwr]⟩
    · have n1 : ¬ t.num < 0 := by omega
      have n3 : ¬ 9 < t.num := by omega
      have hwr : t.wrong = Ty.wrongs t.kids := by rw [Ty.wrong_eq]; simp [Ty.head, k1, l, n1, n3]
      simp (disch := first | omega | simp) [Ty.av]
      refine cut_st (fun _ : Unit => [iv 0, iv 9]) (fun _ H' => ((H.up 2).put H.nx (.box 24 t.cs)) = H') (fun k hk2 => ?_) ?_
      · simp (disch := first | omega | simp) [iv, Ty.cs_g0, k1]
        exact hk2 () _ _ _ (.refl (by first | omega | (simp only [up_nx, put_nx, kill_nx]; done) | (simp only [up_nx, put_nx, kill_nx]; omega))) rfl
      · rintro _ _ _ rfl
        unfold S_speech_check_K2
        simp (disch := first | omega | simp) [iv, Ty.cs_g1, Ty.cs_g2, l, n1, n3]
        rw [hwr]
        exact checkTy_loop (by simp [l]) hw (by repeat (first | with_reducible assumption | with_reducible exact AH.le.refl _ | with_reducible apply AH.le.up | (with_reducible refine AH.le.put hw ?_ ?_; · first | omega | (simp only [up_nx, put_nx, kill_nx]; done) | (simp only [up_nx, put_nx, kill_nx]; omega)) | (with_reducible refine AH.le.kill hw ?_ ?_; · first | omega | (simp only [up_nx, put_nx, kill_nx]; done) | (simp only [up_nx, put_nx, kill_nx]; omega)))) (by first | omega | (simp only [up_nx, put_nx]; done) | (simp only [up_nx, put_nx]; omega)) (by omega) hk
    · rcases k1 with k1 | k1
      all_goals
      have hwr : t.wrong = 3 := by rw [Ty.wrong_eq]; simp [Ty.head, k1, l, n]
      simp (disch := first | omega | simp) [Ty.av]
      refine cut_st (fun _ : Unit => [iv 2, iv 0]) (fun _ H' => ((H.up 2).put H.nx (.box 24 t.cs)) = H') (fun k hk2 => ?_) ?_
      · simp (disch := first | omega | simp) [iv, Ty.cs_g0, k1]
        exact hk2 () _ _ _ (.refl (by first | omega | (simp only [up_nx, put_nx, kill_nx]; done) | (simp only [up_nx, put_nx, kill_nx]; omega))) rfl
      · rintro _ _ _ rfl
        unfold S_speech_check_K2
        simp (disch := first | omega | simp) [iv, Ty.cs_g1, Ty.cs_g2, l, n]
        exact rt_one hw (by repeat (first | with_reducible assumption | with_reducible exact AH.le.refl _ | with_reducible apply AH.le.up | (with_reducible refine AH.le.put hw ?_ ?_; · first | omega | (simp only [up_nx, put_nx, kill_nx]; done) | (simp only [up_nx, put_nx, kill_nx]; omega)) | (with_reducible refine AH.le.kill hw ?_ ?_; · first | omega | (simp only [up_nx, put_nx, kill_nx]; done) | (simp only [up_nx, put_nx, kill_nx]; omega)))) (by repeat (first | exact Cl.p _ | exact Cl.dsl _ _ | exact Cl.any | refine Cl.tup ?_ | refine Cl.agg ?_ | exact Clo.nil | refine Clo.cons ?_ ?_)) ⟨rfl, by rw [hwr]⟩
    · rcases k1 with k1 | k1
      all_goals
      have n1 : ¬ t.num < 0 := by omega
      have n3 : ¬ 9 < t.num := by omega
      have n4 : ¬ t.num = 0 := by omega
      have hwr : t.wrong = 3 := by rw [Ty.wrong_eq]; simp [Ty.head, k1, l, n, n1, n3]
      simp (disch := first | omega | simp) [Ty.av]
      refine cut_st (fun _ : Unit => [iv 2, iv 0]) (fun _ H' => ((H.up 2).put H.nx (.box 24 t.cs)) = H') (fun k hk2 => ?_) ?_
      · simp (disch := first | omega | simp) [iv, Ty.cs_g0, k1]
        exact hk2 () _ _ _ (.refl (by first | omega | (simp only [up_nx, put_nx, kill_nx]; done) | (simp only [up_nx, put_nx, kill_nx]; omega))) rfl
      · rintro _ _ _ rfl
        unfold S_speech_check_K2
        simp (disch := first | omega | simp) [iv, Ty.cs_g1, Ty.cs_g2, l, n, n1]
        exact rt_one hw (by repeat (first | with_reducible assumption | with_reducible exact AH.le.refl _ | with_reducible apply AH.le.up | (with_reducible refine AH.le.put hw ?_ ?_; · first | omega | (simp only [up_nx, put_nx, kill_nx]; done) | (simp only [up_nx, put_nx, kill_nx]; omega)) | (with_reducible refine AH.le.kill hw ?_ ?_; · first | omega | (simp only [up_nx, put_nx, kill_nx]; done) | (simp only [up_nx, put_nx, kill_nx]; omega)))) (by repeat (first | exact Cl.p _ | exact Cl.dsl _ _ | exact Cl.any | refine Cl.tup ?_ | refine Cl.agg ?_ | exact Clo.nil | refine Clo.cons ?_ ?_)) ⟨rfl, by rw [hwr]⟩
    · rcases k1 with k1 | k1
      all_goals
      have n1 : ¬ t.num < 0 := by omega
      have n4 : ¬ t.num = 0 := by omega
      have n5 : 0 < t.num := by omega
      have hwr : t.wrong = 3 := by rw [Ty.wrong_eq]; simp [Ty.head, k1, l, n, n1, n5]
      simp (disch := first | omega | simp) [Ty.av]
      refine cut_st (fun _ : Unit => [iv 2, iv 0]) (fun _ H' => ((H.up 2).put H.nx (.box 24 t.cs)) = H') (fun k hk2 => ?_) ?_
      · simp (disch := first | omega | simp) [iv, Ty.cs_g0, k1]
        exact hk2 () _ _ _ (.refl (by first | omega | (simp only [up_nx, put_nx, kill_nx]; done) | (simp only [up_nx, put_nx, kill_nx]; omega))) rfl
      · rintro _ _ _ rfl
        unfold S_speech_check_K2
        simp (disch := first | omega | simp) [iv, Ty.cs_g1, Ty.cs_g2, l, n1, n5]
        exact rt_one hw (by repeat (first | with_reducible assumption | with_reducible exact AH.le.refl _ | with_reducible apply AH.le.up | (with_reducible refine AH.le.put hw ?_ ?_; · first | omega | (simp only [up_nx, put_nx, kill_nx]; done) | (simp only [up_nx, put_nx, kill_nx]; omega)) | (with_reducible refine AH.le.kill hw ?_ ?_; · first | omega | (simp only [up_nx, put_nx, kill_nx]; done) | (simp only [up_nx, put_nx, kill_nx]; omega)))) (by repeat (first | exact Cl.p _ | exact Cl.dsl _ _ | exact Cl.any | refine Cl.tup ?_ | refine Cl.agg ?_ | exact Clo.nil | refine Clo.cons ?_ ?_)) ⟨rfl, by rw [hwr]⟩
    · rcases k1 with k1 | k1
      all_goals
      have hwr : t.wrong = Ty.wrongs t.kids := by rw [Ty.wrong_eq]; simp [Ty.head, k1, l, n]
      simp (disch := first | omega | simp) [Ty.av]
      refine cut_st (fun _ : Unit => [iv 2, iv 0]) (fun _ H' => ((H.up 2).put H.nx (.box 24 t.cs)) = H') (fun k hk2 => ?_) ?_
      · simp (disch := first | omega | simp) [iv, Ty.cs_g0, k1]
        exact hk2 () _ _ _ (.refl (by first | omega | (simp only [up_nx, put_nx, kill_nx]; done) | (simp only [up_nx, put_nx, kill_nx]; omega))) rfl
      · rintro _ _ _ rfl
        unfold S_speech_check_K2
        simp (disch := first | omega | simp) [iv, Ty.cs_g1, Ty.cs_g2, l, n]
        rw [hwr]
        exact checkTy_loop (by simp [l]) hw (by repeat (first | with_reducible assumption | with_reducible exact AH.le.refl _ | with_reducible apply AH.le.up | (with_reducible refine AH.le.put hw ?_ ?_; · first | omega | (simp only [up_nx, put_nx, kill_nx]; done) | (simp only [up_nx, put_nx, kill_nx]; omega)) | (with_reducible refine AH.le.kill hw ?_ ?_; · first | omega | (simp only [up_nx, put_nx, kill_nx]; done) | (simp only [up_nx, put_nx, kill_nx]; omega)))) (by first | omega | (simp only [up_nx, put_nx]; done) | (simp only [up_nx, put_nx]; omega)) (by omega) hk
set_option maxHeartbeats 2000000 in
theorem c_partWrong (N : Nat) : ∀ t : Ty, t.size ≤ N → ∀ H : AH, Tri Try.prog 51 [t.av] H (fun r H' => H' = H ∧ r = iv t.wrong) := by
  induction N with
  | zero => intro t ht; have := t.size_pos; omega
  | succ N ih =>
    intro t ht H
    refine tri_wf fun hw => tri_lenA 0 2 rfl t.cs_g2 fun hl => tri_wordhoardref_partWrong ?_
    have hml : maxLen = 9223372036854775807 := by decide
    rw [List.length_map] at hl
    have hsz := t.size_eq
    have hk : ∀ x ∈ t.kids, ∀ H, Tri Try.prog 51 [x.av] H (fun r H' => H' = H ∧ r = iv x.wrong) := fun x hx H => ih x (by have := Ty.sizes_mem hx; omega) H
    unfold S_wordhoardref_partWrong
    refine Ty.head_cases t _ (fun k1 => ?_) (fun k1 => ?_) (fun k1 l => ?_) (fun k1 l => ?_) (fun k1 l => ?_) (fun k1 l n => ?_) (fun k1 l n => ?_) (fun k1 l n n2 => ?_) (fun k1 l n => ?_) (fun k1 l n n2 => ?_) (fun k1 l n => ?_) (fun k1 l n => ?_)
    · have q1 : ¬ t.kind = 1 := by omega
      have q2 : ¬ t.kind = 2 := by omega
      have q3 : ¬ t.kind = 3 := by omega
      have hwr : t.wrong = 4 := by rw [Ty.wrong_eq]; simp [Ty.head, k1]
      simp (disch := first | omega | simp) [iv, Ty.av, Ty.cs_g0, k1]
      exact rt_one hw (by repeat (first | with_reducible assumption | with_reducible exact AH.le.refl _ | with_reducible apply AH.le.up | (with_reducible refine AH.le.put hw ?_ ?_; · first | omega | (simp only [up_nx, put_nx, kill_nx]; done) | (simp only [up_nx, put_nx, kill_nx]; omega)) | (with_reducible refine AH.le.kill hw ?_ ?_; · first | omega | (simp only [up_nx, put_nx, kill_nx]; done) | (simp only [up_nx, put_nx, kill_nx]; omega)))) (by repeat (first | exact Cl.p _ | exact Cl.dsl _ _ | exact Cl.any | refine Cl.tup ?_ | refine Cl.agg ?_ | exact Clo.nil | refine Clo.cons ?_ ?_)) ⟨rfl, by rw [hwr]⟩
    · have q0 : ¬ t.kind < 1 := by omega
      have q1 : ¬ t.kind = 1 := by omega
      have q2 : ¬ t.kind = 2 := by omega
      have q3 : ¬ t.kind = 3 := by omega
      have hwr : t.wrong = 4 := by rw [Ty.wrong_eq]; simp [Ty.head, k1, q0]
      simp (disch := first | omega | simp) [iv, Ty.av, Ty.cs_g0, k1, q0]
      exact rt_one hw (by repeat (first | with_reducible assumption | with_reducible exact AH.le.refl _ | with_reducible apply AH.le.up | (with_reducible refine AH.le.put hw ?_ ?_; · first | omega | (simp only [up_nx, put_nx, kill_nx]; done) | (simp only [up_nx, put_nx, kill_nx]; omega)) | (with_reducible refine AH.le.kill hw ?_ ?_; · first | omega | (simp only [up_nx, put_nx, kill_nx]; done) | (simp only [up_nx, put_nx, kill_nx]; omega)))) (by repeat (first | exact Cl.p _ | exact Cl.dsl _ _ | exact Cl.any | refine Cl.tup ?_ | refine Cl.agg ?_ | exact Clo.nil | refine Clo.cons ?_ ?_)) ⟨rfl, by rw [hwr]⟩
    · have l2 : ¬ ((t.kids.length : Int) = 0) := by omega
      have l3 : 0 < t.kids.length := by omega
      have hwr : t.wrong = 1 := by rw [Ty.wrong_eq]; simp [Ty.head, k1, l]
      simp (disch := first | omega | simp) [iv, Ty.av, Ty.cs_g0, k1]
      unfold S_wordhoardref_partWrong_C3
      simp (disch := first | omega | simp) [iv, Ty.cs_g0, Ty.cs_g2, k1, l]
      exact rt_one hw (by repeat (first | with_reducible assumption | with_reducible exact AH.le.refl _ | with_reducible apply AH.le.up | (with_reducible refine AH.le.put hw ?_ ?_; · first | omega | (simp only [up_nx, put_nx, kill_nx]; done) | (simp only [up_nx, put_nx, kill_nx]; omega)) | (with_reducible refine AH.le.kill hw ?_ ?_; · first | omega | (simp only [up_nx, put_nx, kill_nx]; done) | (simp only [up_nx, put_nx, kill_nx]; omega)))) (by repeat (first | exact Cl.p _ | exact Cl.dsl _ _ | exact Cl.any | refine Cl.tup ?_ | refine Cl.agg ?_ | exact Clo.nil | refine Clo.cons ?_ ?_)) ⟨rfl, by rw [hwr]⟩
    · have l2 : ¬ ((t.kids.length : Int) = 2) := by omega
      have hwr : t.wrong = 1 := by rw [Ty.wrong_eq]; simp [Ty.head, k1, l2]
      simp (disch := first | omega | simp) [iv, Ty.av, Ty.cs_g0, k1]
      unfold S_wordhoardref_partWrong_C3
      simp (disch := first | omega | simp) [iv, Ty.cs_g0, Ty.cs_g2, k1, l2]
      exact rt_one hw (by repeat (first | with_reducible assumption | with_reducible exact AH.le.refl _ | with_reducible apply AH.le.up | (with_reducible refine AH.le.put hw ?_ ?_; · first | omega | (simp only [up_nx, put_nx, kill_nx]; done) | (simp only [up_nx, put_nx, kill_nx]; omega)) | (with_reducible refine AH.le.kill hw ?_ ?_; · first | omega | (simp only [up_nx, put_nx, kill_nx]; done) | (simp only [up_nx, put_nx, kill_nx]; omega)))) (by repeat (first | exact Cl.p _ | exact Cl.dsl _ _ | exact Cl.any | refine Cl.tup ?_ | refine Cl.agg ?_ | exact Clo.nil | refine Clo.cons ?_ ?_)) ⟨rfl, by rw [hwr]⟩
    · have l2 : ¬ ((t.kids.length : Int) = 2) := by omega
      have hwr : t.wrong = 1 := by rw [Ty.wrong_eq]; simp [Ty.head, k1, l2]
      simp (disch := first | omega | simp) [iv, Ty.av, Ty.cs_g0, k1]
      unfold S_wordhoardref_partWrong_C3
      simp (disch := first | omega | simp) [iv, Ty.cs_g0, Ty.cs_g2, k1, l2]
      exact rt_one hw (by repeat (first | with_reducible assumption | with_reducible exact AH.le.refl _ | with_reducible apply AH.le.up | (with_reducible refine AH.le.put hw ?_ ?_; · first | omega | (simp only [up_nx, put_nx, kill_nx]; done) | (simp only [up_nx, put_nx, kill_nx]; omega)) | (with_reducible refine AH.le.kill hw ?_ ?_; · first | omega | (simp only [up_nx, put_nx, kill_nx]; done) | (simp only [up_nx, put_nx, kill_nx]; omega)))) (by repeat (first | exact Cl.p _ | exact Cl.dsl _ _ | exact Cl.any | refine Cl.tup ?_ | refine Cl.agg ?_ | exact Clo.nil | refine Clo.cons ?_ ?_)) ⟨rfl, by rw [hwr]⟩
    · have hwr : t.wrong = 3 := by rw [Ty.wrong_eq]; simp [Ty.head, k1, l, n]
      simp (disch := first | omega | simp) [iv, Ty.av, Ty.cs_g0, k1]
      unfold S_wordhoardref_partWrong_C3
      simp (disch := first | omega | simp) [iv, Ty.cs_g0, Ty.cs_g2, k1, l]
      unfold S_wordhoardref_partWrong_C2
      simp (disch := first | omega | simp) [iv, Ty.cs_g1, n]
      exact rt_one hw (by repeat (first | with_reducible assumption | with_reducible exact AH.le.refl _ | with_reducible apply AH.le.up | (with_reducible refine AH.le.put hw ?_ ?_; · first | omega | (simp only [up_nx, put_nx, kill_nx]; done) | (simp only [up_nx, put_nx, kill_nx]; omega)) | (with_reducible refine AH.le.kill hw ?_ ?_; · first | omega | (simp only [up_nx, put_nx, kill_nx]; done) | (simp only [up_nx, put_nx, kill_nx]; omega)))) (by repeat (first | exact Cl.p _ | exact Cl.dsl _ _ | exact Cl.any | refine Cl.tup ?_ | refine Cl.agg ?_ | exact Clo.nil | refine Clo.cons ?_ ?_)) ⟨rfl, by rw [hwr]⟩
    · have n1 : ¬ t.num < 0 := by omega
      have hwr : t.wrong = 3 := by rw [Ty.wrong_eq]; simp [Ty.head, k1, l, n, n1]
      simp (disch := first | omega | simp) [iv, Ty.av, Ty.cs_g0, k1]
      unfold S_wordhoardref_partWrong_C3
      simp (disch := first | omega | simp) [iv, Ty.cs_g0, Ty.cs_g2, k1, l]
      unfold S_wordhoardref_partWrong_C2
      simp (disch := first | omega | simp) [iv, Ty.cs_g1, n, n1]
      exact rt_one hw (by repeat (first | with_reducible assumption | with_reducible exact AH.le.refl _ | with_reducible apply AH.le.up | (with_reducible refine AH.le.put hw ?_ ?_; · first | omega | (simp only [up_nx, put_nx, kill_nx]; done) | (simp only [up_nx, put_nx, kill_nx]; omega)) | (with_reducible refine AH.le.kill hw ?_ ?_; · first | omega | (simp only [up_nx, put_nx, kill_nx]; done) | (simp only [up_nx, put_nx, kill_nx]; omega)))) (by repeat (first | exact Cl.p _ | exact Cl.dsl _ _ | exact Cl.any | refine Cl.tup ?_ | refine Cl.agg ?_ | exact Clo.nil | refine Clo.cons ?_ ?_)) ⟨rfl, by rw [hwr]⟩
    · have n1 : ¬ t.num < 0 := by omega
      have n3 : ¬ 9 < t.num := by omega
      have hwr : t.wrong = Ty.wrongs t.kids := by rw [Ty.wrong_eq]; simp [Ty.head, k1, l, n1, n3]
      simp (disch := first | omega | simp) [iv, Ty.av, Ty.cs_g0, k1]
      unfold S_wordhoardref_partWrong_C3
      simp (disch := first | omega | simp) [iv, Ty.cs_g0, Ty.cs_g2, k1, l]
      unfold S_wordhoardref_partWrong_C2
      simp (disch := first | omega | simp) [iv, Ty.cs_g0, Ty.cs_g1, k1, n1, n3]
      rw [hwr]
      exact typeWrong_loop (put_get _ _) hw (by repeat (first | with_reducible assumption | with_reducible exact AH.le.refl _ | with_reducible apply AH.le.up | (with_reducible refine AH.le.put hw ?_ ?_; · first | omega | (simp only [up_nx, put_nx, kill_nx]; done) | (simp only [up_nx, put_nx, kill_nx]; omega)) | (with_reducible refine AH.le.kill hw ?_ ?_; · first | omega | (simp only [up_nx, put_nx, kill_nx]; done) | (simp only [up_nx, put_nx, kill_nx]; omega)))) (by first | omega | (simp only [up_nx, put_nx]; done) | (simp only [up_nx, put_nx]; omega)) (by omega) hk
    · rcases k1 with k1 | k1
      all_goals
      have hwr : t.wrong = 3 := by rw [Ty.wrong_eq]; simp [Ty.head, k1, l, n]
      simp (disch := first | omega | simp) [iv, Ty.av, Ty.cs_g0, k1]
      unfold S_wordhoardref_partWrong_C3
      simp (disch := first | omega | simp) [iv, Ty.cs_g0, Ty.cs_g2, k1, l]
      unfold S_wordhoardref_partWrong_C2
      simp (disch := first | omega | simp) [iv, Ty.cs_g1, n]
      exact rt_one hw (by repeat (first | with_reducible assumption | with_reducible exact AH.le.refl _ | with_reducible apply AH.le.up | (with_reducible refine AH.le.put hw ?_ ?_; · first | omega | (simp only [up_nx, put_nx, kill_nx]; done) | (simp only [up_nx, put_nx, kill_nx]; omega)) | (with_reducible refine AH.le.kill hw ?_ ?_; · first | omega | (simp only [up_nx, put_nx, kill_nx]; done) | (simp only [up_nx, put_nx, kill_nx]; omega)))) (by repeat (first | exact Cl.p _ | exact Cl.dsl _ _ | exact Cl.any | refine Cl.tup ?_ | refine Cl.agg ?_ | exact Clo.nil | refine Clo.cons ?_ ?_)) ⟨rfl, by rw [hwr]⟩
    · rcases k1 with k1 | k1
      all_goals
      have n1 : ¬ t.num < 0 := by omega
      have n3 : ¬ 9 < t.num := by omega
      have n4 : ¬ t.num = 0 := by omega
      have hwr : t.wrong = 3 := by rw [Ty.wrong_eq]; simp [Ty.head, k1, l, n, n1, n3]
      simp (disch := first | omega | simp) [iv, Ty.av, Ty.cs_g0, k1]
      unfold S_wordhoardref_partWrong_C3
      simp (disch := first | omega | simp) [iv, Ty.cs_g0, Ty.cs_g2, k1, l]
      unfold S_wordhoardref_partWrong_C2
      simp (disch := first | omega | simp) [iv, Ty.cs_g0, Ty.cs_g1, k1, n1, n3, n4]
      exact rt_one hw (by repeat (first | with_reducible assumption | with_reducible exact AH.le.refl _ | with_reducible apply AH.le.up | (with_reducible refine AH.le.put hw ?_ ?_; · first | omega | (simp only [up_nx, put_nx, kill_nx]; done) | (simp only [up_nx, put_nx, kill_nx]; omega)) | (with_reducible refine AH.le.kill hw ?_ ?_; · first | omega | (simp only [up_nx, put_nx, kill_nx]; done) | (simp only [up_nx, put_nx, kill_nx]; omega)))) (by repeat (first | exact Cl.p _ | exact Cl.dsl _ _ | exact Cl.any | refine Cl.tup ?_ | refine Cl.agg ?_ | exact Clo.nil | refine Clo.cons ?_ ?_)) ⟨rfl, by rw [hwr]⟩
    · rcases k1 with k1 | k1
      all_goals
      have n1 : ¬ t.num < 0 := by omega
      have n4 : ¬ t.num = 0 := by omega
      have n5 : 0 < t.num := by omega
      have hwr : t.wrong = 3 := by rw [Ty.wrong_eq]; simp [Ty.head, k1, l, n, n1, n5]
      simp (disch := first | omega | simp) [iv, Ty.av, Ty.cs_g0, k1]
      unfold S_wordhoardref_partWrong_C3
      simp (disch := first | omega | simp) [iv, Ty.cs_g0, Ty.cs_g2, k1, l]
      unfold S_wordhoardref_partWrong_C2
      simp (disch := first | omega | simp) [iv, Ty.cs_g1, n, n1]
      exact rt_one hw (by repeat (first | with_reducible assumption | with_reducible exact AH.le.refl _ | with_reducible apply AH.le.up | (with_reducible refine AH.le.put hw ?_ ?_; · first | omega | (simp only [up_nx, put_nx, kill_nx]; done) | (simp only [up_nx, put_nx, kill_nx]; omega)) | (with_reducible refine AH.le.kill hw ?_ ?_; · first | omega | (simp only [up_nx, put_nx, kill_nx]; done) | (simp only [up_nx, put_nx, kill_nx]; omega)))) (by repeat (first | exact Cl.p _ | exact Cl.dsl _ _ | exact Cl.any | refine Cl.tup ?_ | refine Cl.agg ?_ | exact Clo.nil | refine Clo.cons ?_ ?_)) ⟨rfl, by rw [hwr]⟩
    · rcases k1 with k1 | k1
      all_goals
      have hwr : t.wrong = Ty.wrongs t.kids := by rw [Ty.wrong_eq]; simp [Ty.head, k1, l, n]
      simp (disch := first | omega | simp) [iv, Ty.av, Ty.cs_g0, k1]
      unfold S_wordhoardref_partWrong_C3
      simp (disch := first | omega | simp) [iv, Ty.cs_g0, Ty.cs_g2, k1, l]
      unfold S_wordhoardref_partWrong_C2
      simp (disch := first | omega | simp) [iv, Ty.cs_g0, Ty.cs_g1, k1, n]
      rw [hwr]
      exact typeWrong_loop (put_get _ _) hw (by repeat (first | with_reducible assumption | with_reducible exact AH.le.refl _ | with_reducible apply AH.le.up | (with_reducible refine AH.le.put hw ?_ ?_; · first | omega | (simp only [up_nx, put_nx, kill_nx]; done) | (simp only [up_nx, put_nx, kill_nx]; omega)) | (with_reducible refine AH.le.kill hw ?_ ?_; · first | omega | (simp only [up_nx, put_nx, kill_nx]; done) | (simp only [up_nx, put_nx, kill_nx]; omega)))) (by first | omega | (simp only [up_nx, put_nx]; done) | (simp only [up_nx, put_nx]; omega)) (by omega) hk
theorem c_Check (t : Ty) : PF Try.prog 21 [t.av] (iv t.check) := fun H => tri_wf fun hw => tri_speech_Check (by
  unfold S_speech_Check
  simp (disch := first | omega | simp) [Ty.av, Ty.cs_len, Ty.cs_take]
  refine ca_pure (by kernel_rfl) (c_count t 15 (by decide) (by decide) _) ?_
  by_cases h : (t.size : Int) ≤ 15
  · have hc : t.check = t.wrong := by unfold Ty.check; rw [if_neg (by omega)]
    have h2 : ¬ (15 : Int) < (t.size : Int) := by omega
    rw [capN_low h]
    simp (disch := first | omega | simp) [iv, Ty.cs_len, Ty.cs_take, h2]
    refine ca_pure (by kernel_rfl) (c_check t.size t (Nat.le_refl _) _) ?_
    exact rt_one hw (by repeat (first | with_reducible assumption | with_reducible exact AH.le.refl _ | with_reducible apply AH.le.up | (with_reducible refine AH.le.put hw ?_ ?_; · first | omega | (simp only [up_nx, put_nx, kill_nx]; done) | (simp only [up_nx, put_nx, kill_nx]; omega)) | (with_reducible refine AH.le.kill hw ?_ ?_; · first | omega | (simp only [up_nx, put_nx, kill_nx]; done) | (simp only [up_nx, put_nx, kill_nx]; omega)))) (by repeat (first | exact Cl.p _ | exact Cl.dsl _ _ | exact Cl.any | refine Cl.tup ?_ | refine Cl.agg ?_ | exact Clo.nil | refine Clo.cons ?_ ?_)) ⟨rfl, by rw [hc]; rfl⟩
  · have hc : t.check = 7 := by unfold Ty.check; rw [if_pos (by omega)]
    rw [capN_high h]
    simp (disch := first | omega | simp) [iv]
    exact rt_one hw (by repeat (first | with_reducible assumption | with_reducible exact AH.le.refl _ | with_reducible apply AH.le.up | (with_reducible refine AH.le.put hw ?_ ?_; · first | omega | (simp only [up_nx, put_nx, kill_nx]; done) | (simp only [up_nx, put_nx, kill_nx]; omega)) | (with_reducible refine AH.le.kill hw ?_ ?_; · first | omega | (simp only [up_nx, put_nx, kill_nx]; done) | (simp only [up_nx, put_nx, kill_nx]; omega)))) (by repeat (first | exact Cl.p _ | exact Cl.dsl _ _ | exact Cl.any | refine Cl.tup ?_ | refine Cl.agg ?_ | exact Clo.nil | refine Clo.cons ?_ ?_)) ⟨rfl, by rw [hc]⟩)
theorem c_RCheckPart (t : Ty) : PF Try.prog 19 [t.av] (iv t.check) := fun H => tri_wf fun hw => tri_wordhoardref_CheckPart (by
  unfold S_wordhoardref_CheckPart
  simp (disch := first | omega | simp) [Ty.av, Ty.cs_len, Ty.cs_take]
  refine ca_pure (by kernel_rfl) (c_RPartSize t.size t (Nat.le_refl _) 15 _ (by decide) (by decide)) ?_
  by_cases h : (t.size : Int) ≤ 15
  · have hc : t.check = t.wrong := by unfold Ty.check; rw [if_neg (by omega)]
    have h2 : ¬ (15 : Int) < (t.size : Int) := by omega
    rw [capN_low h]
    simp (disch := first | omega | simp) [iv, Ty.cs_len, Ty.cs_take, h2]
    refine ca_pure (by kernel_rfl) (c_partWrong t.size t (Nat.le_refl _) _) ?_
    exact rt_one hw (by repeat (first | with_reducible assumption | with_reducible exact AH.le.refl _ | with_reducible apply AH.le.up | (with_reducible refine AH.le.put hw ?_ ?_; · first | omega | (simp only [up_nx, put_nx, kill_nx]; done) | (simp only [up_nx, put_nx, kill_nx]; omega)) | (with_reducible refine AH.le.kill hw ?_ ?_; · first | omega | (simp only [up_nx, put_nx, kill_nx]; done) | (simp only [up_nx, put_nx, kill_nx]; omega)))) (by repeat (first | exact Cl.p _ | exact Cl.dsl _ _ | exact Cl.any | refine Cl.tup ?_ | refine Cl.agg ?_ | exact Clo.nil | refine Clo.cons ?_ ?_)) ⟨rfl, by rw [hc]; rfl⟩
  · have hc : t.check = 7 := by unfold Ty.check; rw [if_pos (by omega)]
    rw [capN_high h]
    simp (disch := first | omega | simp) [iv]
    exact rt_one hw (by repeat (first | with_reducible assumption | with_reducible exact AH.le.refl _ | with_reducible apply AH.le.up | (with_reducible refine AH.le.put hw ?_ ?_; · first | omega | (simp only [up_nx, put_nx, kill_nx]; done) | (simp only [up_nx, put_nx, kill_nx]; omega)) | (with_reducible refine AH.le.kill hw ?_ ?_; · first | omega | (simp only [up_nx, put_nx, kill_nx]; done) | (simp only [up_nx, put_nx, kill_nx]; omega)))) (by repeat (first | exact Cl.p _ | exact Cl.dsl _ _ | exact Cl.any | refine Cl.tup ?_ | refine Cl.agg ?_ | exact Clo.nil | refine Clo.cons ?_ ?_)) ⟨rfl, by rw [hc]⟩)
end Go.Proofs.Ytpmnlikgldacaaa
