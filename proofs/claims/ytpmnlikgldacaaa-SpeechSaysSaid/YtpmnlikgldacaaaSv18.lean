/- Texts that the proof rests on, part 18: what each holds stands at its head. -/
import Derived.Test.YtpmnlikgldacaaaSv17

/- Readings of trees: what comes in at a type that holds itself. Nothing of the program is named here. -/
namespace Go.Proofs.Ytpmnlikgldacaaa
open Go.ChangeShapes Go.WideShapes Go.RowKit

def OpensN {α : Type} (P : Program) (t : TypeId) (ρ : Rep α) (N : Nat) : Prop :=
  ∀ (H : Type) (enc : TypeId × Value → H) (w : World) (base : Nat) (spare : Nat → Bool) (held : Bool) (fuel : Nat) (cs : List Value) (x : DataW H × List MemPlace), fuel ≤ N →
    DataW.trod enc P w base spare held fuel t cs = some x → ∃ y, ρ.R w (fun b => b < w.heap.size) cs y ∧ ρ.bulk y ≤ Rows.uptoBulk x.1
theorem Opens.n {α : Type} {P : Program} {t : TypeId} {ρ : Rep α} (h : Opens P t ρ) (N : Nat) : OpensN P t ρ N := fun H enc w base spare held fuel cs x _ hx => h H enc w base spare held fuel cs x hx
theorem OpensN.map {α β : Type} {P : Program} {t : TypeId} {ρ : Rep α} {σ : Rep β} {N : Nat} (h : OpensN P t ρ N) (f : α → β) (hr : ∀ w S cs y, ρ.R w S cs y → σ.R w S cs (f y)) (hb : ∀ y, σ.bulk (f y) ≤ ρ.bulk y) : OpensN P t σ N := by
  intro H enc w base spare held fuel cs x hf hx
  obtain ⟨y, h1, h2⟩ := h H enc w base spare held fuel cs x hf hx
  exact ⟨f y, hr _ _ _ _ h1, Nat.le_trans (hb y) h2⟩
theorem opensN_slice {α : Type} {ρ : Rep α} {P : Program} {t e : TypeId} {N : Nat} (ht : P.underlying t = some (.slice e)) (hs : P.cellsOf e = ρ.size) (hp : 0 < ρ.size) (he : OpensN P e ρ N) : OpensN P t (rList ρ) (N + 1) := by
  intro H enc w base spare held fuel cs x hfuel h
  rcases DataW.trod_slice ht h with ⟨rfl, rfl⟩ | ⟨a, len, cap, elems, rest, n, hn, rfl, rfl, _, hl, hm, hlen, hel, _, _⟩
  · exact ⟨[], ⟨none, 0, rfl, Sl.nil_⟩, by simp [rList, Rows.uptoBulk]⟩
  · have key : ∀ i, i < len → ∃ y, (a.block < w.heap.size ∧ (∃ u, ρ.R w (fun b => b < w.heap.size) u y ∧ ∀ j z, u[j]? = some z → w.cell? (a.add (i * ρ.size + j)) = some z)) ∧ ∀ d, (elems.map (·.1))[i]? = some d → ρ.bulk y ≤ Rows.uptoBulk d := by
      intro i hi
      have h1 := hel i hi
      rw [List.getElem?_eq_getElem (by omega)] at h1
      cases hc : w.cells? base (a.add (i * P.cellsOf e)) (P.cellsOf e) with
      | none => rw [hc] at h1; simp at h1
      | some us =>
        rw [hc] at h1
        simp only [Option.bind_some] at h1
        obtain ⟨y, hy, hb⟩ := he H enc w base spare held n us _ (by omega) h1
        obtain ⟨_, hcl, hat⟩ := World.cells?_some hc
        have hcell : ∀ j z, us[j]? = some z → w.cell? (a.add (i * ρ.size + j)) = some z := by
          intro j z hz
          have hj : j < P.cellsOf e := by have := (List.getElem?_eq_some_iff.1 hz).1; omega
          have := hat j hj
          rw [hz, add_of_add, hs] at this; exact this
        refine ⟨y, ⟨?_, us, hy, hcell⟩, fun d hd => ?_⟩
        · have h0 : 0 < us.length := by rw [ρ.len hy]; exact hp
          have := World.block_lt_of_cell? w _ (hcell 0 _ (List.getElem?_eq_getElem h0))
          rwa [block_of_add] at this
        · rw [List.getElem?_map, List.getElem?_eq_getElem (by omega)] at hd
          simp at hd; subst hd; exact hb
    obtain ⟨ys, hyl, hq⟩ := pick len key
    refine ⟨ys, ⟨some a, cap, by rw [hyl], by omega, hm, fun i y hy => ?_⟩, ?_⟩
    · obtain ⟨⟨hb, u, hr, hc⟩, _⟩ := hq i y hy
      exact ⟨a, u, rfl, hb, hr, hc⟩
    · have := sum_le ρ.bulk ys (elems.map (·.1)) (by rw [List.length_map]; omega) fun i y d hy hd => (hq i y hy).2 d hd
      simp only [rList, Rows.uptoBulk]; omega
def OpensLN {α : Type} (P : Program) (l : List Field) (off : Nat) (ρ : Rep α) (N : Nat) : Prop :=
  ∀ (H : Type) (enc : TypeId × Value → H) (w : World) (base : Nat) (spare : Nat → Bool) (held : Bool) (fuel : Nat) (cs : List Value) (xs : List (DataW H × List MemPlace)), fuel ≤ N →
    cs.length = off + ρ.size → xs.length = l.length → (∀ (i : Nat) (f : Field), l[i]? = some f → DataW.trod enc P w base spare held fuel f.type ((cs.drop f.offset).take (P.cellsOf f.type)) = xs[i]?) →
    ∃ y, ρ.R w (fun b => b < w.heap.size) (cs.drop off) y ∧ ρ.bulk y ≤ Rows.uptoBulkAll (xs.map (·.1))
theorem opensN_last {α : Type} {ρ : Rep α} {P : Program} {f : Field} {off N : Nat} (ho : f.offset = off) (hs : P.cellsOf f.type = ρ.size) (hf : OpensN P f.type ρ N) : OpensLN P [f] off ρ N := by
  intro H enc w base spare held fuel cs xs hfu hl hx h
  match xs, hx with
  | [x], _ =>
    have h0 := h 0 f rfl
    rw [ho, hs, List.take_of_length_le (by rw [List.length_drop]; omega)] at h0
    obtain ⟨y, hy, hb⟩ := hf H enc w base spare held fuel _ x hfu h0
    exact ⟨y, hy, by simp only [List.map_cons, List.map_nil, Rows.uptoBulkAll]; omega⟩
theorem opensN_more {α β : Type} {ρ : Rep α} {σ : Rep β} {P : Program} {f : Field} {l : List Field} {off N : Nat} (ho : f.offset = off) (hs : P.cellsOf f.type = ρ.size) (hf : OpensN P f.type ρ N) (hl : OpensLN P l (off + ρ.size) σ N) :
    OpensLN P (f :: l) off (rPair ρ σ) N := by
  intro H enc w base spare held fuel cs xs hfu hcs hx h
  match xs, hx with
  | x :: xs, hx =>
    have h0 := h 0 f rfl
    rw [ho, hs] at h0
    have hz : (rPair ρ σ).size = ρ.size + σ.size := rfl
    obtain ⟨y, hy, hb⟩ := hf H enc w base spare held fuel _ x hfu h0
    obtain ⟨z, hz, hb'⟩ := hl H enc w base spare held fuel cs xs hfu (by omega) (by simpa using hx) fun i f hi => h (i + 1) f (by simpa using hi)
    refine ⟨(y, z), ⟨_, _, ?_, hy, hz⟩, ?_⟩
    · rw [← List.drop_drop, List.take_append_drop]
    · simp only [rPair, List.map_cons, Rows.uptoBulkAll]; omega
theorem opensN_struct {α : Type} {ρ : Rep α} {P : Program} {t : TypeId} {l : List Field} {N : Nat} (ht : P.underlying t = some (.struct l.toArray)) (hs : P.cellsOf t = ρ.size) (hl : OpensLN P l 0 ρ N) : OpensN P t ρ (N + 1) := by
  intro H enc w base spare held fuel cs x hfu h
  obtain ⟨xs, n, hn, rfl, hcs, hx, hf⟩ := DataW.trod_struct ht h
  obtain ⟨y, hy, hb⟩ := hl H enc w base spare held n cs xs (by omega) (by omega) (by simpa using hx) fun i f hi => hf i f (by simpa using hi)
  exact ⟨y, by simpa using hy, by simp only [Rows.uptoBulk]; omega⟩
theorem OpensN.less {α : Type} {P : Program} {t : TypeId} {ρ : Rep α} {N M : Nat} (h : OpensN P t ρ N) (hm : M ≤ N) : OpensN P t ρ M := fun H enc w base spare held fuel cs x hf hx => h H enc w base spare held fuel cs x (Nat.le_trans hf hm) hx
/-- a struct that holds slices of itself -/
theorem opens_rec {α : Type} {ρ : Rep α} {P : Program} {t : TypeId} {fs : Array Field} (ht : P.underlying t = some (.struct fs)) (h : ∀ N, OpensN P t ρ N → OpensN P t ρ (N + 1)) : Opens P t ρ := by
  have key : ∀ N, OpensN P t ρ N := by
    intro N
    induction N with
    | zero =>
      intro H enc w base spare held fuel cs x hf hx
      obtain ⟨xs, n, hn, _⟩ := DataW.trod_struct ht hx
      omega
    | succ N ih => exact h N ih
  exact fun H enc w base spare held fuel cs x hx => key fuel H enc w base spare held fuel cs x (Nat.le_refl _) hx
def Rep.sub {α : Type} (ρ : Rep α) (p : α → Prop) : Rep α where
  size := ρ.size
  bulk := ρ.bulk
  R w S cs x := ρ.R w S cs x ∧ p x
  len h := ρ.len h.1
  one h := ρ.one h.1
  keep h hk := ⟨ρ.keep h.1 hk, h.2⟩
  more h hm := ⟨ρ.more h.1 hm, h.2⟩
theorem Sl.sub {α : Type} {ρ : Rep α} {w : World} {S : Nat → Prop} {A : Option Addr} {c : Nat} {xs : List α} (h : Sl ρ w S A c xs) {p : α → Prop} (hp : ∀ x ∈ xs, p x) : Sl (ρ.sub p) w S A c xs :=
  ⟨h.1, h.2.1, fun i x hx => by
    obtain ⟨ad, u, e, hs, hr, hc⟩ := h.2.2 i x hx
    exact ⟨ad, u, e, hs, ⟨hr, hp x (List.mem_of_getElem? hx)⟩, hc⟩⟩
/-- trees are told by their size -/
theorem avs_rec {α : Type} {ρ : Rep α} {av : α → List AV} {ok : α → Prop} (size : α → Nat) (h : ∀ N, AvsG (ρ.sub fun x => size x ≤ N) id av ok → AvsG (ρ.sub fun x => size x ≤ N + 1) id av ok) (h0 : ∀ x, 1 ≤ size x) : AvsG ρ id av ok := by
  have key : ∀ N, AvsG (ρ.sub fun x => size x ≤ N) id av ok := by
    intro N
    induction N with
    | zero => intro w S cs y hr; have := h0 y; have := hr.2; omega
    | succ N ih => exact h N ih
  exact fun w S cs y hr => key (size y) w S cs y ⟨hr, Nat.le_refl _⟩
end Go.Proofs.Ytpmnlikgldacaaa

/- Parts and proofs as they come in: what stands for them in memory. -/
namespace Go.Proofs.Ytpmnlikgldacaaa
open Go.RowKit
mutual
def Ty.R (w : World) (S : Nat → Prop) : List Value → Ty → Prop
  | cs, ⟨k, n, ks⟩ => ∃ A c, cs = [.int .i64 k, .int .i64 n, .slice A ks.length c] ∧ I64 k ∧ I64 n ∧ ks.length ≤ c ∧ c ≤ maxLen ∧ Ty.Rs w S A 0 ks
def Ty.Rs (w : World) (S : Nat → Prop) (A : Option Addr) : Nat → List Ty → Prop
  | _, [] => True
  | i, t :: r => (∃ ad u, A = some ad ∧ S ad.block ∧ Ty.R w S u t ∧ ∀ j z, u[j]? = some z → w.cell? (ad.add (i * 3 + j)) = some z) ∧ Ty.Rs w S A (i + 1) r
end
theorem Ty.Rs_iff {w : World} {S : Nat → Prop} {A : Option Addr} : ∀ {ks : List Ty} {i : Nat}, Ty.Rs w S A i ks ↔ ∀ j t, ks[j]? = some t → ∃ ad u, A = some ad ∧ S ad.block ∧ Ty.R w S u t ∧ ∀ m z, u[m]? = some z → w.cell? (ad.add ((i + j) * 3 + m)) = some z
  | [], i => by rw [Ty.Rs]; simp
  | t :: r, i => by
    rw [Ty.Rs, Ty.Rs_iff (ks := r) (i := i + 1)]
    constructor
    · rintro ⟨h1, h2⟩ j x hx
      match j with
      | 0 => simp at hx; subst hx; exact h1
      | j + 1 =>
        obtain ⟨ad, u, e, hs, hr, hc⟩ := h2 j x (by simpa using hx)
        exact ⟨ad, u, e, hs, hr, by rw [show i + (j + 1) = i + 1 + j from by omega]; exact hc⟩
    · intro h
      refine ⟨h 0 t rfl, fun j x hx => ?_⟩
      obtain ⟨ad, u, e, hs, hr, hc⟩ := h (j + 1) x (by simpa using hx)
      exact ⟨ad, u, e, hs, hr, by rw [show i + 1 + j = i + (j + 1) from by omega]; exact hc⟩
theorem Ty.R_mk {w : World} {S : Nat → Prop} {cs : List Value} {k n : Int} {ks : List Ty} : Ty.R w S cs ⟨k, n, ks⟩ ↔ ∃ A c, cs = [.int .i64 k, .int .i64 n, .slice A ks.length c] ∧ I64 k ∧ I64 n ∧ ks.length ≤ c ∧ c ≤ maxLen ∧ Ty.Rs w S A 0 ks := by rw [Ty.R]
theorem Ty.R_keep {w w' : World} {S S' : Nat → Prop} (hk : ∀ p : Addr, S p.block → w'.cell? p = w.cell? p) (hm : ∀ b, S b → S' b) : ∀ (N : Nat) {cs : List Value} {t : Ty}, t.size ≤ N → Ty.R w S cs t → Ty.R w' S' cs t
  | 0, cs, ⟨k, n, ks⟩, hN, h => by rw [Ty.size_mk] at hN; omega
  | N + 1, cs, ⟨k, n, ks⟩, hN, h => by
    rw [Ty.size_mk] at hN
    obtain ⟨A, c, e, h1, h2, h3, h4, h5⟩ := Ty.R_mk.1 h
    refine Ty.R_mk.2 ⟨A, c, e, h1, h2, h3, h4, Ty.Rs_iff.2 fun j t ht => ?_⟩
    obtain ⟨ad, u, ea, hs, hr, hc⟩ := Ty.Rs_iff.1 h5 j t ht
    have := Ty.sizes_mem (List.mem_of_getElem? ht)
    exact ⟨ad, u, ea, hm _ hs, Ty.R_keep hk hm N (by omega) hr, fun m z hz => (hk _ (by rw [block_of_add]; exact hs)).trans (hc m z hz)⟩
def rTy : Rep Ty where
  size := 3
  bulk := Ty.size
  R := Ty.R
  len := fun {w S cs x} h => by obtain ⟨k, n, ks⟩ := x; obtain ⟨A, c, e, _⟩ := Ty.R_mk.1 h; rw [e]; rfl
  one := fun {w S cs x} h => by obtain ⟨k, n, ks⟩ := x; obtain ⟨A, c, e, _⟩ := Ty.R_mk.1 h; rw [e]; intro u hu; simp at hu; rcases hu with rfl | rfl | rfl <;> rfl
  keep := fun h hk => Ty.R_keep hk (fun _ h => h) _ (Nat.le_refl _) h
  more := fun h hm => Ty.R_keep (fun _ _ => rfl) hm _ (Nat.le_refl _) h
theorem ty_open {w : World} {S : Nat → Prop} {cs : List Value} {t : Ty} (h : rTy.R w S cs t) : ∃ A c, cs = [.int .i64 t.kind, .int .i64 t.num, .slice A t.kids.length c] ∧ I64 t.kind ∧ I64 t.num ∧ Sl rTy w S A c t.kids := by
  obtain ⟨k, n, ks⟩ := t
  obtain ⟨A, c, e, h1, h2, h3, h4, h5⟩ := Ty.R_mk.1 h
  refine ⟨A, c, e, h1, h2, h3, h4, fun i x hx => ?_⟩
  have := Ty.Rs_iff.1 h5 i x hx
  rw [Nat.zero_add] at this; exact this
theorem ty_mk {w : World} {S : Nat → Prop} {A : Option Addr} {c : Nat} {t : Ty} (h1 : I64 t.kind) (h2 : I64 t.num) (h : Sl rTy w S A c t.kids) : rTy.R w S [.int .i64 t.kind, .int .i64 t.num, .slice A t.kids.length c] t := by
  obtain ⟨k, n, ks⟩ := t
  refine Ty.R_mk.2 ⟨A, c, rfl, h1, h2, h.le, h.max, Ty.Rs_iff.2 fun i x hx => ?_⟩
  have := h.2.2 i x hx
  rw [Nat.zero_add]; exact this

theorem avs_ty : AvsG rTy id Ty.cs (fun _ => True) := avs_rec Ty.size (fun N ih w S cs t hr => by
  obtain ⟨hr, hN⟩ := hr
  obtain ⟨A, c, rfl, _, _, hs⟩ := ty_open hr
  refine ⟨trivial, ?_⟩
  have hN : t.size ≤ N + 1 := hN
  rw [Ty.size_eq] at hN
  have h1 := (sl_rpd ih (Nat.zero_lt_succ _) (hs.sub fun x hx => by have := Ty.sizes_mem hx; show x.size ≤ N; omega)).2
  rw [List.map_id] at h1
  show RpsD w S (Ty.cs t) _
  rw [Ty.cs_eq]
  exact (RpsD.one (.p (.int .i64 t.kind) rfl)).append ((RpsD.one (.p (.int .i64 t.num) rfl)).append (.one h1))) Ty.size_pos
theorem ty_bulks : ∀ ks : List Ty, (ks.map Ty.size).sum = Ty.sizes ks
  | [] => rfl
  | t :: r => by rw [List.map_cons, List.sum_cons, ty_bulks r, Ty.sizes]
set_option maxRecDepth 100000 in
theorem opens_ty : Opens Try.prog 24 rTy := opens_rec Try.underlying24 fun N ih =>
  OpensN.map (ρ := rPair rInt (rPair rInt (rList rTy))) (N := N + 1) (by
    refine OpensN.less (N := N + 1 + 1) (opensN_struct (l := [_, _, _]) Try.underlying24 rfl (opensN_more rfl rfl ((opens_int Try.underlying3).n _) (opensN_more rfl rfl ((opens_int Try.underlying3).n _) (opensN_last rfl rfl (opensN_slice Try.underlying22 rfl (by decide) ih))))) (by omega))
    (fun y => ⟨y.1, y.2.1, y.2.2⟩) (fun w S cs y hr => by
      obtain ⟨c1, c2, rfl, ⟨rfl, i1⟩, c3, c4, rfl, ⟨rfl, i2⟩, A, c, rfl, hs⟩ := hr
      exact ty_mk (t := ⟨y.1, y.2.1, y.2.2⟩) i1 i2 hs)
    (fun y => by
      show Ty.size ⟨y.1, y.2.1, y.2.2⟩ ≤ 1 + (1 + ((y.2.2.map Ty.size).sum + 1))
      rw [Ty.size_mk, ty_bulks]; omega)
set_option maxRecDepth 100000 in
theorem opens_parts : Opens Try.prog 22 (rList rTy) := opens_slice Try.underlying22 rfl (by decide) opens_ty
mutual
def Pf.R (w : World) (S : Nat → Prop) : List Value → Pf → Prop
  | cs, ⟨st, l, g, at_, n, ks⟩ => ∃ Al cl u A c, cs = [.int .i64 st, .slice Al l.length cl] ++ u ++ [.int .i64 at_, .int .i64 n, .slice A ks.length c] ∧ I64 st ∧ Sl rTy w S Al cl l ∧ rTy.R w S u g ∧ I64 at_ ∧ I64 n ∧ ks.length ≤ c ∧ c ≤ maxLen ∧ Pf.Rs w S A 0 ks
def Pf.Rs (w : World) (S : Nat → Prop) (A : Option Addr) : Nat → List Pf → Prop
  | _, [] => True
  | i, t :: r => (∃ ad u, A = some ad ∧ S ad.block ∧ Pf.R w S u t ∧ ∀ j z, u[j]? = some z → w.cell? (ad.add (i * 8 + j)) = some z) ∧ Pf.Rs w S A (i + 1) r
end
theorem Pf.Rs_iff {w : World} {S : Nat → Prop} {A : Option Addr} : ∀ {ks : List Pf} {i : Nat}, Pf.Rs w S A i ks ↔ ∀ j t, ks[j]? = some t → ∃ ad u, A = some ad ∧ S ad.block ∧ Pf.R w S u t ∧ ∀ m z, u[m]? = some z → w.cell? (ad.add ((i + j) * 8 + m)) = some z
  | [], i => by rw [Pf.Rs]; simp
  | t :: r, i => by
    rw [Pf.Rs, Pf.Rs_iff (ks := r) (i := i + 1)]
    constructor
    · rintro ⟨h1, h2⟩ j x hx
      match j with
      | 0 => simp at hx; subst hx; exact h1
      | j + 1 =>
        obtain ⟨ad, u, e, hs, hr, hc⟩ := h2 j x (by simpa using hx)
        exact ⟨ad, u, e, hs, hr, by rw [show i + (j + 1) = i + 1 + j from by omega]; exact hc⟩
    · intro h
      refine ⟨h 0 t rfl, fun j x hx => ?_⟩
      obtain ⟨ad, u, e, hs, hr, hc⟩ := h (j + 1) x (by simpa using hx)
      exact ⟨ad, u, e, hs, hr, by rw [show i + 1 + j = i + (j + 1) from by omega]; exact hc⟩
theorem Pf.R_mk {w : World} {S : Nat → Prop} {cs : List Value} {st at_ n : Int} {l : List Ty} {g : Ty} {ks : List Pf} : Pf.R w S cs ⟨st, l, g, at_, n, ks⟩ ↔ ∃ Al cl u A c, cs = [.int .i64 st, .slice Al l.length cl] ++ u ++ [.int .i64 at_, .int .i64 n, .slice A ks.length c] ∧ I64 st ∧ Sl rTy w S Al cl l ∧ rTy.R w S u g ∧ I64 at_ ∧ I64 n ∧ ks.length ≤ c ∧ c ≤ maxLen ∧ Pf.Rs w S A 0 ks := by rw [Pf.R]
theorem Pf.R_keep {w w' : World} {S S' : Nat → Prop} (hk : ∀ p : Addr, S p.block → w'.cell? p = w.cell? p) (hm : ∀ b, S b → S' b) : ∀ (N : Nat) {cs : List Value} {t : Pf}, t.size ≤ N → Pf.R w S cs t → Pf.R w' S' cs t
  | 0, cs, t, hN, h => by have := t.size_pos; omega
  | N + 1, cs, ⟨st, l, g, at_, n, ks⟩, hN, h => by
    rw [Pf.size] at hN
    obtain ⟨Al, cl, u, A, c, e, h1, hl, hu, h2, h2', h3, h4, h5⟩ := Pf.R_mk.1 h
    refine Pf.R_mk.2 ⟨Al, cl, u, A, c, e, h1, (hl.keep hk).more hm, rTy.more (rTy.keep hu hk) hm, h2, h2', h3, h4, Pf.Rs_iff.2 fun j t ht => ?_⟩
    obtain ⟨ad, u, ea, hs, hr, hc⟩ := Pf.Rs_iff.1 h5 j t ht
    have := Pf.sizes_mem (List.mem_of_getElem? ht)
    exact ⟨ad, u, ea, hm _ hs, Pf.R_keep hk hm N (by omega) hr, fun m z hz => (hk _ (by rw [block_of_add]; exact hs)).trans (hc m z hz)⟩
mutual
def Pf.bulk : Pf → Nat
  | ⟨_, l, g, _, _, ks⟩ => 1 + Ty.sizes l + Ty.size g + Pf.bulks ks
def Pf.bulks : List Pf → Nat
  | [] => 0
  | t :: r => Pf.bulk t + Pf.bulks r
end
end Go.Proofs.Ytpmnlikgldacaaa

/- The walks of the statements about proofs, from nothing held. -/
namespace Go.Proofs.Ytpmnlikgldacaaa
open Go.RowKit Go.Maps
theorem law_pf {f : FuncId} {ps : List AV} (h : PF Try.prog f ps (bv true)) : Tri Try.prog f ps ⟨0, []⟩ (fun v _ => v = .p (.bool true)) := (h ⟨0, []⟩).mono fun _v _H' h => h.2
end Go.Proofs.Ytpmnlikgldacaaa

/- What is wrong with words. -/
namespace Go.Proofs.Ytpmnlikgldacaaa
open Go.RowKit Go.Maps
/-- words as they lie -/
def wE (ws : List (List Ty)) : List (List AV) := ws.map fun l => [tE l]
@[simp] theorem wE_len (ws : List (List Ty)) : (wE ws).length = ws.length := by simp [wE]
theorem wE_get {ws : List (List Ty)} {i : Nat} {x : List Ty} (h : ws[i]? = some x) : (wE ws)[i]? = some [tE x] := by simp [wE, h]
def okW (ws : List (List Ty)) : Bool := ws.all fun l => decide (0 < l.length) && decide (l.length ≤ 3)
def askA (m : List Ty) : Int := if chkL m ≠ 0 then chkL m else if 10 < Ty.sls m then 2 else 0
def asksW (ws : List (List Ty)) (g : Ty) : Int := if ws.length = 0 ∨ 6 < ws.length then 7 else if okW ws = false then 7 else askA (ws.flatten ++ [g])
theorem allW_at {ws : List (List Ty)} {i : Nat} {x : List Ty} (h : ws[i]? = some x) : okW (ws.drop i) = ((decide (0 < x.length) && decide (x.length ≤ 3)) && okW (ws.drop (i + 1))) := by
  obtain ⟨h1, h2⟩ := List.getElem?_eq_some_iff.1 h
  unfold okW
  rw [List.drop_eq_getElem_cons h1, List.all_cons, h2]
set_option maxHeartbeats 2000000 in
theorem c_RAsksWords (ws : List (List Ty)) (g : Ty) : PF Try.prog 16 [.dsl 1 (wE ws), g.av] (iv (asksW ws g)) := fun H => tri_wf fun hw => tri_wordhoardref_AsksWords (by
  have hml : maxLen = 9223372036854775807 := by decide
  unfold S_wordhoardref_AsksWords
  by_cases h1 : ws.length = 0
  · have hv : asksW ws g = 7 := by unfold asksW; rw [if_pos (.inl h1)]
    simp (disch := first | omega | simp) [iv, Ty.av, h1]
    exact rt_one hw (by repeat (first | with_reducible assumption | with_reducible exact AH.le.refl _ | with_reducible apply AH.le.up | (with_reducible refine AH.le.put hw ?_ ?_; · first | omega | (simp only [up_nx, put_nx, kill_nx]; done) | (simp only [up_nx, put_nx, kill_nx]; omega)) | (with_reducible refine AH.le.kill hw ?_ ?_; · first | omega | (simp only [up_nx, put_nx, kill_nx]; done) | (simp only [up_nx, put_nx, kill_nx]; omega)))) (by repeat (first | exact Cl.p _ | exact Cl.dsl _ _ | exact Cl.any | refine Cl.tup ?_ | refine Cl.agg ?_ | exact Clo.nil | refine Clo.cons ?_ ?_)) ⟨rfl, by rw [hv]⟩
  have h6 : ¬ ws = [] := fun e => h1 (by rw [e]; rfl)
  by_cases h2 : 6 < ws.length
  · have hv : asksW ws g = 7 := by unfold asksW; rw [if_pos (.inr h2)]
    have h3 : ¬ (ws.length : Int) = 0 := by omega
    have h4 : (6 : Int) < ws.length := by omega
    simp (disch := first | omega | simp) [iv, Ty.av, h4, h6]
    exact rt_one hw (by repeat (first | with_reducible assumption | with_reducible exact AH.le.refl _ | with_reducible apply AH.le.up | (with_reducible refine AH.le.put hw ?_ ?_; · first | omega | (simp only [up_nx, put_nx, kill_nx]; done) | (simp only [up_nx, put_nx, kill_nx]; omega)) | (with_reducible refine AH.le.kill hw ?_ ?_; · first | omega | (simp only [up_nx, put_nx, kill_nx]; done) | (simp only [up_nx, put_nx, kill_nx]; omega)))) (by repeat (first | exact Cl.p _ | exact Cl.dsl _ _ | exact Cl.any | refine Cl.tup ?_ | refine Cl.agg ?_ | exact Clo.nil | refine Clo.cons ?_ ?_)) ⟨rfl, by rw [hv]⟩
  have h3 : ¬ (ws.length : Int) = 0 := by omega
  have h4 : ¬ (6 : Int) < ws.length := by omega
  simp (disch := first | omega | simp) [iv, Ty.av, h4, h6]
  generalize hMe : AH.put _ _ _ = M
  have hMl : H.le M := by rw [← hMe]; exact (by repeat (first | with_reducible assumption | with_reducible exact AH.le.refl _ | with_reducible apply AH.le.up | (with_reducible refine AH.le.put hw ?_ ?_; · first | omega | (simp only [up_nx, put_nx, kill_nx]; done) | (simp only [up_nx, put_nx, kill_nx]; omega)) | (with_reducible refine AH.le.kill hw ?_ ?_; · first | omega | (simp only [up_nx, put_nx, kill_nx]; done) | (simp only [up_nx, put_nx, kill_nx]; omega))))
  have hMn : M.nx = H.nx + 2 := by rw [← hMe]; rfl
  have hMg : M.get H.nx = some (.box 24 g.cs) := by rw [← hMe, put_get]
  clear hMe
  have hv : asksW ws g = if okW ws = false then 7 else askA (ws.flatten ++ [g]) := by unfold asksW; rw [if_neg (by omega)]
  refine loop_wf (fun x : AV × Nat => [x.1, iv (x.2 : Int)]) (fun x H' => H.le H' ∧ M.nx ≤ H'.nx ∧ H'.get H.nx = some (.box 24 g.cs) ∧ x.2 ≤ ws.length ∧ okW ws = okW (ws.drop x.2) ∧ Grows 24 3 H H' x.1 ((ws.take x.2).flatten.map Ty.cs) ∧ (ws.take x.2).flatten.length ≤ 3 * x.2) (fun x => ws.length - x.2) (.p (.slice none 0 0), 0) (.refl (Nat.le_refl _)) ⟨hMl, Nat.le_refl _, hMg, Nat.zero_le _, by rw [List.drop_zero], .nil _ _ _ _, by simp⟩ ?_
  rintro ⟨v, i⟩ H1 hn1 hw1 ⟨hle, hnx, hg1, hi, hok, hgr, hln⟩ k hk
  dsimp only at hi hok hgr hln hk ⊢
  unfold S_wordhoardref_AsksWords_L2
  by_cases hil : i < ws.length
  · obtain ⟨x, hx⟩ : ∃ x, ws[i]? = some x := ⟨_, List.getElem?_eq_getElem hil⟩
    have hxe := wE_get hx
    have hiv := ivn (i := i) (by omega)
    rw [allW_at hx] at hok
    have hil' : (i : Int) < (ws.length : Int) := by omega
    unfold tE at hxe
    have hbad : (decide (0 < x.length) && decide (x.length ≤ 3)) = false → asksW ws g = 7 := fun h => by rw [hv, if_pos (by rw [hok, h]; rfl)]
    by_cases q1 : x.length = 0
    · simp (disch := first | omega | simp) [iv, hil', hxe, q1]
      exact rt_one hw hle (by repeat (first | exact Cl.p _ | exact Cl.dsl _ _ | exact Cl.any | refine Cl.tup ?_ | refine Cl.agg ?_ | exact Clo.nil | refine Clo.cons ?_ ?_)) ⟨rfl, by rw [hbad (by simp [q1])]⟩
    have q1' : ¬ (x.length : Int) = 0 := by omega
    have q3 : ¬ x = [] := fun e => q1 (by rw [e]; rfl)
    by_cases q2 : 3 < x.length
    · have q2' : (3 : Int) < x.length := by omega
      simp (disch := first | omega | simp) [iv, hil', hxe, q2', q3]
      exact rt_one hw hle (by repeat (first | exact Cl.p _ | exact Cl.dsl _ _ | exact Cl.any | refine Cl.tup ?_ | refine Cl.agg ?_ | exact Clo.nil | refine Clo.cons ?_ ?_)) ⟨rfl, by rw [hbad (by simp; omega)]⟩
    have q2' : ¬ (3 : Int) < x.length := by omega
    simp (disch := first | omega | simp) [iv, hil', hxe, q2', q3]
    have hxf : (ws.take (i + 1)).flatten = (ws.take i).flatten ++ x := by rw [List.take_add_one, hx, Option.toList_some, List.flatten_append]; simp
    refine Grows.app (t := 24) hw (hgr.same (by first | omega | (simp only [up_nx]; done) | (simp only [up_nx]; omega)) fun j hj _ => rfl) (AH.le.up hle) (by omega) (by first | omega | (simp only [up_nx]; done) | (simp only [up_nx]; omega)) (ys := x.map Ty.cs) ?_ (dt_ty x) ?_ ?_ fun v' H2 g2 l2 n2 k2 hfr => ?_
    · rfl
    · simp only [List.length_map]; omega
    · simp only [List.length_map]; omega
    obtain ⟨n', hn'⟩ := hfr
    have hgx : H2.get H.nx = some (.box 24 g.cs) := by
      rw [k2 H.nx (by omega) (hgr.not (j := H.nx) (fun xs h => by rw [hg1] at h; cases h)), up_get]; exact hg1
    simp (disch := first | omega | simp) [hiv]
    refine hk (v', i + 1) _ _ _ (.refl (by rw [n2]; simp only [up_nx]; omega)) ⟨l2, by rw [n2]; simp only [up_nx]; omega, hgx, hil, ?_, ?_, ?_⟩ (by dsimp only; omega)
    · rw [hok]
      have : (decide (0 < x.length) && decide (x.length ≤ 3)) = true := by simp; omega
      rw [this, Bool.true_and]
    · dsimp only; rw [hxf, List.map_append]; exact g2
    · dsimp only; rw [hxf, List.length_append]; omega
  · have hil' : ¬ (i : Int) < (ws.length : Int) := by omega
    rw [List.take_of_length_le (by omega)] at hgr hln
    have hokt : okW ws = true := by rw [hok, List.drop_eq_nil_iff.2 (by omega)]; rfl
    rw [hokt, if_neg (by decide)] at hv
    simp (disch := first | omega | simp) [iv, hil', hg1, Ty.cs_len, Ty.cs_take]
    generalize hNe : AH.put _ _ _ = N
    have hNn : N.nx = H1.nx + 5 := by rw [← hNe]; rfl
    have hNk : ∀ j, j < H1.nx → N.get j = H1.get j := fun j hj => by rw [← hNe, AH.get_put_ne (by omega), up_get]
    have hNx : N.get (H1.nx + 2) = some (.row 24 3 [g.cs]) := by rw [← hNe, put_get]
    have hNl : H.le N := fun j o ho => by rw [hNk j (by have := (hw _ _ ho).1; omega)]; exact hle _ _ ho
    clear hNe
    refine Grows.app (t := 24) hw (hgr.same (by omega) fun j hj _ => hNk j hj) hNl (by omega) (by omega) (ys := [g.cs]) (by rw [elF_osl, hNx]; rfl) (dt_ty [g]) ?_ ?_ fun v' H2 g2 l2 n2 k2 hfr => ?_
    · simp only [List.length_map, List.length_singleton]; omega
    · simp only [List.length_map, List.length_singleton]; omega
    have hes : ws.flatten.map Ty.cs ++ [g.cs] = (ws.flatten ++ [g]).map Ty.cs := by simp
    rw [hes] at g2
    have hml2 : (ws.flatten ++ [g]).length ≤ 3 * ws.length + 1 := by rw [List.length_append]; simp only [List.length_singleton]; omega
    have hm0 : 0 < (ws.flatten ++ [g]).length := by simp
    generalize ws.flatten ++ [g] = m at *
    obtain ⟨r, xs, rfl, hr, hrow, hxs⟩ := g2.at_ (by rw [List.length_map]; exact hm0)
    rw [List.length_map] at hxs
    simp only [List.length_map]
    refine loop_st (fun i : Nat => [iv i]) (fun i H' => i ≤ m.length ∧ H2 = H' ∧ chkL m = chkL (m.drop i)) (fun i => m.length - i) 0 (.refl (by omega)) ⟨Nat.zero_le _, rfl, by rw [List.drop_zero]⟩ ?_
    rintro i _ _ ⟨hi2, rfl, hc⟩ k3 hk3
    unfold S_wordhoardref_AsksWords_L1
    by_cases hil2 : i < m.length
    · obtain ⟨x, hx⟩ : ∃ x, m[i]? = some x := ⟨_, List.getElem?_eq_getElem hil2⟩
      have hiv := ivn (i := i) (by omega)
      have hxi : xs[i]? = some x.cs := by rw [hxs i hil2, List.getElem?_map, hx]; rfl
      have hil3 : (i : Int) < (m.length : Int) := by omega
      rw [chkL_at hx] at hc
      simp (disch := first | omega | simp) [iv, hil3, hrow, hxi, Ty.cs_len, Ty.cs_take]
      refine ca_pure (by kernel_rfl) (c_RCheckPart x _) ?_
      by_cases hx0 : x.check = 0
      · rw [if_pos hx0] at hc
        simp (disch := first | omega | simp) [iv, hx0, hiv]
        exact hk3 (i + 1) _ _ _ (.refl (Nat.le_refl _)) ⟨hil2, rfl, hc⟩ (by omega)
      · rw [if_neg hx0] at hc
        simp (disch := first | omega | simp) [iv, hx0]
        exact rt_one hw l2 (by repeat (first | exact Cl.p _ | exact Cl.dsl _ _ | exact Cl.any | refine Cl.tup ?_ | refine Cl.agg ?_ | exact Clo.nil | refine Clo.cons ?_ ?_)) ⟨rfl, by rw [hv]; unfold askA; rw [hc, if_pos hx0]⟩
    · have hcz : chkL m = 0 := by rw [hc, List.drop_eq_nil_iff.2 (by omega), chkL]
      have hsz := (chkL_goods hcz).sizes
      have hil3 : ¬ (i : Int) < (m.length : Int) := by omega
      simp (disch := first | omega | simp) [iv, hil3]
      obtain ⟨H3, f1, f2, f3, _, f5⟩ := g2.fz (P := Try.prog) hw l2 (by omega)
      rw [List.length_map] at f5
      refine ca_of (Q := fun r H' => H' = H3 ∧ r = iv (Ty.sls m)) (by kernel_rfl) (Tri.st f1 (Tri.args (.cons f5 .nil) (c_RSlashes m (by omega) H3))) ?_
      rintro _ _ ⟨rfl, rfl⟩
      have hva : asksW ws g = if 10 < Ty.sls m then 2 else 0 := by rw [hv]; unfold askA; rw [if_neg (by simp [hcz])]
      by_cases hs : 10 < Ty.sls m
      · have hs' : (10 : Int) < (Ty.sls m : Int) := by omega
        simp (disch := first | omega | simp) [iv, hs']
        exact rt_one hw f2 (by repeat (first | exact Cl.p _ | exact Cl.dsl _ _ | exact Cl.any | refine Cl.tup ?_ | refine Cl.agg ?_ | exact Clo.nil | refine Clo.cons ?_ ?_)) ⟨rfl, by rw [hva, if_pos hs]⟩
      · have hs' : ¬ (10 : Int) < (Ty.sls m : Int) := by omega
        simp (disch := first | omega | simp) [iv, hs']
        exact rt_one hw f2 (by repeat (first | exact Cl.p _ | exact Cl.dsl _ _ | exact Cl.any | refine Cl.tup ?_ | refine Cl.agg ?_ | exact Clo.nil | refine Clo.cons ?_ ?_)) ⟨rfl, by rw [hva, if_neg hs]⟩)
end Go.Proofs.Ytpmnlikgldacaaa

/- Abstract walks of functions, written by a program (wip/aw/aw.py): each equation is checked by the kernel. -/
namespace Go.Proofs.Ytpmnlikgldacaaa
open Go.RowKit

/-! wordhoard/wordhoardref.Says -/
def ac_wordhoardref_SaysK : AC := (.seq (.reg 0) (.seq (.seq (.reg 1) (.cond (.tmp 13) (.seq (.seq (.reg 2) (.cond (.tmp 16) (.seq (.reg 3) .ret) .skip)) (.seq (.reg 4) .ret)) .skip)) (.seq (.seq (.reg 5) (.block 0 (.loop [7] [(6, 7), (8, 9), (18, 49)] (.seq (.seq (.reg 6) (.cond (.tmp 25) .skip (.exit 0))) (.seq (.block 1 (.seq (.fk 7 (.mark 13 (.mark 14 (.leaf [0, 1, 2, 3, 4, 5, 6, 7, 8, 9, 10, 11, 12, 13, 14, 15] #[0, 0, 0, 0, 0, 16, 56, 120, 0, 0, 512, 2040, 4092, 8188, 16383, 32767])))) (.seq (.reg 8) (.cond (.tmp 44) (.seq (.reg 9) .ret) .skip)))) (.reg 10)))))) (.seq (.reg 11) .ret))))
def S_wordhoardref_SaysK_L1 (a0 : AV) (a2 : AV) (Q : AV → AH → Prop) (H : AH) (v4 : AV) (vs : List AV) (k : List AV → AH → Prop) : AH → Prop :=
 Pu Try.prog .len [a2] fun v21 =>
 Pu Try.prog (.idx 1) [a0, v21] fun v22 =>
 RdS Try.prog (.ld 1 false) [v22] fun v23 =>
 Pu Try.prog .len [v23] fun v24 =>
 Pu Try.prog (.bin .lss 3) [(vs.getD 0 .any), v24] fun v25 =>
 CdA v25
 (
 Rg 16 fun b_17 =>
 VwD fun V =>
 Rd Try.prog V (.ld 3 true) [v4] fun v29 =>
 Pu Try.prog .len [a2] fun v33 =>
 Pu Try.prog (.idx 1) [a0, v33] fun v34 =>
 Rd Try.prog V (.ld 1 false) [v34] fun v35 =>
 Pu Try.prog (.bin .add 3) [(vs.getD 0 .any), (.p (.int .i64 1))] fun v38 =>
 Pu Try.prog (.slc 3 true true) [v35, (vs.getD 0 .any), v38] fun v39 =>
 Al (b_17 + 12) (.bs 22 1 2 [.p (.slice none 0 0)] [(0, 1), (1, 1)]) [a2, v39] fun v40 =>
 CaK Try.prog V (.fn (.func 36) [] []) [v40] fun v41 =>
 Ca Try.prog (.fn (.func 17) [] []) [a0, v29, v41] fun v42 =>
 Vw fun _ =>
 Pu Try.prog (.bin .neq 37) [v42, (.p (.slice none 0 0))] fun v44 =>
 CdA v44
 (
 Rg 5 fun b_30 =>
 Al (b_30 + 1) (.bs 3 1 1 [.p (.int .i64 0)] [(0, 1)]) [(vs.getD 0 .any)] fun v46 =>
 WrS Try.prog (b_30 + 3) (.app 3 1 8) [v46, v42] fun v48 =>
 Rt Try.prog H.nx v48 Q
 ) (
 Pu Try.prog (.bin .add 3) [(vs.getD 0 .any), (.p (.int .i64 1))] fun v27 =>
 k [v27]
 )
 ) (
 Rt Try.prog H.nx (.p (.slice none 0 0)) Q
 )
def S_wordhoardref_SaysK (a0 a1 a2 : AV) (Q : AV → AH → Prop) (H : AH) : Prop := (
 Rg 2 fun b =>
 Al (b + 0) (.bx 24) [a1] fun v4 =>
 Pu Try.prog .len [a2] fun v10 =>
 Pu Try.prog .len [a0] fun v12 =>
 Pu Try.prog (.bin .eql 3) [v10, v12] fun v13 =>
 CdA v13
 (
 RdS Try.prog (.ld 3 true) [v4] fun v15 =>
 Ca Try.prog (.fn (.func 12) [] []) [a2, v15] fun v16 =>
 CdA v16
 (
 Rg 2 fun b_8 =>
 Nd Try.prog (b_8 + 0) (.bs0 3) [] fun v17 =>
 Rt Try.prog H.nx v17 Q
 ) (
 Rt Try.prog H.nx (.p (.slice none 0 0)) Q
 )
 ) (
 LoopA Try.prog 1 (S_wordhoardref_SaysK_L1 a0 a2 Q H v4) [(.p (.int .i64 0))]
 )
 ) H
theorem eq_wordhoardref_SaysK (a0 a1 a2 : AV) (Q : AV → AH → Prop) (H : AH) : FnA Try.prog 49 (regsF Try.f17) ac_wordhoardref_SaysK [.tm 6] [a0, a1, a2] H Q = S_wordhoardref_SaysK a0 a1 a2 Q H := by kernel_rfl
theorem tri_wordhoardref_SaysK {a0 a1 a2 : AV} {H : AH} {Q : AV → AH → Prop} (h : S_wordhoardref_SaysK a0 a1 a2 Q H) : Tri Try.prog 17 [a0, a1, a2] H Q :=
  tri_of (Ms := [#[], #[], #[], #[], #[], #[], #[], #[0, 0, 0, 0, 0, 16, 56, 120, 0, 0, 512, 2040, 4092, 8188, 16383, 32767], #[], #[], #[], #[]]) mixed Try.func17 rfl (by kernel_rfl) (by kernel_rfl) rfl (of_decide_eq_true rfl : 3 ≤ 49) (by rw [eq_wordhoardref_SaysK a0 a1 a2 Q H]; exact h : FnA Try.prog 49 (regsF Try.f17) ac_wordhoardref_SaysK [.tm 6] [a0, a1, a2] H Q)
end Go.Proofs.Ytpmnlikgldacaaa

/- Which parts words must be: what is looked for; the document's way. -/
namespace Go.Proofs.Ytpmnlikgldacaaa
open Go.RowKit Go.Maps
def nI (l : List Int) : List (List AV) := l.map fun x => [iv x]
theorem dt_nI (l : List Int) : DtR (nI l) := fun e he a ha => by
  obtain ⟨x, _, rfl⟩ := List.mem_map.1 he
  rcases List.mem_singleton.1 ha with rfl
  exact Dt.p _
/-- the first that there is -/
def fstS (F : Nat → Option (List Int)) : Nat → Nat → Option (List Int)
  | 0, _ => none
  | c + 1, i => match F i with
    | some r => some r
    | none => fstS F c (i + 1)
def alt (ws : List (List Ty)) (left : List Ty) : List Ty := ws[left.length]?.getD []
/-- the first choice for the words that are left -/
noncomputable def sayP (ws : List (List Ty)) (g : Ty) : Nat → List Ty → Option (List Int)
  | 0, left => if dvB left g = true then some [] else none
  | n + 1, left => fstS (fun i => match (alt ws left)[i]? with
    | some p => (sayP ws g n (left ++ [p])).map fun r => (i : Int) :: r
    | none => none) (alt ws left).length 0
theorem sayP_len (ws : List (List Ty)) (g : Ty) : ∀ (n : Nat) (left : List Ty) (r : List Int), sayP ws g n left = some r → r.length = n
  | 0, left, r, h => by
    rw [sayP] at h
    split at h
    · injection h with h; subst h; rfl
    · cases h
  | n + 1, left, r, h => by
    rw [sayP] at h
    have key : ∀ (c i : Nat), fstS (fun i => match (alt ws left)[i]? with
        | some p => (sayP ws g n (left ++ [p])).map fun r => (i : Int) :: r
        | none => none) c i = some r → r.length = n + 1 := by
      intro c
      induction c with
      | zero => intro i h; cases h
      | succ c ih =>
        intro i h
        rw [fstS] at h
        split at h
        · rename_i r' hr
          injection h with h
          subst h
          split at hr
          · rename_i p hp
            cases hs : sayP ws g n (left ++ [p]) with
            | none => rw [hs] at hr; cases hr
            | some r2 =>
              rw [hs] at hr
              injection hr with hr
              subst hr
              rw [List.length_cons, sayP_len ws g n _ r2 hs]
          · cases hr
        · exact ih _ h
    exact key _ _ h
/-- a beginning of what is said -/
structure PreW (ws : List (List Ty)) (left : List Ty) : Prop where
  len : left.length ≤ ws.length
  sl : Ty.sls left ≤ Ty.sls (ws.take left.length).flatten
  good : Goods left
theorem sls_flat_le (ws : List (List Ty)) (k : Nat) : Ty.sls (ws.take k).flatten ≤ Ty.sls ws.flatten := by
  have h : ws.flatten = (ws.take k).flatten ++ (ws.drop k).flatten := by rw [← List.flatten_append, List.take_append_drop]
  rw [h, Ty.sls_app]; omega
theorem sls_mem {l : List Ty} {p : Ty} (h : p ∈ l) : p.sl ≤ Ty.sls l := by
  induction l with
  | nil => cases h
  | cons a l ih =>
    rw [Ty.sls_cons]
    rcases List.mem_cons.1 h with rfl | h
    · omega
    · have := ih h; omega
theorem PreW.nil (ws : List (List Ty)) : PreW ws [] := ⟨Nat.zero_le _, by rw [Ty.sls_nil]; omega, .nil⟩
theorem PreW.snoc {ws : List (List Ty)} {left : List Ty} (h : PreW ws left) {w : List Ty} (hw : ws[left.length]? = some w) {p : Ty} (hp : p ∈ w) (hg : ∀ l ∈ ws, Goods l) : PreW ws (left ++ [p]) := by
  have hlt := (List.getElem?_eq_some_iff.1 hw).1
  refine ⟨by rw [List.length_append]; exact hlt, ?_, h.good.app (.cons (hg w (List.mem_of_getElem? hw) p hp) .nil)⟩
  rw [List.length_append, List.length_singleton, List.take_add_one, hw, Option.toList_some, List.flatten_append, Ty.sls_app, Ty.sls_app, Ty.sls_cons, Ty.sls_nil]
  have h1 := h.sl
  have h2 := sls_mem hp
  have h3 : ([w] : List (List Ty)).flatten = w := by simp
  rw [h3]
  omega
/-- words that are right -/
structure OkW (ws : List (List Ty)) (g : Ty) : Prop where
  len : 1 ≤ ws.length ∧ ws.length ≤ 6
  each : ∀ l ∈ ws, 1 ≤ l.length ∧ l.length ≤ 3
  goods : ∀ l ∈ ws, Goods l
  good : Good g
  sl : Ty.sls ws.flatten + g.sl ≤ 10
theorem asksW_ok {ws : List (List Ty)} {g : Ty} (h : asksW ws g = 0) : OkW ws g := by
  unfold asksW at h
  by_cases h1 : ws.length = 0 ∨ 6 < ws.length
  · rw [if_pos h1] at h; exact absurd h (by decide)
  rw [if_neg h1] at h
  by_cases h2 : okW ws = false
  · rw [if_pos h2] at h; exact absurd h (by decide)
  rw [if_neg h2] at h
  unfold askA at h
  by_cases h3 : chkL (ws.flatten ++ [g]) ≠ 0
  · rw [if_pos h3] at h; exact absurd h h3
  rw [if_neg h3] at h
  have h3 := Classical.byContradiction fun e => h3 e
  by_cases h4 : 10 < Ty.sls (ws.flatten ++ [g])
  · rw [if_pos h4] at h; exact absurd h (by decide)
  have hgo := chkL_goods h3
  rw [Ty.sls_app, Ty.sls_cons, Ty.sls_nil] at h4
  refine ⟨by omega, fun l hl => ?_, fun l hl t ht => hgo.left t (List.mem_flatten.2 ⟨l, hl, ht⟩), hgo.right.head, by omega⟩
  have : okW ws = true := by cases hx : okW ws with
    | true => rfl
    | false => exact absurd hx h2
  unfold okW at this
  have := List.all_eq_true.1 this l hl
  simp only [Bool.and_eq_true, decide_eq_true_eq] at this
  omega
theorem two_parts_d {H : AH} {r : Nat} {a : List Ty} {y : Ty} (h : H.get r = some (.row 22 1 [[.dsl 3 (a.map Ty.cs)], [.dsl 3 [y.cs]]])) : PartsAt H (.osl r 1 0 2) [a, [y]] := by
  refine ⟨[.dsl 3 (a.map Ty.cs), .dsl 3 [y.cs]], by simp [h], rfl, fun i r hr => ?_⟩
  match i with
  | 0 => simp at hr; subst hr; exact ⟨_, rfl, by simp⟩
  | 1 => simp at hr; subst hr; exact ⟨_, rfl, by simp⟩
  | i + 2 => simp at hr
/-- how the answer lies -/
def SayQ (H : AH) (res : Option (List Int)) (v : AV) (H' : AH) : Prop := H.le H' ∧ H.nx ≤ H'.nx ∧ match res with
  | none => v = .p (.slice none 0 0)
  | some [] => ∃ q : Nat, v = .p (.slice (some ⟨q, 0, none⟩) 0 0)
  | some (x :: r) => Grows 3 1 H H' v (nI (x :: r))
theorem alt_at {ws : List (List Ty)} {left w : List Ty} (h : ws[left.length]? = some w) : alt ws left = w := by unfold alt; rw [h]; rfl
set_option maxHeartbeats 1000000 in
theorem c_RSays {ws : List (List Ty)} {g : Ty} (ok : OkW ws g) : ∀ (n : Nat) (left : List Ty) (H : AH), PreW ws left → left.length + n = ws.length → Tri Try.prog 17 [.dsl 1 (wE ws), g.av, tE left] H (SayQ H (sayP ws g n left))
  | n, left, H, hp, hn => tri_wf fun hw => tri_wordhoardref_SaysK (by
    have hml : maxLen = 9223372036854775807 := by decide
    obtain ⟨w1, w6⟩ := ok.len
    have hgav : g.av = .agg g.cs := rfl
    have hle10 := sls_flat_le ws left.length
    have hps := hp.sl
    have hos := ok.sl
    unfold S_wordhoardref_SaysK tE
    rw [hgav]
    simp (disch := first | omega | simp) [Ty.cs_len]
    generalize hMe : AH.put _ H.nx _ = M
    have hMl : H.le M := by rw [← hMe]; exact (by repeat (first | with_reducible assumption | with_reducible exact AH.le.refl _ | with_reducible apply AH.le.up | (with_reducible refine AH.le.put hw ?_ ?_; · first | omega | (simp only [up_nx, put_nx, kill_nx]; done) | (simp only [up_nx, put_nx, kill_nx]; omega)) | (with_reducible refine AH.le.kill hw ?_ ?_; · first | omega | (simp only [up_nx, put_nx, kill_nx]; done) | (simp only [up_nx, put_nx, kill_nx]; omega))))
    have hMn : M.nx = H.nx + 2 := by rw [← hMe]; rfl
    have hMg : M.get H.nx = some (.box 24 g.cs) := by rw [← hMe, put_get]
    have hMw : WF M := by
      rw [← hMe]
      refine (hw.up 2).box (by simp only [up_nx]; omega) ?_
      rw [Ty.cs_eq]
      exact (by repeat (first | exact Cl.p _ | exact Cl.dsl _ _ | exact Cl.any | refine Cl.tup ?_ | refine Cl.agg ?_ | exact Clo.nil | refine Clo.cons ?_ ?_))
    clear hMe
    cases n with
    | zero =>
      have hll : left.length = ws.length := by omega
      have hli : ((left.length : Nat) : Int) = ((ws.length : Nat) : Int) := by omega
      simp (disch := first | omega | simp) [hll, Ty.cs_take]
      refine ca_pure (by kernel_rfl) (c_RProves (l := left) (g := g) hp.good ok.good (by omega) _) ?_
      rw [sayP]
      cases hd : dvB left g with
      | true =>
        rw [if_pos rfl]
        simp (disch := first | omega | simp) [bv]
        refine nd_bs0 fun q => ?_
        refine rt_refl ⟨?_, (by first | omega | (simp only [up_nx, put_nx]; done) | (simp only [up_nx, put_nx]; omega)), q, rfl⟩ (by first | omega | (simp only [up_nx, put_nx]; done) | (simp only [up_nx, put_nx]; omega))
        exact (by repeat (first | with_reducible assumption | with_reducible exact AH.le.refl _ | with_reducible apply AH.le.up | (with_reducible refine AH.le.put hw ?_ ?_; · first | omega | (simp only [up_nx, put_nx, kill_nx]; done) | (simp only [up_nx, put_nx, kill_nx]; omega)) | (with_reducible refine AH.le.kill hw ?_ ?_; · first | omega | (simp only [up_nx, put_nx, kill_nx]; done) | (simp only [up_nx, put_nx, kill_nx]; omega))))
      | false =>
        rw [if_neg (by decide)]
        simp (disch := first | omega | simp) [bv]
        exact rt_refl ⟨hMl, by omega, rfl⟩ (by omega)
    | succ n =>
      have hlt : left.length < ws.length := by omega
      obtain ⟨w, hww⟩ : ∃ w, ws[left.length]? = some w := ⟨_, List.getElem?_eq_getElem hlt⟩
      have hwe := wE_get hww
      have hweg : ∀ h, (wE ws)[left.length]'h = [tE w] := fun h => (List.getElem?_eq_some_iff.1 hwe).2
      have hwm := List.mem_of_getElem? hww
      have hw3 := ok.each w hwm
      have hneq : ¬ ((left.length : Nat) : Int) = ((ws.length : Nat) : Int) := by omega
      simp (disch := first | omega | simp) [hneq]
      rw [sayP]
      generalize hF : (fun i : Nat => match (alt ws left)[i]? with
        | some p => (sayP ws g n (left ++ [p])).map fun r => (i : Int) :: r
        | none => none) = F
      rw [alt_at hww]
      have hFi : ∀ (i : Nat) (p : Ty), w[i]? = some p → F i = (sayP ws g n (left ++ [p])).map fun r => (i : Int) :: r := fun i p hpi => by
        rw [← hF]
        dsimp only
        rw [alt_at hww, hpi]
      clear hF
      refine loop_wf (fun i : Nat => [iv i]) (fun i H' => M.nx ≤ H'.nx ∧ i ≤ w.length ∧ H.le H' ∧ H'.get H.nx = some (.box 24 g.cs) ∧ fstS F (w.length - i) i = fstS F w.length 0) (fun i => w.length - i) 0 (.refl (Nat.le_refl _)) ⟨Nat.le_refl _, Nat.zero_le _, hMl, hMg, rfl⟩ ?_
      rintro i H2 hn2 hw2 ⟨hnx, hi, hle, hg2, hfs⟩ kk hkk
      unfold S_wordhoardref_SaysK_L1
      by_cases hil : i < w.length
      · obtain ⟨p, hpi⟩ : ∃ p, w[i]? = some p := ⟨_, List.getElem?_eq_getElem hil⟩
        have hpm := List.mem_of_getElem? hpi
        have hiv := ivn (i := i) (by omega)
        have hpre := hp.snoc hww hpm ok.goods
        have hslc : ((w.map Ty.cs).drop i).take 1 = [p.cs] := by
          rw [List.drop_eq_getElem_cons (by rw [List.length_map]; exact hil)]
          simp [(List.getElem?_eq_some_iff.1 hpi).2]
        rw [show w.length - i = (w.length - (i + 1)) + 1 by omega, fstS] at hfs
        have hslm : ((i + 1 : Nat) : Int) ≤ (w.length : Int) := by omega
        have hi1 : (i : Int) ≤ ((i + 1 : Nat) : Int) := by omega
        have hlw : left.length < (wE ws).length := by rw [wE_len]; exact hlt
        unfold tE at hwe hweg
        simp (disch := first | omega | simp) [iv, hweg, hlt, hil]
        refine ⟨[], ?_⟩
        simp (disch := first | omega | simp) [hg2, Ty.cs_len, Ty.cs_take, hweg, hlt, hiv, hslc]
        refine ⟨by omega, by omega, ?_⟩
        generalize hN : AH.put _ _ _ = N
        have hNV : (H2.up 16).le N := by rw [← hN]; exact put_leV (AH.le.refl _) (wf_none hw2 (by omega))
        have hNl : H2.le N := by have hw := hw2; rw [← hN]; exact (by repeat (first | with_reducible assumption | with_reducible exact AH.le.refl _ | with_reducible apply AH.le.up | (with_reducible refine AH.le.put hw ?_ ?_; · first | omega | (simp only [up_nx, put_nx, kill_nx]; done) | (simp only [up_nx, put_nx, kill_nx]; omega)) | (with_reducible refine AH.le.kill hw ?_ ?_; · first | omega | (simp only [up_nx, put_nx, kill_nx]; done) | (simp only [up_nx, put_nx, kill_nx]; omega))))
        have hNn : N.nx = H2.nx + 16 := by rw [← hN]; rfl
        have hNr : N.get (H2.nx + 12) = some (.row 22 1 [[.dsl 3 (left.map Ty.cs)], [.dsl 3 [p.cs]]]) := by rw [← hN, put_get]
        clear hN
        have hpa : PartsAt N (.osl (H2.nx + 12) 1 0 2) [left, [p]] := two_parts_d hNr
        have hfl : [left, [p]].flatten = left ++ [p] := by simp
        refine cak_of (by kernel_rfl) (c_join [left, [p]] hpa (by rw [hfl, List.length_append, List.length_singleton]; omega) (by simp)) ?_
        rintro v H3 - ⟨rfl, rfl⟩
        refine ⟨hNV, ?_⟩
        rw [hfl]
        have hlen2 : (left ++ [p]).length + n = ws.length := by rw [List.length_append, List.length_singleton]; omega
        refine ca_wf (by kernel_rfl) (c_RSays ok n (left ++ [p]) _ hpre hlen2) fun v H4 hw4 hq => ?_
        obtain ⟨hl4, hn4, hm⟩ := hq
        have hFe := hFi i p hpi
        cases hs : sayP ws g n (left ++ [p]) with
        | none =>
          rw [hs] at hm hFe
          have hm : v = .p (.slice none 0 0) := hm
          subst hm
          simp (disch := first | omega | simp) [hiv]
          rw [hFe] at hfs
          exact hkk (i + 1) _ _ _ (.refl (by omega)) ⟨by omega, by omega, hle.trans (hNl.trans hl4), hl4 _ _ (hNl _ _ hg2), hfs⟩ (by omega)
        | some r =>
          rw [hs] at hm hFe
          rw [hFe] at hfs
          rw [← hfs]
          cases r with
          | nil =>
            obtain ⟨q, rfl⟩ := hm
            simp (disch := first | omega | simp)
            refine ⟨by omega, ?_⟩
            generalize hK : AH.put _ (H4.nx + 3) _ = K
            have hKl : H4.le K := by have hw := hw4; rw [← hK]; exact (by repeat (first | with_reducible assumption | with_reducible exact AH.le.refl _ | with_reducible apply AH.le.up | (with_reducible refine AH.le.put hw ?_ ?_; · first | omega | (simp only [up_nx, put_nx, kill_nx]; done) | (simp only [up_nx, put_nx, kill_nx]; omega)) | (with_reducible refine AH.le.kill hw ?_ ?_; · first | omega | (simp only [up_nx, put_nx, kill_nx]; done) | (simp only [up_nx, put_nx, kill_nx]; omega))))
            have hKn : K.nx = H4.nx + 5 := by rw [← hK]; rfl
            have hKg : K.get (H4.nx + 3) = some (.row 3 1 (nI [(i : Int)])) := by rw [← hK, put_get]; rfl
            exact rt_refl ⟨hle.trans (hNl.trans (hl4.trans hKl)), by omega, .row (by omega) (by omega) hKg (dt_nI _) rfl⟩ (by omega)
          | cons x r =>
            have hlr := sayP_len ws g n _ _ hs
            rw [List.length_cons] at hlr
            have hm : Grows 3 1 _ H4 v (nI (x :: r)) := hm
            have hnl : (nI (x :: r)).length = r.length + 1 := by unfold nI; rw [List.length_map, List.length_cons]
            obtain ⟨q, xs, hsh, _⟩ := hm.at_ (by omega)
            have hne : ∀ (k : AV → AH → Prop) (H' : AH), Pu Try.prog (.bin .neq 37) [v, .p (.slice none 0 0)] k H' = k (bv true) H' := fun k H' => by rw [hsh]; simp [bv, hnl]
            have hEl : elF ((H4.up 5).put (H4.nx + 1) (.row 3 1 [[AV.p (Value.int IntKind.i64 ↑i)]])) 1 v = some (nI (x :: r)) := by
              have hw := hw4
              exact elF_le hm.el (by repeat (first | with_reducible assumption | with_reducible exact AH.le.refl _ | with_reducible apply AH.le.up | (with_reducible refine AH.le.put hw ?_ ?_; · first | omega | (simp only [up_nx, put_nx, kill_nx]; done) | (simp only [up_nx, put_nx, kill_nx]; omega)) | (with_reducible refine AH.le.kill hw ?_ ?_; · first | omega | (simp only [up_nx, put_nx, kill_nx]; done) | (simp only [up_nx, put_nx, kill_nx]; omega))))
            simp (disch := first | omega | simp) [hne, bv, hEl, hnl]
            refine ⟨by omega, by omega, ?_⟩
            generalize hK : AH.put _ (H4.nx + 3) _ = K
            have hKl : H4.le K := by have hw := hw4; rw [← hK]; exact (by repeat (first | with_reducible assumption | with_reducible exact AH.le.refl _ | with_reducible apply AH.le.up | (with_reducible refine AH.le.put hw ?_ ?_; · first | omega | (simp only [up_nx, put_nx, kill_nx]; done) | (simp only [up_nx, put_nx, kill_nx]; omega)) | (with_reducible refine AH.le.kill hw ?_ ?_; · first | omega | (simp only [up_nx, put_nx, kill_nx]; done) | (simp only [up_nx, put_nx, kill_nx]; omega))))
            have hKn : K.nx = H4.nx + 5 := by rw [← hK]; rfl
            have hKg : K.get (H4.nx + 3) = some (.row 3 1 (nI ((i : Int) :: x :: r))) := by rw [← hK, put_get]; rfl
            refine rt_refl ⟨hle.trans (hNl.trans (hl4.trans hKl)), by omega, .row (by omega) (by omega) hKg (dt_nI _) ?_⟩ (by omega)
            unfold nI
            rw [List.length_map, List.length_cons, List.length_cons]
            omega
      · have hie : w.length - i = 0 := by omega
        rw [hie, fstS] at hfs
        have hlw : left.length < (wE ws).length := by rw [wE_len]; exact hlt
        unfold tE at hwe hweg
        simp (disch := first | omega | simp) [iv, hweg, hlt, hil]
        rw [← hfs]
        exact rt_refl ⟨hle, by omega, rfl⟩ (by omega))
end Go.Proofs.Ytpmnlikgldacaaa

/- Abstract walks of functions, written by a program (wip/aw/aw.py): each equation is checked by the kernel. -/
namespace Go.Proofs.Ytpmnlikgldacaaa
open Go.RowKit

/-! slices.Clone[[]int,int] -/
def ac_slices_CloneK : AC := (.seq (.reg 0) (.seq (.seq (.reg 1) (.cond (.tmp 4) (.seq (.reg 2) .ret) .skip)) (.seq (.reg 3) .ret)))
def S_slices_CloneK (a0 : AV) (Q : AV → AH → Prop) (H : AH) : Prop := (
 Pu Try.prog (.bin .eql 37) [a0, (.p (.slice none 0 0))] fun v4 =>
 CdA v4
 (
 Rt Try.prog H.nx (.p (.slice none 0 0)) Q
 ) (
 Rg 4 fun b =>
 Nd Try.prog (b + 0) (.bs0 3) [] fun v5 =>
 WrS Try.prog (b + 2) (.app 3 1 8) [v5, a0] fun v7 =>
 Rt Try.prog H.nx v7 Q
 )
 ) H
theorem eq_slices_CloneK (a0 : AV) (Q : AV → AH → Prop) (H : AH) : FnA Try.prog 8 (regsF Try.f48) ac_slices_CloneK [.tm 2] [a0] H Q = S_slices_CloneK a0 Q H := by kernel_rfl
theorem tri_slices_CloneK {a0 : AV} {H : AH} {Q : AV → AH → Prop} (h : S_slices_CloneK a0 Q H) : Tri Try.prog 48 [a0] H Q :=
  tri_of (Ms := [#[], #[], #[], #[]]) mixed Try.func48 rfl (by kernel_rfl) (by kernel_rfl) rfl (of_decide_eq_true rfl : 1 ≤ 8) (by rw [eq_slices_CloneK a0 Q H]; exact h : FnA Try.prog 8 (regsF Try.f48) ac_slices_CloneK [.tm 2] [a0] H Q)
end Go.Proofs.Ytpmnlikgldacaaa

/- Which parts words must be: the program's look for them. -/
namespace Go.Proofs.Ytpmnlikgldacaaa
open Go.RowKit Go.Maps
def iL (l : List Int) : AV := .dsl 1 (nI l)
theorem iL_cl (l : List Int) (B : Nat) : Cl B (iL l) := Cl.dsl _ _
theorem nI_len (l : List Int) : ∀ e ∈ nI l, e.length = 1 := fun e he => by obtain ⟨t, _, rfl⟩ := List.mem_map.1 he; rfl
theorem cs_len3 (l : List Ty) : ∀ e ∈ l.map Ty.cs, e.length = 3 := fun e he => by obtain ⟨t, _, rfl⟩ := List.mem_map.1 he; exact t.cs_len
theorem c_CloneI {H : AH} (l : List Int) (hb : l.length * 8 ≤ 140737488355328) : Tri Try.prog 48 [iL l] H (fun v H' => Grows 3 1 H H' v (nI l) ∧ H.le H' ∧ H.nx ≤ H'.nx) := tri_wf fun hw => by
  have hml : maxLen = 9223372036854775807 := by decide
  have hu : ∃ e, Try.prog.underlying 37 = some (.slice e) := ⟨3, by kernel_rfl⟩
  cases l with
  | nil =>
    refine tri_empty 0 1 rfl fun A c hc => tri_slices_CloneK ?_
    unfold S_slices_CloneK
    cases A with
    | none =>
      simp
      exact rt_refl ⟨.nil _ _ _ _, .refl _, Nat.le_refl _⟩ (Nat.le_refl _)
    | some b =>
      simp
      refine nd_bs0 fun q => ?_
      simp
      exact rt_refl ⟨.row (by first | omega | (simp only [up_nx, put_nx, kill_nx]; done) | (simp only [up_nx, put_nx, kill_nx]; omega)) (by first | omega | (simp only [up_nx, put_nx]; done) | (simp only [up_nx, put_nx]; omega)) (put_get _ _) (fun e he => by cases he) rfl, (by repeat (first | with_reducible assumption | with_reducible exact AH.le.refl _ | with_reducible apply AH.le.up | (with_reducible refine AH.le.put hw ?_ ?_; · first | omega | (simp only [up_nx, put_nx, kill_nx]; done) | (simp only [up_nx, put_nx, kill_nx]; omega)) | (with_reducible refine AH.le.kill hw ?_ ?_; · first | omega | (simp only [up_nx, put_nx, kill_nx]; done) | (simp only [up_nx, put_nx, kill_nx]; omega)))), (by first | omega | (simp only [up_nx, put_nx]; done) | (simp only [up_nx, put_nx]; omega))⟩ (by first | omega | (simp only [up_nx, put_nx]; done) | (simp only [up_nx, put_nx]; omega))
  | cons x xs =>
    refine tri_slices_CloneK ?_
    unfold S_slices_CloneK iL
    have hpos : 0 < (nI (x :: xs)).length := by simp [nI]
    have hlen : (nI (x :: xs)).length = (x :: xs).length := by simp [nI]
    have hdt := dt_nI (x :: xs)
    generalize nI (x :: xs) = ys at *
    simp
    refine ⟨hpos, nd_bs0 fun q => ?_⟩
    simp
    exact ⟨by omega, by omega, rt_refl ⟨.row (by first | omega | (simp only [up_nx, put_nx, kill_nx]; done) | (simp only [up_nx, put_nx, kill_nx]; omega)) (by first | omega | (simp only [up_nx, put_nx]; done) | (simp only [up_nx, put_nx]; omega)) (put_get _ _) hdt rfl, (by repeat (first | with_reducible assumption | with_reducible exact AH.le.refl _ | with_reducible apply AH.le.up | (with_reducible refine AH.le.put hw ?_ ?_; · first | omega | (simp only [up_nx, put_nx, kill_nx]; done) | (simp only [up_nx, put_nx, kill_nx]; omega)) | (with_reducible refine AH.le.kill hw ?_ ?_; · first | omega | (simp only [up_nx, put_nx, kill_nx]; done) | (simp only [up_nx, put_nx, kill_nx]; omega)))), (by first | omega | (simp only [up_nx, put_nx]; done) | (simp only [up_nx, put_nx]; omega))⟩ (by first | omega | (simp only [up_nx, put_nx]; done) | (simp only [up_nx, put_nx]; omega))⟩
def clo (bw bp bg bt : Nat) : AV := .fn (.func 47) [] [.ptr bw 0, .ptr bp 0, .ptr bg 0, .ptr bt 0]
structure TryAt (H : AH) (ws : List (List Ty)) (g : Ty) (bw bp bg bt pr : Nat) : Prop where
  w : ∃ tt, H.get bw = some (.box tt [.dsl 1 (wE ws)])
  p : ∃ tt, H.get bp = some (.box tt [.ptr pr 0])
  g : ∃ tt, H.get bg = some (.box tt g.cs)
  t : ∃ tt, H.get bt = some (.box tt [clo bw bp bg bt])
theorem TryAt.le {H H' : AH} {ws : List (List Ty)} {g : Ty} {bw bp bg bt pr : Nat} (h : TryAt H ws g bw bp bg bt pr) (hle : H.le H') : TryAt H' ws g bw bp bg bt pr :=
  ⟨h.w.imp fun _ e => hle _ _ e, h.p.imp fun _ e => hle _ _ e, h.g.imp fun _ e => hle _ _ e, h.t.imp fun _ e => hle _ _ e⟩
theorem box_put {H : AH} {m b : Nat} {s s' : Ded} (hm : H.get m = some (MO s)) {cs : List AV} (h : ∃ tt, H.get b = some (.box tt cs)) : ∃ tt, (H.put m (MO s')).get b = some (.box tt cs) := by
  obtain ⟨tt, h⟩ := h
  have hbm : b ≠ m := fun e => by subst e; rw [hm] at h; cases h
  exact ⟨tt, by rw [AH.get_put_ne hbm]; exact h⟩
theorem TryAt.put {H : AH} {ws : List (List Ty)} {g : Ty} {bw bp bg bt pr m : Nat} {s s' : Ded} (hm : H.get m = some (MO s)) (h : TryAt H ws g bw bp bg bt pr) : TryAt (H.put m (MO s')) ws g bw bp bg bt pr :=
  ⟨box_put hm h.w, box_put hm h.p, box_put hm h.g, box_put hm h.t⟩
theorem put_self_le {H : AH} {m : Nat} {o : AO} (hm : H.get m = some o) : (H.put m o).le H := fun j u hj => by
  by_cases e : j = m
  · subst e; rw [put_get] at hj; rw [hm]; exact hj
  · rw [AH.get_put_ne e] at hj; exact hj
def tryR (ch : List Int) : Option (List Int) → AV
  | none => .p (.slice none 0 0)
  | some r => iL (ch ++ r)
theorem pow_step (n c : Nat) : 3 ^ (n + 1) * c = 3 * (3 ^ n * c) := by rw [Nat.pow_succ, Nat.mul_comm (3 ^ n) 3, Nat.mul_assoc]
set_option maxHeartbeats 2000000 in
theorem c_try {ws : List (List Ty)} {g : Ty} (ok : OkW ws g) {bw bp bg bt pr m : Nat} : ∀ (n : Nat) (left : List Ty) (ch : List Int) (s : Ded) (H : AH), PreW ws left → left.length + n = ws.length → ch.length = left.length → Snd s → s.length + 3 ^ n * cost 10 ≤ 9000000000000000000 →
    TryAt H ws g bw bp bg bt pr → PrAt H pr m s →
    Tri Try.prog 47 [iL ch, tE left, .ptr bw 0, .ptr bp 0, .ptr bg 0, .ptr bt 0] H (fun r H' => ∃ s', Snd s' ∧ s'.length ≤ s.length + 3 ^ n * cost 10 ∧ H' = H.put m (MO s') ∧ r = tryR ch (sayP ws g n left))
  | n, left, ch, s, H, hp, hn, hch, hs, hk, hT, hP => tri_wf fun hw => tri_speech_Says_fn2 (by
    have hml : maxLen = 9223372036854775807 := by decide
    obtain ⟨w1, w6⟩ := ok.len
    have hle10 := sls_flat_le ws left.length
    have hps := hp.sl
    have hos := ok.sl
    obtain ⟨ha1, ha2⟩ := hP
    have hpn := (hw _ _ ha1).1
    have hmn := (hw _ _ ha2).1
    have hpm : pr ≠ m := fun e => by subst e; rw [ha1] at ha2; cases ha2
    have hwM : ∀ s, WF (H.put m (MO s)) := fun s => hw.put hmn (MO_cl s _)
    obtain ⟨tw, hbw⟩ := hT.w
    obtain ⟨tp, hbp⟩ := hT.p
    obtain ⟨tg, hbg⟩ := hT.g
    unfold S_speech_Says_fn2 tE
    simp (disch := first | omega | simp) [hbw]
    cases n with
    | zero =>
      have hll : left.length = ws.length := by omega
      simp (disch := first | omega | simp) [hll, hbp, hbg, Ty.cs_len, Ty.cs_take]
      have hck := cost_mono (show Ty.sls left + g.sl ≤ 10 by omega)
      simp only [Nat.pow_zero, Nat.one_mul] at hk ⊢
      obtain ⟨t1, t2, t3, t4⟩ := proofF_spec 11 left g s hp.good ok.good (by omega) (by omega) hs
      refine ca_of (by kernel_rfl) (c_proofN 11 left g s pr m _ hp.good ok.good (by omega) (by omega) hs (by omega) ⟨ha1, ha2⟩) ?_
      rintro _ _ ⟨rfl, rfl⟩
      generalize proofF 11 left g s = a at *
      obtain ⟨a1, aok, sa⟩ := a
      dsimp only at t1 t2 t3 t4 ⊢
      rw [sayP]
      cases aok with
      | false =>
        have hd : dvB left g = false := dvB_no fun h => by simpa using t1.2 h
        simp (disch := first | omega | simp) [Pf.av, bv, Pf.cs_len, hd]
        exact rt_one (H0 := H.put m (MO sa)) (hwM sa) (by repeat (first | with_reducible assumption | with_reducible apply AH.le.up | (with_reducible refine AH.le.put (hwM _) ?_ ?_; · first | omega | (simp only [put_nx]; done) | (simp only [put_nx]; omega)) | (with_reducible refine AH.le.kill (hwM _) ?_ ?_; · first | omega | (simp only [up_nx, put_nx, kill_nx]; done) | (simp only [up_nx, put_nx, kill_nx]; omega)) | with_reducible refine le_base ?_ | (with_reducible refine AH.le.put hw ?_ ?_; · first | omega | (simp only [up_nx, put_nx, kill_nx]; done) | (simp only [up_nx, put_nx, kill_nx]; omega)) | with_reducible exact AH.le.refl _)) (Cl.p _) ⟨sa, t2, by omega, rfl, rfl⟩
      | true =>
        have hd : dvB left g = true := dvB_yes (t1.1 rfl)
        simp (disch := first | omega | simp) [Pf.av, bv, Pf.cs_len, hd]
        exact rt_one (H0 := H.put m (MO sa)) (hwM sa) (by repeat (first | with_reducible assumption | with_reducible apply AH.le.up | (with_reducible refine AH.le.put (hwM _) ?_ ?_; · first | omega | (simp only [put_nx]; done) | (simp only [put_nx]; omega)) | (with_reducible refine AH.le.kill (hwM _) ?_ ?_; · first | omega | (simp only [up_nx, put_nx, kill_nx]; done) | (simp only [up_nx, put_nx, kill_nx]; omega)) | with_reducible refine le_base ?_ | (with_reducible refine AH.le.put hw ?_ ?_; · first | omega | (simp only [up_nx, put_nx, kill_nx]; done) | (simp only [up_nx, put_nx, kill_nx]; omega)) | with_reducible exact AH.le.refl _)) (iL_cl _ _) ⟨sa, t2, by omega, rfl, by simp [tryR]⟩
    | succ n =>
      have hlt : left.length < ws.length := by omega
      obtain ⟨w, hww⟩ : ∃ w, ws[left.length]? = some w := ⟨_, List.getElem?_eq_getElem hlt⟩
      have hwe := wE_get hww
      have hweg : ∀ h, (wE ws)[left.length]'h = [tE w] := fun h => (List.getElem?_eq_some_iff.1 hwe).2
      have hwm := List.mem_of_getElem? hww
      have hw3 := ok.each w hwm
      have hneq : ¬ ((left.length : Nat) : Int) = ((ws.length : Nat) : Int) := by omega
      have hlw : left.length < (wE ws).length := by rw [wE_len]; exact hlt
      unfold tE at hwe hweg
      simp (disch := first | omega | simp) [hneq, hlt, hweg]
      rw [sayP]
      generalize hF : (fun i : Nat => match (alt ws left)[i]? with
        | some p => (sayP ws g n (left ++ [p])).map fun r => (i : Int) :: r
        | none => none) = F
      rw [alt_at hww]
      have hFi : ∀ (i : Nat) (p : Ty), w[i]? = some p → F i = (sayP ws g n (left ++ [p])).map fun r => (i : Int) :: r := fun i p hpi => by
        rw [← hF]
        dsimp only
        rw [alt_at hww, hpi]
      clear hF
      rw [pow_step] at hk ⊢
      generalize hK : 3 ^ n * cost 10 = K at hk ⊢
      refine loop_wf (fun i : Nat => [iv i]) (fun i H' => H.nx ≤ H'.nx ∧ i ≤ w.length ∧ (∃ s', Snd s' ∧ s'.length ≤ s.length + i * K ∧ (H.put m (MO s')).le H') ∧ fstS F (w.length - i) i = fstS F w.length 0) (fun i => w.length - i) 0 (.refl (Nat.le_refl _)) ⟨Nat.le_refl _, Nat.zero_le _, ⟨s, hs, by omega, put_self_le ha2⟩, rfl⟩ ?_
      rintro i H2 hn2 hw2 ⟨hnx, hi, ⟨s1, hs1, hc1, hle1⟩, hfs⟩ kk hkk
      unfold S_speech_Says_fn2_L2
      have hiK : i * K ≤ 3 * K := Nat.mul_le_mul_right K (by omega)
      by_cases hil : i < w.length
      · obtain ⟨p, hpi⟩ : ∃ p, w[i]? = some p := ⟨_, List.getElem?_eq_getElem hil⟩
        have hxg : ∀ h, w[i]'h = p := fun h => (List.getElem?_eq_some_iff.1 hpi).2
        have hpm' := List.mem_of_getElem? hpi
        have hiv := ivn (i := i) (by omega)
        have hpre := hp.snoc hww hpm' ok.goods
        rw [show w.length - i = (w.length - (i + 1)) + 1 by omega, fstS] at hfs
        have hsK : (i + 1) * K = i * K + K := Nat.succ_mul i K
        have hi3 : (i + 1) * K ≤ 3 * K := Nat.mul_le_mul_right K (by omega)
        have hT2 : TryAt H2 ws g bw bp bg bt pr := (hT.put ha2).le hle1
        obtain ⟨tt, hbt⟩ := hT2.t
        unfold S_speech_Says_fn2_C1
        have hbtn := (hw2 _ _ hbt).1
        simp (disch := first | omega | simp) [iv, hil, hxg, Ty.cs_len, Ty.cs_take, put_get_ne, hbt]
        generalize hL : AH.put _ (H2.nx + 3) (.box 24 p.cs) = L
        have hLl : H2.le L := by have hw := hw2; rw [← hL]; exact (by repeat (first | with_reducible assumption | with_reducible exact AH.le.refl _ | with_reducible apply AH.le.up | (with_reducible refine AH.le.put hw ?_ ?_; · first | omega | (simp only [up_nx, put_nx, kill_nx]; done) | (simp only [up_nx, put_nx, kill_nx]; omega)) | (with_reducible refine AH.le.kill hw ?_ ?_; · first | omega | (simp only [up_nx, put_nx, kill_nx]; done) | (simp only [up_nx, put_nx, kill_nx]; omega))))
        have hLn : L.nx = H2.nx + 6 := by rw [← hL]; rfl
        have hLb : L.get (H2.nx + 3) = some (.box 24 p.cs) := by rw [← hL, put_get]
        have hLw : WF L := by rw [← hL]; exact ((hw2.up 6).box (by first | omega | (simp only [up_nx]; done) | (simp only [up_nx]; omega)) (by repeat (first | exact Cl.p _ | exact Cl.dsl _ _ | exact Cl.any | refine Cl.tup ?_ | refine Cl.agg ?_ | exact Clo.nil | refine Clo.cons ?_ ?_))).box (by first | omega | (simp only [up_nx, put_nx]; done) | (simp only [up_nx, put_nx]; omega)) (p.cl _)
        clear hL
        refine car_of 3 1 (nI ch) (by kernel_rfl) (nI_len _) (fun H3 _ => c_CloneI ch (by omega)) ?_
        simp (disch := first | omega | simp)
        have hnl : (nI ch).length = left.length := by unfold nI; rw [List.length_map, hch]
        refine wrf_row rfl (wf_none hLw (by first | omega | (simp only [up_nx, put_nx, kill_nx]; done) | (simp only [up_nx, put_nx, kill_nx]; omega))) (es := nI ch) (by simp (disch := first | omega | simp) [put_get_ne]) (by omega) (elF_whole (t := 3) (es := [[iv i]]) rfl (by simp (disch := first | omega | simp) [iv]) rfl) (by simp; omega) (by simp; omega) ?_
        have hes : ((nI ch).drop 0).take (nI ch).length ++ [[iv i]] = nI (ch ++ [(i : Int)]) := by rw [List.drop_zero, List.take_of_length_le (by simp)]; unfold nI; rw [List.map_append]; rfl
        rw [hes]
        simp only [List.length_singleton]
        refine car_of 24 3 (left.map Ty.cs) (by kernel_rfl) (cs_len3 _) (fun H3 _ => c_CloneP left (by omega)) ?_
        simp (disch := first | omega | simp) [Ty.cs_len, Ty.cs_take, hLb]
        refine wrf_row rfl (wf_none hLw (by first | omega | (simp only [up_nx, put_nx, kill_nx]; done) | (simp only [up_nx, put_nx, kill_nx]; omega))) (es := left.map Ty.cs) (by simp (disch := first | omega | simp) [put_get_ne]) (by simp) (elF_whole (t := 24) (es := [p.cs]) rfl (by simp (disch := first | omega | simp)) rfl) (by simp; omega) (by simp; omega) ?_
        have hes2 : ((left.map Ty.cs).drop 0).take left.length ++ [p.cs] = (left ++ [p]).map Ty.cs := by rw [List.drop_zero, List.take_of_length_le (by simp), List.map_append]; rfl
        rw [hes2]
        simp only [List.length_singleton]
        generalize hM : AH.put _ (H2.nx + 6 + 10) _ = M
        have hMl : H2.le M := by
          have hw := hw2
          rw [← hM]
          exact (by repeat (first | with_reducible assumption | with_reducible exact AH.le.refl _ | with_reducible apply AH.le.up | (with_reducible refine AH.le.put hw ?_ ?_; · first | omega | (simp only [up_nx, put_nx, kill_nx]; done) | (simp only [up_nx, put_nx, kill_nx]; omega)) | (with_reducible refine AH.le.kill hw ?_ ?_; · first | omega | (simp only [up_nx, put_nx, kill_nx]; done) | (simp only [up_nx, put_nx, kill_nx]; omega))))
        have hMn : M.nx = H2.nx + 19 := by rw [← hM]; simp only [put_nx, kill_nx, up_nx]; omega
        have hM5 : M.get (H2.nx + 6 + 5) = some (.row 3 1 (nI (ch ++ [(i : Int)]))) := by rw [← hM]; simp (disch := first | omega | simp) [put_get_ne, kill_get_ne]
        have hM10 : M.get (H2.nx + 6 + 10) = some (.row 24 3 ((left ++ [p]).map Ty.cs)) := by rw [← hM]; simp (disch := first | omega | simp)
        clear hM
        have hN : ∃ N, Gst Try.prog M N ∧ H2.le N ∧ N.nx = M.nx ∧ Sub Try.prog N (.osl (H2.nx + 6 + 5) 1 0 ((nI ch).length + 1)) (iL (ch ++ [(i : Int)])) ∧ Sub Try.prog N (.osl (H2.nx + 6 + 10) 3 0 (left.length + 1)) (tE (left ++ [p])) := by
          refine ⟨_, (Gst.freeze hM5 (dt_nI _)).trans (.freeze (r := H2.nx + 6 + 10) (by rw [AH.get_put_ne (by omega)]; exact hM10) (dt_ty _)), ?_, rfl, ?_, ?_⟩
          · have hw := hw2
            exact (by repeat (first | with_reducible assumption | with_reducible exact AH.le.refl _ | with_reducible apply AH.le.up | (with_reducible refine AH.le.put hw ?_ ?_; · first | omega | (simp only [up_nx, put_nx, kill_nx]; done) | (simp only [up_nx, put_nx, kill_nx]; omega)) | (with_reducible refine AH.le.kill hw ?_ ?_; · first | omega | (simp only [up_nx, put_nx, kill_nx]; done) | (simp only [up_nx, put_nx, kill_nx]; omega))))
          · have := Sub.frz (P := Try.prog) (H := (M.put (H2.nx + 6 + 5) (.frz 1 (nI (ch ++ [(i : Int)])))).put (H2.nx + 6 + 10) (.frz 3 ((left ++ [p]).map Ty.cs))) (r := H2.nx + 6 + 5) (sz := 1) (off := 0) (n := (nI ch).length + 1) (es := nI (ch ++ [(i : Int)])) (by rw [AH.get_put_ne (by omega), put_get]) (by simp [nI])
            rw [List.drop_zero, List.take_of_length_le (by simp [nI])] at this
            exact this
          · have := Sub.frz (P := Try.prog) (H := (M.put (H2.nx + 6 + 5) (.frz 1 (nI (ch ++ [(i : Int)])))).put (H2.nx + 6 + 10) (.frz 3 ((left ++ [p]).map Ty.cs))) (r := H2.nx + 6 + 10) (sz := 3) (off := 0) (n := left.length + 1) (es := (left ++ [p]).map Ty.cs) (put_get _ _) (by simp)
            rw [List.drop_zero, List.take_of_length_le (by simp)] at this
            exact this
        obtain ⟨N, hG, hNl, hNn, hs5, hs10⟩ := hN
        have hlen2 : (left ++ [p]).length + n = ws.length := by rw [List.length_append, List.length_singleton]; omega
        have hch2 : (ch ++ [(i : Int)]).length = (left ++ [p]).length := by rw [List.length_append, List.length_append, hch]; rfl
        have hleN := hle1.trans hNl
        have hPN : PrAt N pr m s1 := ⟨hleN _ _ (by rw [AH.get_put_ne hpm]; exact ha1), hleN _ _ (put_get _ _)⟩
        unfold clo
        refine ca_of (by kernel_rfl) (Tri.st hG (Tri.args (.cons hs5 (.cons hs10 (.cons (.refl _) (.cons (.refl _) (.cons (.refl _) (.cons (.refl _) .nil)))))) (c_try ok n (left ++ [p]) (ch ++ [(i : Int)]) s1 N hpre hlen2 hch2 hs1 (by omega) (hT2.le hNl) hPN))) ?_
        rintro v H' ⟨s2, hs2, hc2, rfl, rfl⟩
        rw [hK] at hc2
        have hle2 : (H.put m (MO s2)).le (N.put m (MO s2)) := le_rebase hleN
        have hFe := hFi i p hpi
        cases hsy : sayP ws g n (left ++ [p]) with
        | none =>
          rw [hsy] at hFe
          rw [hFe] at hfs
          simp (disch := first | omega | simp) [tryR, hiv]
          exact hkk (i + 1) _ _ _ (.refl (by simp only [put_nx]; omega)) ⟨by simp only [put_nx]; omega, by omega, ⟨s2, hs2, by omega, hle2⟩, hfs⟩ (by omega)
        | some r =>
          rw [hsy] at hFe
          rw [hFe] at hfs
          rw [← hfs]
          have hne : ∀ (k : AV → AH → Prop) (H' : AH), Pu Try.prog (.bin .neq 37) [iL (ch ++ (i : Int) :: r), .p (.slice none 0 0)] k H' = k (bv true) H' := fun k H' => by unfold iL nI; simp [bv]; intros; omega
          have hap : ch ++ [(i : Int)] ++ r = ch ++ (i : Int) :: r := by simp
          simp only [tryR, hap]
          simp (disch := first | omega | simp) [hne, bv]
          exact rt_one (H0 := H.put m (MO s2)) (hwM s2) hle2 (iL_cl _ _) ⟨s2, hs2, by omega, rfl, rfl⟩
      · have hie : w.length - i = 0 := by omega
        rw [hie, fstS] at hfs
        simp (disch := first | omega | simp) [iv, hil]
        rw [← hfs]
        have hi3 : i = w.length := by omega
        exact rt_one (H0 := H.put m (MO s1)) (hwM s1) hle1 (Cl.p _) ⟨s1, hs1, by omega, rfl, rfl⟩)
end Go.Proofs.Ytpmnlikgldacaaa

/- Which parts words must be: the program's answer. -/
namespace Go.Proofs.Ytpmnlikgldacaaa
open Go.RowKit Go.Maps
theorem c_ConcatG {H : AH} {x : AV} (ls : List (List Ty)) (h : PartsAt H x ls) (hb : ls.flatten.length * 40 ≤ 140737488355328) (hl : ls.length ≤ 1000000) : Tri Try.prog 45 [x] H (fun r H' => Grows 24 3 H H' r (ls.flatten.map Ty.cs) ∧ H.le H' ∧ H.nx ≤ H'.nx) := tri_wf fun hw => tri_slices_Concat_s_api_Part_api_Part (by
  have hml : maxLen = 9223372036854775807 := by decide
  unfold S_slices_Concat_s_api_Part_api_Part
  simp (disch := first | omega | simp) [h.len]
  refine loop_st (fun i : Nat => [iv (tot ls i), iv i]) (fun i H' => H = H' ∧ i ≤ ls.length) (fun i => ls.length - i) 0 (.refl (Nat.le_refl _)) ⟨rfl, Nat.zero_le _⟩ ?_
  rintro i _ _ ⟨rfl, hi⟩ k hk
  simp only [iv]
  by_cases hi2 : i < ls.length
  · obtain ⟨l, hg⟩ : ∃ l, ls[i]? = some l := ⟨_, List.getElem?_eq_getElem hi2⟩
    obtain ⟨q, b, q1, q2, q3, q4⟩ := h.acc hg
    have hle := tot_le (ls := ls) (i := i + 1)
    rw [tot_succ hg] at hle
    have hws : IntKind.i64.wrap ((tot ls i : Int) + (l.length : Int)) = (tot ls (i + 1) : Int) := by rw [tot_succ hg, IntKind.wrap_i64]; omega
    have hbl : ∀ (k : AV → AH → Prop) (H' : AH), Pu Try.prog .len [b] k H' = k (.p (.int .i64 (l.length : Int))) H' := fun k H' => by rw [elF_len q3, List.length_map]
    have hiv := ivn (i := i) (by omega)
    simp (disch := first | omega | simp) [hi2, q1, q2, hbl, hws, hiv]
    exact hk (i + 1) _ _ _ (.refl (Nat.le_refl _)) ⟨rfl, hi2⟩ (by omega)
  · have hii : i = ls.length := by omega
    simp (disch := first | omega | simp) [hi2]
    have htot : tot ls i = ls.flatten.length := by unfold tot; rw [hii, List.take_length]
    have hfl : ls.flatten.length * 40 ≤ 140737488355328 := hb
    refine ca_of (by kernel_rfl) (c_Grow (by omega) (by omega)) ?_
    rintro v H1 ⟨hg, hle, hn⟩
    simp (disch := first | omega | simp) [h.len]
    refine loop_st (fun x : Nat × AV => [x.2, iv x.1]) (fun x H' => Grows 24 3 H H' x.2 ((ls.take x.1).flatten.map Ty.cs) ∧ H.le H' ∧ H.nx ≤ H'.nx ∧ x.1 ≤ ls.length) (fun x => ls.length - x.1) (0, v) (.refl (Nat.le_refl _)) ⟨by simpa using hg, hle, hn, Nat.zero_le _⟩ ?_
    rintro ⟨j, u⟩ H2 hn2 ⟨g2, hle2, hn3, hj⟩ k2 hk2
    dsimp only at g2 hj
    simp only [iv]
    by_cases hj2 : j < ls.length
    · obtain ⟨l, hgj⟩ : ∃ l, ls[j]? = some l := ⟨_, List.getElem?_eq_getElem hj2⟩
      obtain ⟨q, b, q1, q2, q3, q4⟩ := h.acc hgj
      have hlej := tot_le (ls := ls) (i := j + 1)
      rw [tot_succ hgj] at hlej
      unfold tot at hlej
      have hiv := ivn (i := j) (by omega)
      simp (disch := first | omega | simp) [hj2, q1, q4 H2 (by repeat (first | with_reducible assumption | with_reducible exact AH.le.refl _ | with_reducible apply AH.le.up | (with_reducible refine AH.le.put hw ?_ ?_; · first | omega | (simp only [up_nx, put_nx, kill_nx]; done) | (simp only [up_nx, put_nx, kill_nx]; omega)) | (with_reducible refine AH.le.kill hw ?_ ?_; · first | omega | (simp only [up_nx, put_nx, kill_nx]; done) | (simp only [up_nx, put_nx, kill_nx]; omega))))]
      refine Grows.app (H1 := H2.up 4) hw (g2.keep (Nat.le_add_right _ _) fun _ _ _ h => h) (by repeat (first | with_reducible assumption | with_reducible exact AH.le.refl _ | with_reducible apply AH.le.up | (with_reducible refine AH.le.put hw ?_ ?_; · first | omega | (simp only [up_nx, put_nx, kill_nx]; done) | (simp only [up_nx, put_nx, kill_nx]; omega)) | (with_reducible refine AH.le.kill hw ?_ ?_; · first | omega | (simp only [up_nx, put_nx, kill_nx]; done) | (simp only [up_nx, put_nx, kill_nx]; omega)))) (by first | omega | (simp only [up_nx, put_nx, kill_nx]; done) | (simp only [up_nx, put_nx, kill_nx]; omega)) (by first | omega | (simp only [up_nx]; done) | (simp only [up_nx]; omega)) (elF_le q3 (by repeat (first | with_reducible assumption | with_reducible exact AH.le.refl _ | with_reducible apply AH.le.up | (with_reducible refine AH.le.put hw ?_ ?_; · first | omega | (simp only [up_nx, put_nx, kill_nx]; done) | (simp only [up_nx, put_nx, kill_nx]; omega)) | (with_reducible refine AH.le.kill hw ?_ ?_; · first | omega | (simp only [up_nx, put_nx, kill_nx]; done) | (simp only [up_nx, put_nx, kill_nx]; omega))))) (dt_ty _) (by rw [List.length_map, List.length_map]; omega) (by rw [List.length_map, List.length_map]; omega) fun v' H3 g3 l3 n3 _ _ => ?_
      rw [q_add_i, hiv]
      exact hk2 (j + 1, v') _ _ _ (.refl (by rw [n3]; exact Nat.le_trans hn2 (Nat.le_add_right _ _))) ⟨by rw [flat_take hgj, List.map_append]; exact g3, l3, by rw [n3]; exact Nat.le_trans hn3 (Nat.le_add_right _ _), hj2⟩ (by simp only; omega)
    · simp (disch := first | omega | simp) [hj2]
      have hjj : j = ls.length := by omega
      subst hjj
      rw [List.take_length] at g2
      rw [List.map_flatten] at g2
      exact rt_refl ⟨g2, hle2, hn3⟩ hn3)
theorem parts_w (ws : List (List Ty)) (H : AH) : PartsAt H (.dsl 1 (wE ws)) ws := by
  refine ⟨ws.map tE, by simp [wE], by simp, fun i l hl => ⟨tE l, by simp [hl], by unfold tE; simp⟩⟩
theorem c_bad (l : List Ty) : PF Try.prog 44 [tE l] (bv (!(decide (0 < l.length) && decide (l.length ≤ 3)))) := fun H => tri_wf fun hw => tri_speech_Says_fn1 (by
  unfold S_speech_Says_fn1 tE
  by_cases q1 : l.length = 0
  · simp (disch := first | omega | simp) [q1]
    exact rt_one hw (by repeat (first | with_reducible assumption | with_reducible exact AH.le.refl _ | with_reducible apply AH.le.up | (with_reducible refine AH.le.put hw ?_ ?_; · first | omega | (simp only [up_nx, put_nx, kill_nx]; done) | (simp only [up_nx, put_nx, kill_nx]; omega)) | (with_reducible refine AH.le.kill hw ?_ ?_; · first | omega | (simp only [up_nx, put_nx, kill_nx]; done) | (simp only [up_nx, put_nx, kill_nx]; omega)))) (by repeat (first | exact Cl.p _ | exact Cl.dsl _ _ | exact Cl.any | refine Cl.tup ?_ | refine Cl.agg ?_ | exact Clo.nil | refine Clo.cons ?_ ?_)) ⟨rfl, by simp [bv]⟩
  have q1' : ¬ (l.length : Int) < 1 := by omega
  have q3 : ¬ l = [] := fun e => q1 (by rw [e]; rfl)
  have q4 : 0 < l.length := by omega
  by_cases q2 : 3 < l.length
  · have q2' : (3 : Int) < l.length := by omega
    have q5 : ¬ l.length ≤ 3 := by omega
    simp (disch := first | omega | simp) [q1', q2']
    exact rt_one hw (by repeat (first | with_reducible assumption | with_reducible exact AH.le.refl _ | with_reducible apply AH.le.up | (with_reducible refine AH.le.put hw ?_ ?_; · first | omega | (simp only [up_nx, put_nx, kill_nx]; done) | (simp only [up_nx, put_nx, kill_nx]; omega)) | (with_reducible refine AH.le.kill hw ?_ ?_; · first | omega | (simp only [up_nx, put_nx, kill_nx]; done) | (simp only [up_nx, put_nx, kill_nx]; omega)))) (by repeat (first | exact Cl.p _ | exact Cl.dsl _ _ | exact Cl.any | refine Cl.tup ?_ | refine Cl.agg ?_ | exact Clo.nil | refine Clo.cons ?_ ?_)) ⟨rfl, by simp [bv, q5]⟩
  · have q2' : ¬ (3 : Int) < l.length := by omega
    have q5 : l.length ≤ 3 := by omega
    simp (disch := first | omega | simp) [q1', q2']
    exact rt_one hw (by repeat (first | with_reducible assumption | with_reducible exact AH.le.refl _ | with_reducible apply AH.le.up | (with_reducible refine AH.le.put hw ?_ ?_; · first | omega | (simp only [up_nx, put_nx, kill_nx]; done) | (simp only [up_nx, put_nx, kill_nx]; omega)) | (with_reducible refine AH.le.kill hw ?_ ?_; · first | omega | (simp only [up_nx, put_nx, kill_nx]; done) | (simp only [up_nx, put_nx, kill_nx]; omega)))) (by repeat (first | exact Cl.p _ | exact Cl.dsl _ _ | exact Cl.any | refine Cl.tup ?_ | refine Cl.agg ?_ | exact Clo.nil | refine Clo.cons ?_ ?_)) ⟨rfl, by simp [bv, q5, q4]⟩)
theorem c_Index {H : AH} (ws : List (List Ty)) (hl : ws.length ≤ 1000) : Tri Try.prog 67 [.dsl 1 (wE ws), .fn (.func 44) [] []] H (fun r H' => H' = H ∧ ∃ k : Int, r = iv k ∧ (0 ≤ k ↔ okW ws = false)) := tri_wf fun hw => tri_slices_IndexFunc_s_s_api_Part_s_api_Part (by
  have hml : maxLen = 9223372036854775807 := by decide
  unfold S_slices_IndexFunc_s_s_api_Part_s_api_Part
  simp (disch := first | omega | simp) []
  refine loop_st (fun i : Nat => [iv i]) (fun i H' => H = H' ∧ i ≤ ws.length ∧ okW ws = okW (ws.drop i)) (fun i => ws.length - i) 0 (.refl (Nat.le_refl _)) ⟨rfl, Nat.zero_le _, by rw [List.drop_zero]⟩ ?_
  rintro i _ _ ⟨rfl, hi, hok⟩ k hk
  unfold S_slices_IndexFunc_s_s_api_Part_s_api_Part_L1
  by_cases hil : i < ws.length
  · obtain ⟨x, hx⟩ : ∃ x, ws[i]? = some x := ⟨_, List.getElem?_eq_getElem hil⟩
    have hxe := wE_get hx
    have hxg : ∀ h, (wE ws)[i]'h = [tE x] := fun h => (List.getElem?_eq_some_iff.1 hxe).2
    have hiv := ivn (i := i) (by omega)
    rw [allW_at hx] at hok
    have hil' : (i : Int) < (ws.length : Int) := by omega
    simp (disch := first | omega | simp) [iv, hil', hxe]
    refine ca_pure (by kernel_rfl) (c_bad x _) ?_
    cases hb : (decide (0 < x.length) && decide (x.length ≤ 3)) with
    | false =>
      rw [hb] at hok
      simp (disch := first | omega | simp) [bv]
      exact rt_one hw (by repeat (first | with_reducible assumption | with_reducible exact AH.le.refl _ | with_reducible apply AH.le.up | (with_reducible refine AH.le.put hw ?_ ?_; · first | omega | (simp only [up_nx, put_nx, kill_nx]; done) | (simp only [up_nx, put_nx, kill_nx]; omega)) | (with_reducible refine AH.le.kill hw ?_ ?_; · first | omega | (simp only [up_nx, put_nx, kill_nx]; done) | (simp only [up_nx, put_nx, kill_nx]; omega)))) (by repeat (first | exact Cl.p _ | exact Cl.dsl _ _ | exact Cl.any | refine Cl.tup ?_ | refine Cl.agg ?_ | exact Clo.nil | refine Clo.cons ?_ ?_)) ⟨rfl, i, rfl, by rw [hok]; simp⟩
    | true =>
      rw [hb, Bool.true_and] at hok
      simp (disch := first | omega | simp) [bv, hiv]
      exact hk (i + 1) _ _ _ (.refl (Nat.le_refl _)) ⟨rfl, hil, hok⟩ (by omega)
  · have hil' : ¬ (i : Int) < (ws.length : Int) := by omega
    simp (disch := first | omega | simp) [iv, hil']
    exact rt_one hw (by repeat (first | with_reducible assumption | with_reducible exact AH.le.refl _ | with_reducible apply AH.le.up | (with_reducible refine AH.le.put hw ?_ ?_; · first | omega | (simp only [up_nx, put_nx, kill_nx]; done) | (simp only [up_nx, put_nx, kill_nx]; omega)) | (with_reducible refine AH.le.kill hw ?_ ?_; · first | omega | (simp only [up_nx, put_nx, kill_nx]; done) | (simp only [up_nx, put_nx, kill_nx]; omega)))) (by repeat (first | exact Cl.p _ | exact Cl.dsl _ _ | exact Cl.any | refine Cl.tup ?_ | refine Cl.agg ?_ | exact Clo.nil | refine Clo.cons ?_ ?_)) ⟨rfl, -1, rfl, by rw [hok, List.drop_eq_nil_iff.2 (by omega)]; simp [okW]⟩)
theorem c_Contains (ws : List (List Ty)) (hl : ws.length ≤ 1000) : PF Try.prog 43 [.dsl 1 (wE ws), .fn (.func 44) [] []] (bv (!okW ws)) := fun H => tri_wf fun hw => tri_slices_ContainsFunc_s_s_api_Part_s_api_Part (by
  unfold S_slices_ContainsFunc_s_s_api_Part_s_api_Part
  refine ca_of (by kernel_rfl) (c_Index ws hl) ?_
  rintro _ _ ⟨rfl, k, rfl, hk⟩
  simp (disch := first | omega | simp) [iv]
  refine rt_one hw (by repeat (first | with_reducible assumption | with_reducible exact AH.le.refl _ | with_reducible apply AH.le.up | (with_reducible refine AH.le.put hw ?_ ?_; · first | omega | (simp only [up_nx, put_nx, kill_nx]; done) | (simp only [up_nx, put_nx, kill_nx]; omega)) | (with_reducible refine AH.le.kill hw ?_ ?_; · first | omega | (simp only [up_nx, put_nx, kill_nx]; done) | (simp only [up_nx, put_nx, kill_nx]; omega)))) (by repeat (first | exact Cl.p _ | exact Cl.dsl _ _ | exact Cl.any | refine Cl.tup ?_ | refine Cl.agg ?_ | exact Clo.nil | refine Clo.cons ?_ ?_)) ⟨rfl, ?_⟩
  cases ho : okW ws with
  | false => have := hk.2 ho; simp [bv, this]
  | true =>
    have : ¬ 0 ≤ k := fun h => by rw [hk.1 h] at ho; cases ho
    simp [bv, this])
theorem flat_okW : ∀ {ws : List (List Ty)}, okW ws = true → ws.flatten.length ≤ 3 * ws.length
  | [], _ => by simp
  | l :: ws, h => by
    unfold okW at h
    rw [List.all_cons, Bool.and_eq_true] at h
    have h1 := flat_okW (ws := ws) (by unfold okW; exact h.2)
    have h2 : l.length ≤ 3 := by have := h.1; simp only [Bool.and_eq_true, decide_eq_true_eq] at this; exact this.2
    rw [List.flatten_cons, List.length_append, List.length_cons]
    omega
noncomputable def saysR (ws : List (List Ty)) (g : Ty) : AV := if asksW ws g = 0 then .tup [tryR [] (sayP ws g ws.length []), bv (sayP ws g ws.length []).isSome, iv 0] else .tup [.p (.slice none 0 0), bv false, iv (asksW ws g)]
theorem saysR_no {ws : List (List Ty)} {g : Ty} {e : Int} (h : asksW ws g = e) (h0 : e ≠ 0) : saysR ws g = .tup [.p (.slice none 0 0), bv false, iv e] := by unfold saysR; rw [h, if_neg h0]
set_option maxHeartbeats 2000000 in
theorem c_Says (ws : List (List Ty)) (g : Ty) : PF Try.prog 15 [.dsl 1 (wE ws), g.av] (saysR ws g) := fun H => tri_wf fun hw => tri_speech_Says (by
  have hml : maxLen = 9223372036854775807 := by decide
  unfold S_speech_Says
  by_cases h1 : ws.length = 0 ∨ 6 < ws.length
  · have hv := saysR_no (ws := ws) (g := g) (e := 7) (by unfold asksW; rw [if_pos h1]) (by decide)
    rcases h1 with h1 | h1
    · simp (disch := first | omega | simp) [Ty.av, h1, put_get_ne]
      exact rt_one hw (by repeat (first | with_reducible assumption | with_reducible exact AH.le.refl _ | with_reducible apply AH.le.up | (with_reducible refine AH.le.put hw ?_ ?_; · first | omega | (simp only [up_nx, put_nx, kill_nx]; done) | (simp only [up_nx, put_nx, kill_nx]; omega)) | (with_reducible refine AH.le.kill hw ?_ ?_; · first | omega | (simp only [up_nx, put_nx, kill_nx]; done) | (simp only [up_nx, put_nx, kill_nx]; omega)))) (by repeat (first | exact Cl.p _ | exact Cl.dsl _ _ | exact Cl.any | refine Cl.tup ?_ | refine Cl.agg ?_ | exact Clo.nil | refine Clo.cons ?_ ?_)) ⟨rfl, by rw [hv]; rfl⟩
    · have h3 : ¬ (ws.length : Int) < 1 := by omega
      have h4 : (6 : Int) < ws.length := by omega
      have h6 : ¬ ws = [] := fun e => by rw [e] at h1; simp at h1
      simp (disch := first | omega | simp) [Ty.av, h3, h4, put_get_ne]
      exact rt_one hw (by repeat (first | with_reducible assumption | with_reducible exact AH.le.refl _ | with_reducible apply AH.le.up | (with_reducible refine AH.le.put hw ?_ ?_; · first | omega | (simp only [up_nx, put_nx, kill_nx]; done) | (simp only [up_nx, put_nx, kill_nx]; omega)) | (with_reducible refine AH.le.kill hw ?_ ?_; · first | omega | (simp only [up_nx, put_nx, kill_nx]; done) | (simp only [up_nx, put_nx, kill_nx]; omega)))) (by repeat (first | exact Cl.p _ | exact Cl.dsl _ _ | exact Cl.any | refine Cl.tup ?_ | refine Cl.agg ?_ | exact Clo.nil | refine Clo.cons ?_ ?_)) ⟨rfl, by rw [hv]; rfl⟩
  have h3 : ¬ (ws.length : Int) < 1 := by omega
  have h4 : ¬ (6 : Int) < ws.length := by omega
  have h5 : ¬ ws.length = 0 := by omega
  have h6 : ¬ ws = [] := fun e => h5 (by rw [e]; rfl)
  simp (disch := first | omega | simp) [Ty.av, h3, h4, put_get_ne]
  refine ca_pure (by kernel_rfl) (c_Contains ws (by omega) _) ?_
  cases hok : okW ws with
  | false =>
    have hv := saysR_no (ws := ws) (g := g) (e := 7) (by unfold asksW; rw [if_neg h1, if_pos hok]) (by decide)
    simp (disch := first | omega | simp) [bv]
    exact rt_one hw (by repeat (first | with_reducible assumption | with_reducible exact AH.le.refl _ | with_reducible apply AH.le.up | (with_reducible refine AH.le.put hw ?_ ?_; · first | omega | (simp only [up_nx, put_nx, kill_nx]; done) | (simp only [up_nx, put_nx, kill_nx]; omega)) | (with_reducible refine AH.le.kill hw ?_ ?_; · first | omega | (simp only [up_nx, put_nx, kill_nx]; done) | (simp only [up_nx, put_nx, kill_nx]; omega)))) (by repeat (first | exact Cl.p _ | exact Cl.dsl _ _ | exact Cl.any | refine Cl.tup ?_ | refine Cl.agg ?_ | exact Clo.nil | refine Clo.cons ?_ ?_)) ⟨rfl, by rw [hv]; rfl⟩
  | true =>
    have hav : asksW ws g = askA (ws.flatten ++ [g]) := by unfold asksW; rw [if_neg h1, if_neg (by rw [hok]; decide)]
    have hfl := flat_okW hok
    have hcc : ∀ H2, Tri Try.prog 45 [.dsl 1 (wE ws)] H2 (fun r H' => Grows 24 3 H2 H' r (ws.flatten.map Ty.cs) ∧ H2.le H' ∧ H2.nx ≤ H'.nx) := fun H2 => c_ConcatG ws (parts_w ws H2) (by omega) (by omega)
    generalize ws.flatten = fl at hcc hfl hav
    simp (disch := first | omega | simp) [bv, put_get_ne]
    generalize hL : AH.put _ (H.nx + 1) _ = L
    have hLl : H.le L := by rw [← hL]; exact (by repeat (first | with_reducible assumption | with_reducible exact AH.le.refl _ | with_reducible apply AH.le.up | (with_reducible refine AH.le.put hw ?_ ?_; · first | omega | (simp only [up_nx, put_nx, kill_nx]; done) | (simp only [up_nx, put_nx, kill_nx]; omega)) | (with_reducible refine AH.le.kill hw ?_ ?_; · first | omega | (simp only [up_nx, put_nx, kill_nx]; done) | (simp only [up_nx, put_nx, kill_nx]; omega))))
    have hLn : L.nx = H.nx + 5 := by rw [← hL]; rfl
    have hL0 : L.get H.nx = some (.box 36 [.dsl 1 (wE ws)]) := by rw [← hL]; simp (disch := first | omega | simp) [put_get_ne]
    have hL1 : L.get (H.nx + 1) = some (.box 24 g.cs) := by rw [← hL]; simp (disch := first | omega | simp)
    have hLw : WF L := by rw [← hL]; exact ((hw.up 5).box (by first | omega | (simp only [up_nx]; done) | (simp only [up_nx]; omega)) (by repeat (first | exact Cl.p _ | exact Cl.dsl _ _ | exact Cl.any | refine Cl.tup ?_ | refine Cl.agg ?_ | exact Clo.nil | refine Clo.cons ?_ ?_))).box (by first | omega | (simp only [up_nx, put_nx]; done) | (simp only [up_nx, put_nx]; omega)) (g.cl _)
    clear hL
    refine car_of 24 3 (fl.map Ty.cs) (by kernel_rfl) (cs_len3 _) (fun H2 _ => hcc H2) ?_
    simp (disch := first | omega | simp) [Ty.cs_len, Ty.cs_take, hL1]
    refine wrf_row rfl (wf_none hLw (by first | omega | (simp only [up_nx, put_nx, kill_nx]; done) | (simp only [up_nx, put_nx, kill_nx]; omega))) (es := fl.map Ty.cs) (by simp (disch := first | omega | simp) [put_get_ne]) (by simp) (elF_whole (t := 24) (es := [g.cs]) rfl (by simp (disch := first | omega | simp)) rfl) (by simp; omega) (by simp; omega) ?_
    have hes : ((fl.map Ty.cs).drop 0).take fl.length ++ [g.cs] = (fl ++ [g]).map Ty.cs := by rw [List.drop_zero, List.take_of_length_le (by simp), List.map_append]; rfl
    have hm1 : fl.length + [g.cs].length = (fl ++ [g]).length := by simp
    rw [hm1, hes]
    have hmn : (fl ++ [g]).length ≤ 19 := by rw [List.length_append]; simp only [List.length_singleton]; omega
    generalize fl ++ [g] = m at *
    generalize hM : AH.put _ _ _ = M
    have hMl : H.le M := by rw [← hM]; exact (by repeat (first | with_reducible assumption | with_reducible exact AH.le.refl _ | with_reducible apply AH.le.up | (with_reducible refine AH.le.put hw ?_ ?_; · first | omega | (simp only [up_nx, put_nx, kill_nx]; done) | (simp only [up_nx, put_nx, kill_nx]; omega)) | (with_reducible refine AH.le.kill hw ?_ ?_; · first | omega | (simp only [up_nx, put_nx, kill_nx]; done) | (simp only [up_nx, put_nx, kill_nx]; omega))))
    have hMn : M.nx = H.nx + 11 := by rw [← hM]; simp only [put_nx, kill_nx, up_nx]; omega
    have hM0 : M.get H.nx = some (.box 36 [.dsl 1 (wE ws)]) := by rw [← hM]; simp (disch := first | omega | simp) [put_get_ne, kill_get_ne, hL0]
    have hM1 : M.get (H.nx + 1) = some (.box 24 g.cs) := by rw [← hM]; simp (disch := first | omega | simp) [put_get_ne, kill_get_ne, hL1]
    have hMr : M.get (H.nx + 5 + 4) = some (.row 24 3 (m.map Ty.cs)) := by rw [← hM]; simp (disch := first | omega | simp)
    clear hM
    simp (disch := first | omega | simp) []
    refine loop_wf (fun i : Nat => [iv i]) (fun i H' => i ≤ m.length ∧ M.le H' ∧ M.nx ≤ H'.nx ∧ chkL m = chkL (m.drop i)) (fun i => m.length - i) 0 (.refl (by omega)) ⟨Nat.zero_le _, .refl _, Nat.le_refl _, by rw [List.drop_zero]⟩ ?_
    rintro i H1 hn1 hw1 ⟨hi, hle, hnx, hc⟩ k hk
    unfold S_speech_Says_L1
    have hr := hle _ _ hMr
    have hg0 := hle _ _ hM0
    have hg1 := hle _ _ hM1
    by_cases hil : i < m.length
    · obtain ⟨x, hx⟩ : ∃ x, m[i]? = some x := ⟨_, List.getElem?_eq_getElem hil⟩
      have hxg : ∀ h, m[i]'h = x := fun h => (List.getElem?_eq_some_iff.1 hx).2
      have hiv := ivn (i := i) (by omega)
      rw [chkL_at hx] at hc
      simp (disch := first | omega | simp) [iv, hil, hxg, hr, Ty.cs_len, Ty.cs_take]
      refine ca_pure (by kernel_rfl) (c_Check x _) ?_
      by_cases hx0 : x.check = 0
      · rw [if_pos hx0] at hc
        simp (disch := first | omega | simp) [iv, hx0, hiv]
        refine hk (i + 1) _ _ _ (.refl (by first | omega | (simp only [up_nx, put_nx]; done) | (simp only [up_nx, put_nx]; omega))) ⟨hil, ?_, (by first | omega | (simp only [up_nx, put_nx]; done) | (simp only [up_nx, put_nx]; omega)), hc⟩ (by omega)
        have hw := hw1
        exact hle.trans (by repeat (first | with_reducible assumption | with_reducible exact AH.le.refl _ | with_reducible apply AH.le.up | (with_reducible refine AH.le.put hw ?_ ?_; · first | omega | (simp only [up_nx, put_nx, kill_nx]; done) | (simp only [up_nx, put_nx, kill_nx]; omega)) | (with_reducible refine AH.le.kill hw ?_ ?_; · first | omega | (simp only [up_nx, put_nx, kill_nx]; done) | (simp only [up_nx, put_nx, kill_nx]; omega))))
      · rw [if_neg hx0] at hc
        have hv := saysR_no (ws := ws) (g := g) (e := x.check) (by rw [hav]; unfold askA; rw [hc, if_pos hx0]) hx0
        simp (disch := first | omega | simp) [iv, hx0]
        refine rt_one hw ?_ (by repeat (first | exact Cl.p _ | exact Cl.dsl _ _ | exact Cl.any | refine Cl.tup ?_ | refine Cl.agg ?_ | exact Clo.nil | refine Clo.cons ?_ ?_)) ⟨rfl, by rw [hv]; rfl⟩
        have hle2 := hMl.trans hle
        exact (by repeat (first | with_reducible assumption | with_reducible exact AH.le.refl _ | with_reducible apply AH.le.up | (with_reducible refine AH.le.put hw ?_ ?_; · first | omega | (simp only [up_nx, put_nx, kill_nx]; done) | (simp only [up_nx, put_nx, kill_nx]; omega)) | (with_reducible refine AH.le.kill hw ?_ ?_; · first | omega | (simp only [up_nx, put_nx, kill_nx]; done) | (simp only [up_nx, put_nx, kill_nx]; omega))))
    · have hcz : chkL m = 0 := by rw [hc, List.drop_eq_nil_iff.2 (by omega), chkL]
      have gm := chkL_goods hcz
      have hsz := gm.sizes
      have hs1 : Ty.sls m ≤ Ty.sizes m := Ty.sls_len m
      simp (disch := first | omega | simp) [iv, hil]
      have hfz := Sub.frz (P := Try.prog) (H := H1.put (H.nx + 5 + 4) (.frz 3 (m.map Ty.cs))) (r := H.nx + 5 + 4) (sz := 3) (off := 0) (n := m.length) (es := m.map Ty.cs) (put_get _ _) (by simp)
      rw [List.drop_zero, List.take_of_length_le (by simp)] at hfz
      refine ca_of (by kernel_rfl) (Tri.st (.freeze hr (dt_ty m)) (Tri.args (.cons hfz .nil) (c_slashes m (by omega) _))) ?_
      rintro _ _ ⟨rfl, rfl⟩
      have hle2 := hMl.trans hle
      by_cases h10 : 10 < Ty.sls m
      · have h10' : (10 : Int) < (Ty.sls m : Int) := by omega
        have hv := saysR_no (ws := ws) (g := g) (e := 2) (by rw [hav]; unfold askA; rw [if_neg (by simp [hcz]), if_pos h10]) (by decide)
        simp (disch := first | omega | simp) [iv, h10']
        exact rt_one hw (by repeat (first | with_reducible assumption | with_reducible exact AH.le.refl _ | with_reducible apply AH.le.up | (with_reducible refine AH.le.put hw ?_ ?_; · first | omega | (simp only [up_nx, put_nx, kill_nx]; done) | (simp only [up_nx, put_nx, kill_nx]; omega)) | (with_reducible refine AH.le.kill hw ?_ ?_; · first | omega | (simp only [up_nx, put_nx, kill_nx]; done) | (simp only [up_nx, put_nx, kill_nx]; omega)))) (by repeat (first | exact Cl.p _ | exact Cl.dsl _ _ | exact Cl.any | refine Cl.tup ?_ | refine Cl.agg ?_ | exact Clo.nil | refine Clo.cons ?_ ?_)) ⟨rfl, by rw [hv]; rfl⟩
      · have h10' : ¬ (10 : Int) < (Ty.sls m : Int) := by omega
        have h0 : asksW ws g = 0 := by rw [hav]; unfold askA; rw [if_neg (by simp [hcz]), if_neg h10]
        have ok := asksW_ok h0
        generalize hN : AH.put H1 _ _ = N
        have hNl : H.le N := by rw [← hN]; exact (by repeat (first | with_reducible assumption | with_reducible exact AH.le.refl _ | with_reducible apply AH.le.up | (with_reducible refine AH.le.put hw ?_ ?_; · first | omega | (simp only [up_nx, put_nx, kill_nx]; done) | (simp only [up_nx, put_nx, kill_nx]; omega)) | (with_reducible refine AH.le.kill hw ?_ ?_; · first | omega | (simp only [up_nx, put_nx, kill_nx]; done) | (simp only [up_nx, put_nx, kill_nx]; omega))))
        have hNn : N.nx = H1.nx := by rw [← hN]; rfl
        have hN0 : N.get H.nx = some (.box 36 [.dsl 1 (wE ws)]) := by rw [← hN, AH.get_put_ne (by omega)]; exact hg0
        have hN1 : N.get (H.nx + 1) = some (.box 24 g.cs) := by rw [← hN, AH.get_put_ne (by omega)]; exact hg1
        clear hN
        simp (disch := first | omega | simp) [iv, h10']
        generalize hK : AH.put _ (N.nx + 5) (.box _ [.fn _ _ _]) = K
        have hKl : H.le K := by rw [← hK]; exact (by repeat (first | with_reducible assumption | with_reducible exact AH.le.refl _ | with_reducible apply AH.le.up | (with_reducible refine AH.le.put hw ?_ ?_; · first | omega | (simp only [up_nx, put_nx, kill_nx]; done) | (simp only [up_nx, put_nx, kill_nx]; omega)) | (with_reducible refine AH.le.kill hw ?_ ?_; · first | omega | (simp only [up_nx, put_nx, kill_nx]; done) | (simp only [up_nx, put_nx, kill_nx]; omega))))
        have hKn : K.nx = N.nx + 8 := by rw [← hK]; rfl
        have hK0 : K.get H.nx = some (.box 36 [.dsl 1 (wE ws)]) := by rw [← hK]; simp (disch := first | omega | simp) [put_get_ne, hN0]
        have hK1 : K.get (H.nx + 1) = some (.box 24 g.cs) := by rw [← hK]; simp (disch := first | omega | simp) [put_get_ne, hN1]
        have hKm : K.get N.nx = some (MO []) := by rw [MO_nil, ← hK]; simp (disch := first | omega | simp) [put_get_ne]
        have hK2 : K.get (N.nx + 2) = some (.box 63 [.mp N.nx]) := by rw [← hK]; simp (disch := first | omega | simp) [put_get_ne]
        have hK3 : ∃ tt, K.get (N.nx + 3) = some (.box tt [.ptr (N.nx + 2) 0]) := ⟨_, by rw [← hK]; simp (disch := first | omega | simp) [put_get_ne]; rfl⟩
        have hK5 : ∃ tt, K.get (N.nx + 5) = some (.box tt [clo H.nx (N.nx + 3) (H.nx + 1) (N.nx + 5)]) := ⟨_, by rw [← hK, put_get]; rfl⟩
        clear hK
        have hpow : 3 ^ ws.length * cost 10 ≤ 9000000000000000000 := by
          have h3p : 3 ^ ws.length ≤ 3 ^ 6 := Nat.pow_le_pow_right (by decide) (by omega)
          have h3q : 3 ^ ws.length * cost 10 ≤ 740 * cost 10 := Nat.mul_le_mul_right _ (Nat.le_trans h3p (by decide))
          exact Nat.le_trans h3q cost_many
        refine ca_of (by kernel_rfl) (Tri.args (.cons (Sub.nil 1 0 (Nat.zero_le _)) (.cons (Sub.nil 3 0 (Nat.zero_le _)) (.cons (.refl _) (.cons (.refl _) (.cons (.refl _) (.cons (.refl _) .nil)))))) (c_try ok ws.length [] [] [] K (.nil ws) (by simp) rfl (fun x hx => by cases hx) (by rw [List.length_nil, Nat.zero_add]; exact hpow) ⟨⟨_, hK0⟩, hK3, ⟨_, hK1⟩, hK5⟩ ⟨hK2, hKm⟩)) ?_
        rintro v H' ⟨s2, _, _, rfl, rfl⟩
        have hv : saysR ws g = .tup [tryR [] (sayP ws g ws.length []), bv (sayP ws g ws.length []).isSome, iv 0] := by unfold saysR; rw [if_pos h0]
        cases hsy : sayP ws g ws.length [] with
        | none =>
          rw [hsy] at hv
          simp (disch := first | omega | simp) [tryR]
          exact rt_one hw (by repeat (first | with_reducible assumption | with_reducible exact AH.le.refl _ | with_reducible apply AH.le.up | (with_reducible refine AH.le.put hw ?_ ?_; · first | omega | (simp only [up_nx, put_nx, kill_nx]; done) | (simp only [up_nx, put_nx, kill_nx]; omega)) | (with_reducible refine AH.le.kill hw ?_ ?_; · first | omega | (simp only [up_nx, put_nx, kill_nx]; done) | (simp only [up_nx, put_nx, kill_nx]; omega)))) (by repeat (first | exact Cl.p _ | exact Cl.dsl _ _ | exact Cl.any | refine Cl.tup ?_ | refine Cl.agg ?_ | exact Clo.nil | refine Clo.cons ?_ ?_)) ⟨rfl, hv.symm⟩
        | some r =>
          have hrl := sayP_len ws g _ _ _ hsy
          rw [hsy] at hv
          have hne : ∀ (k : AV → AH → Prop) (H' : AH), Pu Try.prog (.bin .neq 37) [iL r, .p (.slice none 0 0)] k H' = k (bv true) H' := fun k H' => by unfold iL nI; simp [bv]; intros; omega
          simp only [tryR, List.nil_append]
          simp (disch := first | omega | simp) [hne]
          exact rt_one hw (by repeat (first | with_reducible assumption | with_reducible exact AH.le.refl _ | with_reducible apply AH.le.up | (with_reducible refine AH.le.put hw ?_ ?_; · first | omega | (simp only [up_nx, put_nx, kill_nx]; done) | (simp only [up_nx, put_nx, kill_nx]; omega)) | (with_reducible refine AH.le.kill hw ?_ ?_; · first | omega | (simp only [up_nx, put_nx, kill_nx]; done) | (simp only [up_nx, put_nx, kill_nx]; omega)))) (.tup (.cons (iL_cl _ _) (.cons (Cl.p _) (.cons (Cl.p _) .nil)))) ⟨rfl, hv.symm⟩)
end Go.Proofs.Ytpmnlikgldacaaa
