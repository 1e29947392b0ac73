/- The law SpeechParts holds: whatever comes in, the call returns true and its arguments read as they did. No condition. -/
import Derived.Test.YtpmnlikgldacaaaSq17
import Derived.JoinedOf
import Derived.JoinedAt

/- Readings of trees: what comes in at a type that holds itself. Nothing of the program is named here. -/
namespace Go.Proofs.Ytpmnlikgldacaaa
open Go.ChangeShapes Go.WideShapes Go.RowKit

def OpensN {α : Type} (P : Program) (t : TypeId) (ρ : Rep α) (N : Nat) : Prop :=
  ∀ (H : Type) (enc : TypeId × Value → H) (w : World) (base : Nat) (spare : Nat → Bool) (held : Bool) (fuel : Nat) (cs : List Value) (x : DataW H × List MemPlace), fuel ≤ N →
    DataW.trod enc P w base spare held fuel t cs = some x → ∃ y, ρ.R w (fun b => b < w.heap.size) cs y ∧ ρ.bulk y ≤ Rows.uptoBulk x.1
theorem Opens.n {α : Type} {P : Program} {t : TypeId} {ρ : Rep α} (h : Opens P t ρ) (N : Nat) : OpensN P t ρ N := fun H enc w base spare held fuel cs x _ hx => h H enc w base spare held fuel cs x hx
theorem OpensN.map {α β : Type} {P : Program} {t : TypeId} {ρ : Rep α} {σ : Rep β} {N : Nat} (h : OpensN P t ρ N) (f : α → β) (hr : ∀ w S cs y, ρ.R w S cs y → σ.R w S cs (f y)) (hb : ∀ y, σ.bulk (f y) ≤ ρ.bulk y) : OpensN P t σ N := by
  intro H enc w base spare held fuel cs x hf hx
  obtain ⟨y, h1, h2⟩ := h H enc w base spare held fuel cs x hf hx
  exact ⟨f y, hr _ _ _ _ h1, Nat.le_trans (hb y) h2⟩
/-- the same, by what may be used at one place alone -/
def trodAs {α : Type} (P : Program) (t : TypeId) (ρ : Rep α) (N : Nat) (H : Type) (enc : TypeId × Value → H) (w : World) (base : Nat) (spare : Nat → Bool) (held : Bool) : Prop :=
  ∀ (fuel : Nat) (cs : List Value) (x : DataW H × List MemPlace), fuel ≤ N → DataW.trod enc P w base spare held fuel t cs = some x → ∃ y, ρ.R w (fun b => b < w.heap.size) cs y ∧ ρ.bulk y ≤ Rows.uptoBulk x.1
theorem opensN_slice {α : Type} {ρ : Rep α} {P : Program} {t e : TypeId} {N : Nat} (ht : P.underlying t = some (.slice e)) (hs : P.cellsOf e = ρ.size) (hp : 0 < ρ.size) (he : OpensN P e ρ N) : OpensN P t (rList ρ) (N + 1) := by
  intro H enc w base spare held fuel cs x hfuel h
  rcases DataW.trod_slice ht h with ⟨rfl, rfl⟩ | ⟨a, len, cap, elems, rest, n, hn, rfl, rfl, _, hl, hm, hlen, hel, _, _⟩
  · exact ⟨[], ⟨none, 0, rfl, Sl.nil_⟩, by simp [rList, Rows.uptoBulk]⟩
  · have key : ∀ i, i < len → ∃ y, (a.block < w.heap.size ∧ (∃ u, ρ.R w (fun b => b < w.heap.size) u y ∧ ∀ j z, u[j]? = some z → w.cell? (a.add (i * ρ.size + j)) = some z)) ∧ ∀ d, (elems.map (·.1))[i]? = some d → ρ.bulk y ≤ Rows.uptoBulk d := by
      intro i hi
      have h1 := hel i hi
      rw [List.getElem?_eq_getElem (by omega)] at h1
      cases hc : w.cells? base (a.add (i * P.cellsOf e)) (P.cellsOf e) with
      | none => rw [hc] at h1; simp at h1
      | some us =>
        rw [hc] at h1
        simp only [Option.bind_some] at h1
        obtain ⟨y, hy, hb⟩ := he H enc w base spare held n us _ (by omega) h1
        obtain ⟨_, hcl, hat⟩ := World.cells?_some hc
        have hcell : ∀ j z, us[j]? = some z → w.cell? (a.add (i * ρ.size + j)) = some z := by
          intro j z hz
          have hj : j < P.cellsOf e := by have := (List.getElem?_eq_some_iff.1 hz).1; omega
          have := hat j hj
          rw [hz, add_of_add, hs] at this; exact this
        refine ⟨y, ⟨?_, us, hy, hcell⟩, fun d hd => ?_⟩
        · have h0 : 0 < us.length := by rw [ρ.len hy]; exact hp
          have := World.block_lt_of_cell? w _ (hcell 0 _ (List.getElem?_eq_getElem h0))
          rwa [block_of_add] at this
        · rw [List.getElem?_map, List.getElem?_eq_getElem (by omega)] at hd
          simp at hd; subst hd; exact hb
    obtain ⟨ys, hyl, hq⟩ := pick len key
    refine ⟨ys, ⟨some a, cap, by rw [hyl], by omega, hm, fun i y hy => ?_⟩, ?_⟩
    · obtain ⟨⟨hb, u, hr, hc⟩, _⟩ := hq i y hy
      exact ⟨a, u, rfl, hb, hr, hc⟩
    · have := sum_le ρ.bulk ys (elems.map (·.1)) (by rw [List.length_map]; omega) fun i y d hy hd => (hq i y hy).2 d hd
      simp only [rList, Rows.uptoBulk]; omega
def OpensLN {α : Type} (P : Program) (l : List Field) (off : Nat) (ρ : Rep α) (N : Nat) : Prop :=
  ∀ (H : Type) (enc : TypeId × Value → H) (w : World) (base : Nat) (spare : Nat → Bool) (held : Bool) (fuel : Nat) (cs : List Value) (xs : List (DataW H × List MemPlace)), fuel ≤ N →
    cs.length = off + ρ.size → xs.length = l.length → (∀ (i : Nat) (f : Field), l[i]? = some f → DataW.trod enc P w base spare held fuel f.type ((cs.drop f.offset).take (P.cellsOf f.type)) = xs[i]?) →
    ∃ y, ρ.R w (fun b => b < w.heap.size) (cs.drop off) y ∧ ρ.bulk y ≤ Rows.uptoBulkAll (xs.map (·.1))
theorem opensN_last {α : Type} {ρ : Rep α} {P : Program} {f : Field} {off N : Nat} (ho : f.offset = off) (hs : P.cellsOf f.type = ρ.size) (hf : OpensN P f.type ρ N) : OpensLN P [f] off ρ N := by
  intro H enc w base spare held fuel cs xs hfu hl hx h
  match xs, hx with
  | [x], _ =>
    have h0 := h 0 f rfl
    rw [ho, hs, List.take_of_length_le (by rw [List.length_drop]; omega)] at h0
    obtain ⟨y, hy, hb⟩ := hf H enc w base spare held fuel _ x hfu h0
    exact ⟨y, hy, by simp only [List.map_cons, List.map_nil, Rows.uptoBulkAll]; omega⟩
theorem opensN_more {α β : Type} {ρ : Rep α} {σ : Rep β} {P : Program} {f : Field} {l : List Field} {off N : Nat} (ho : f.offset = off) (hs : P.cellsOf f.type = ρ.size) (hf : OpensN P f.type ρ N) (hl : OpensLN P l (off + ρ.size) σ N) :
    OpensLN P (f :: l) off (rPair ρ σ) N := by
  intro H enc w base spare held fuel cs xs hfu hcs hx h
  match xs, hx with
  | x :: xs, hx =>
    have h0 := h 0 f rfl
    rw [ho, hs] at h0
    have hz : (rPair ρ σ).size = ρ.size + σ.size := rfl
    obtain ⟨y, hy, hb⟩ := hf H enc w base spare held fuel _ x hfu h0
    obtain ⟨z, hz, hb'⟩ := hl H enc w base spare held fuel cs xs hfu (by omega) (by simpa using hx) fun i f hi => h (i + 1) f (by simpa using hi)
    refine ⟨(y, z), ⟨_, _, ?_, hy, hz⟩, ?_⟩
    · rw [← List.drop_drop, List.take_append_drop]
    · simp only [rPair, List.map_cons, Rows.uptoBulkAll]; omega
theorem opensN_struct {α : Type} {ρ : Rep α} {P : Program} {t : TypeId} {l : List Field} {N : Nat} (ht : P.underlying t = some (.struct l.toArray)) (hs : P.cellsOf t = ρ.size) (hl : OpensLN P l 0 ρ N) : OpensN P t ρ (N + 1) := by
  intro H enc w base spare held fuel cs x hfu h
  obtain ⟨xs, n, hn, rfl, hcs, hx, hf⟩ := DataW.trod_struct ht h
  obtain ⟨y, hy, hb⟩ := hl H enc w base spare held n cs xs (by omega) (by omega) (by simpa using hx) fun i f hi => hf i f (by simpa using hi)
  exact ⟨y, by simpa using hy, by simp only [Rows.uptoBulk]; omega⟩
theorem OpensN.less {α : Type} {P : Program} {t : TypeId} {ρ : Rep α} {N M : Nat} (h : OpensN P t ρ N) (hm : M ≤ N) : OpensN P t ρ M := fun H enc w base spare held fuel cs x hf hx => h H enc w base spare held fuel cs x (Nat.le_trans hf hm) hx
/-- a struct that holds slices of itself -/
theorem opens_rec {α : Type} {ρ : Rep α} {P : Program} {t : TypeId} {fs : Array Field} (ht : P.underlying t = some (.struct fs)) (h : ∀ N, OpensN P t ρ N → OpensN P t ρ (N + 1)) : Opens P t ρ := by
  have key : ∀ N, OpensN P t ρ N := by
    intro N
    induction N with
    | zero =>
      intro H enc w base spare held fuel cs x hf hx
      obtain ⟨xs, n, hn, _⟩ := DataW.trod_struct ht hx
      omega
    | succ N ih => exact h N ih
  exact fun H enc w base spare held fuel cs x hx => key fuel H enc w base spare held fuel cs x (Nat.le_refl _) hx
def Rep.sub {α : Type} (ρ : Rep α) (p : α → Prop) : Rep α where
  size := ρ.size
  bulk := ρ.bulk
  R w S cs x := ρ.R w S cs x ∧ p x
  len h := ρ.len h.1
  one h := ρ.one h.1
  keep h hk := ⟨ρ.keep h.1 hk, h.2⟩
  more h hm := ⟨ρ.more h.1 hm, h.2⟩
theorem Sl.sub {α : Type} {ρ : Rep α} {w : World} {S : Nat → Prop} {A : Option Addr} {c : Nat} {xs : List α} (h : Sl ρ w S A c xs) {p : α → Prop} (hp : ∀ x ∈ xs, p x) : Sl (ρ.sub p) w S A c xs :=
  ⟨h.1, h.2.1, fun i x hx => by
    obtain ⟨ad, u, e, hs, hr, hc⟩ := h.2.2 i x hx
    exact ⟨ad, u, e, hs, ⟨hr, hp x (List.mem_of_getElem? hx)⟩, hc⟩⟩
/-- trees are told by their size -/
theorem avs_rec {α : Type} {ρ : Rep α} {av : α → List AV} {ok : α → Prop} (size : α → Nat) (h : ∀ N, AvsG (ρ.sub fun x => size x ≤ N) id av ok → AvsG (ρ.sub fun x => size x ≤ N + 1) id av ok) (h0 : ∀ x, 1 ≤ size x) : AvsG ρ id av ok := by
  have key : ∀ N, AvsG (ρ.sub fun x => size x ≤ N) id av ok := by
    intro N
    induction N with
    | zero => intro w S cs y hr; have := h0 y; have := hr.2; omega
    | succ N ih => exact h N ih
  exact fun w S cs y hr => key (size y) w S cs y ⟨hr, Nat.le_refl _⟩
end Go.Proofs.Ytpmnlikgldacaaa

/- Parts and proofs as they come in: what stands for them in memory. -/
namespace Go.Proofs.Ytpmnlikgldacaaa
open Go.RowKit
mutual
def Ty.R (w : World) (S : Nat → Prop) : List Value → Ty → Prop
  | cs, ⟨k, n, ks⟩ => ∃ A c, cs = [.int .i64 k, .int .i64 n, .slice A ks.length c] ∧ I64 k ∧ I64 n ∧ ks.length ≤ c ∧ c ≤ maxLen ∧ Ty.Rs w S A 0 ks
def Ty.Rs (w : World) (S : Nat → Prop) (A : Option Addr) : Nat → List Ty → Prop
  | _, [] => True
  | i, t :: r => (∃ ad u, A = some ad ∧ S ad.block ∧ Ty.R w S u t ∧ ∀ j z, u[j]? = some z → w.cell? (ad.add (i * 3 + j)) = some z) ∧ Ty.Rs w S A (i + 1) r
end
theorem Ty.Rs_iff {w : World} {S : Nat → Prop} {A : Option Addr} : ∀ {ks : List Ty} {i : Nat}, Ty.Rs w S A i ks ↔ ∀ j t, ks[j]? = some t → ∃ ad u, A = some ad ∧ S ad.block ∧ Ty.R w S u t ∧ ∀ m z, u[m]? = some z → w.cell? (ad.add ((i + j) * 3 + m)) = some z
  | [], i => by rw [Ty.Rs]; simp
  | t :: r, i => by
    rw [Ty.Rs, Ty.Rs_iff (ks := r) (i := i + 1)]
    constructor
    · rintro ⟨h1, h2⟩ j x hx
      match j with
      | 0 => simp at hx; subst hx; exact h1
      | j + 1 =>
        obtain ⟨ad, u, e, hs, hr, hc⟩ := h2 j x (by simpa using hx)
        exact ⟨ad, u, e, hs, hr, by rw [show i + (j + 1) = i + 1 + j from by omega]; exact hc⟩
    · intro h
      refine ⟨h 0 t rfl, fun j x hx => ?_⟩
      obtain ⟨ad, u, e, hs, hr, hc⟩ := h (j + 1) x (by simpa using hx)
      exact ⟨ad, u, e, hs, hr, by rw [show i + 1 + j = i + (j + 1) from by omega]; exact hc⟩
theorem Ty.R_mk {w : World} {S : Nat → Prop} {cs : List Value} {k n : Int} {ks : List Ty} : Ty.R w S cs ⟨k, n, ks⟩ ↔ ∃ A c, cs = [.int .i64 k, .int .i64 n, .slice A ks.length c] ∧ I64 k ∧ I64 n ∧ ks.length ≤ c ∧ c ≤ maxLen ∧ Ty.Rs w S A 0 ks := by rw [Ty.R]
theorem Ty.R_keep {w w' : World} {S S' : Nat → Prop} (hk : ∀ p : Addr, S p.block → w'.cell? p = w.cell? p) (hm : ∀ b, S b → S' b) : ∀ (N : Nat) {cs : List Value} {t : Ty}, t.size ≤ N → Ty.R w S cs t → Ty.R w' S' cs t
  | 0, cs, ⟨k, n, ks⟩, hN, h => by rw [Ty.size_mk] at hN; omega
  | N + 1, cs, ⟨k, n, ks⟩, hN, h => by
    rw [Ty.size_mk] at hN
    obtain ⟨A, c, e, h1, h2, h3, h4, h5⟩ := Ty.R_mk.1 h
    refine Ty.R_mk.2 ⟨A, c, e, h1, h2, h3, h4, Ty.Rs_iff.2 fun j t ht => ?_⟩
    obtain ⟨ad, u, ea, hs, hr, hc⟩ := Ty.Rs_iff.1 h5 j t ht
    have := Ty.sizes_mem (List.mem_of_getElem? ht)
    exact ⟨ad, u, ea, hm _ hs, Ty.R_keep hk hm N (by omega) hr, fun m z hz => (hk _ (by rw [block_of_add]; exact hs)).trans (hc m z hz)⟩
def rTy : Rep Ty where
  size := 3
  bulk := Ty.size
  R := Ty.R
  len := fun {w S cs x} h => by obtain ⟨k, n, ks⟩ := x; obtain ⟨A, c, e, _⟩ := Ty.R_mk.1 h; rw [e]; rfl
  one := fun {w S cs x} h => by obtain ⟨k, n, ks⟩ := x; obtain ⟨A, c, e, _⟩ := Ty.R_mk.1 h; rw [e]; intro u hu; simp at hu; rcases hu with rfl | rfl | rfl <;> rfl
  keep := fun h hk => Ty.R_keep hk (fun _ h => h) _ (Nat.le_refl _) h
  more := fun h hm => Ty.R_keep (fun _ _ => rfl) hm _ (Nat.le_refl _) h
theorem ty_open {w : World} {S : Nat → Prop} {cs : List Value} {t : Ty} (h : rTy.R w S cs t) : ∃ A c, cs = [.int .i64 t.kind, .int .i64 t.num, .slice A t.kids.length c] ∧ I64 t.kind ∧ I64 t.num ∧ Sl rTy w S A c t.kids := by
  obtain ⟨k, n, ks⟩ := t
  obtain ⟨A, c, e, h1, h2, h3, h4, h5⟩ := Ty.R_mk.1 h
  refine ⟨A, c, e, h1, h2, h3, h4, fun i x hx => ?_⟩
  have := Ty.Rs_iff.1 h5 i x hx
  rw [Nat.zero_add] at this; exact this
theorem ty_mk {w : World} {S : Nat → Prop} {A : Option Addr} {c : Nat} {t : Ty} (h1 : I64 t.kind) (h2 : I64 t.num) (h : Sl rTy w S A c t.kids) : rTy.R w S [.int .i64 t.kind, .int .i64 t.num, .slice A t.kids.length c] t := by
  obtain ⟨k, n, ks⟩ := t
  refine Ty.R_mk.2 ⟨A, c, rfl, h1, h2, h.le, h.max, Ty.Rs_iff.2 fun i x hx => ?_⟩
  have := h.2.2 i x hx
  rw [Nat.zero_add]; exact this

theorem avs_ty : AvsG rTy id Ty.cs (fun _ => True) := avs_rec Ty.size (fun N ih w S cs t hr => by
  obtain ⟨hr, hN⟩ := hr
  obtain ⟨A, c, rfl, _, _, hs⟩ := ty_open hr
  refine ⟨trivial, ?_⟩
  have hN : t.size ≤ N + 1 := hN
  rw [Ty.size_eq] at hN
  have h1 := (sl_rpd ih (Nat.zero_lt_succ _) (hs.sub fun x hx => by have := Ty.sizes_mem hx; show x.size ≤ N; omega)).2
  rw [List.map_id] at h1
  show RpsD w S (Ty.cs t) _
  rw [Ty.cs_eq]
  exact (RpsD.one (.p (.int .i64 t.kind) rfl)).append ((RpsD.one (.p (.int .i64 t.num) rfl)).append (.one h1))) Ty.size_pos
theorem ty_bulks : ∀ ks : List Ty, (ks.map Ty.size).sum = Ty.sizes ks
  | [] => rfl
  | t :: r => by rw [List.map_cons, List.sum_cons, ty_bulks r, Ty.sizes]
set_option maxRecDepth 100000 in
theorem opens_ty : Opens Try.prog 24 rTy := opens_rec Try.underlying24 fun N ih =>
  OpensN.map (ρ := rPair rInt (rPair rInt (rList rTy))) (N := N + 1) (by
    refine OpensN.less (N := N + 1 + 1) (opensN_struct (l := [_, _, _]) Try.underlying24 rfl (opensN_more rfl rfl ((opens_int Try.underlying3).n _) (opensN_more rfl rfl ((opens_int Try.underlying3).n _) (opensN_last rfl rfl (opensN_slice Try.underlying22 rfl (by decide) ih))))) (by omega))
    (fun y => ⟨y.1, y.2.1, y.2.2⟩) (fun w S cs y hr => by
      obtain ⟨c1, c2, rfl, ⟨rfl, i1⟩, c3, c4, rfl, ⟨rfl, i2⟩, A, c, rfl, hs⟩ := hr
      exact ty_mk (t := ⟨y.1, y.2.1, y.2.2⟩) i1 i2 hs)
    (fun y => by
      show Ty.size ⟨y.1, y.2.1, y.2.2⟩ ≤ 1 + (1 + ((y.2.2.map Ty.size).sum + 1))
      rw [Ty.size_mk, ty_bulks]; omega)
set_option maxRecDepth 100000 in
theorem opens_parts : Opens Try.prog 22 (rList rTy) := opens_slice Try.underlying22 rfl (by decide) opens_ty
mutual
def Pf.R (w : World) (S : Nat → Prop) : List Value → Pf → Prop
  | cs, ⟨st, l, g, at_, n, ks⟩ => ∃ Al cl u A c, cs = [.int .i64 st, .slice Al l.length cl] ++ u ++ [.int .i64 at_, .int .i64 n, .slice A ks.length c] ∧ I64 st ∧ Sl rTy w S Al cl l ∧ rTy.R w S u g ∧ I64 at_ ∧ I64 n ∧ ks.length ≤ c ∧ c ≤ maxLen ∧ Pf.Rs w S A 0 ks
def Pf.Rs (w : World) (S : Nat → Prop) (A : Option Addr) : Nat → List Pf → Prop
  | _, [] => True
  | i, t :: r => (∃ ad u, A = some ad ∧ S ad.block ∧ Pf.R w S u t ∧ ∀ j z, u[j]? = some z → w.cell? (ad.add (i * 8 + j)) = some z) ∧ Pf.Rs w S A (i + 1) r
end
theorem Pf.Rs_iff {w : World} {S : Nat → Prop} {A : Option Addr} : ∀ {ks : List Pf} {i : Nat}, Pf.Rs w S A i ks ↔ ∀ j t, ks[j]? = some t → ∃ ad u, A = some ad ∧ S ad.block ∧ Pf.R w S u t ∧ ∀ m z, u[m]? = some z → w.cell? (ad.add ((i + j) * 8 + m)) = some z
  | [], i => by rw [Pf.Rs]; simp
  | t :: r, i => by
    rw [Pf.Rs, Pf.Rs_iff (ks := r) (i := i + 1)]
    constructor
    · rintro ⟨h1, h2⟩ j x hx
      match j with
      | 0 => simp at hx; subst hx; exact h1
      | j + 1 =>
        obtain ⟨ad, u, e, hs, hr, hc⟩ := h2 j x (by simpa using hx)
        exact ⟨ad, u, e, hs, hr, by rw [show i + (j + 1) = i + 1 + j from by omega]; exact hc⟩
    · intro h
      refine ⟨h 0 t rfl, fun j x hx => ?_⟩
      obtain ⟨ad, u, e, hs, hr, hc⟩ := h (j + 1) x (by simpa using hx)
      exact ⟨ad, u, e, hs, hr, by rw [show i + 1 + j = i + (j + 1) from by omega]; exact hc⟩
theorem Pf.R_mk {w : World} {S : Nat → Prop} {cs : List Value} {st at_ n : Int} {l : List Ty} {g : Ty} {ks : List Pf} : Pf.R w S cs ⟨st, l, g, at_, n, ks⟩ ↔ ∃ Al cl u A c, cs = [.int .i64 st, .slice Al l.length cl] ++ u ++ [.int .i64 at_, .int .i64 n, .slice A ks.length c] ∧ I64 st ∧ Sl rTy w S Al cl l ∧ rTy.R w S u g ∧ I64 at_ ∧ I64 n ∧ ks.length ≤ c ∧ c ≤ maxLen ∧ Pf.Rs w S A 0 ks := by rw [Pf.R]
theorem Pf.R_keep {w w' : World} {S S' : Nat → Prop} (hk : ∀ p : Addr, S p.block → w'.cell? p = w.cell? p) (hm : ∀ b, S b → S' b) : ∀ (N : Nat) {cs : List Value} {t : Pf}, t.size ≤ N → Pf.R w S cs t → Pf.R w' S' cs t
  | 0, cs, t, hN, h => by have := t.size_pos; omega
  | N + 1, cs, ⟨st, l, g, at_, n, ks⟩, hN, h => by
    rw [Pf.size] at hN
    obtain ⟨Al, cl, u, A, c, e, h1, hl, hu, h2, h2', h3, h4, h5⟩ := Pf.R_mk.1 h
    refine Pf.R_mk.2 ⟨Al, cl, u, A, c, e, h1, (hl.keep hk).more hm, rTy.more (rTy.keep hu hk) hm, h2, h2', h3, h4, Pf.Rs_iff.2 fun j t ht => ?_⟩
    obtain ⟨ad, u, ea, hs, hr, hc⟩ := Pf.Rs_iff.1 h5 j t ht
    have := Pf.sizes_mem (List.mem_of_getElem? ht)
    exact ⟨ad, u, ea, hm _ hs, Pf.R_keep hk hm N (by omega) hr, fun m z hz => (hk _ (by rw [block_of_add]; exact hs)).trans (hc m z hz)⟩
mutual
def Pf.bulk : Pf → Nat
  | ⟨_, l, g, _, _, ks⟩ => 1 + Ty.sizes l + Ty.size g + Pf.bulks ks
def Pf.bulks : List Pf → Nat
  | [] => 0
  | t :: r => Pf.bulk t + Pf.bulks r
end
def rPf : Rep Pf where
  size := 8
  bulk := Pf.bulk
  R := Pf.R
  len := fun {w S cs x} h => by obtain ⟨st, l, g, at_, n, ks⟩ := x; obtain ⟨Al, cl, u, A, c, e, _, _, hu, _⟩ := Pf.R_mk.1 h; have := rTy.len hu; rw [e]; simp [this, rTy]
  one := fun {w S cs x} h => by
    obtain ⟨st, l, g, at_, n, ks⟩ := x; obtain ⟨Al, cl, u, A, c, e, _, _, hu, _⟩ := Pf.R_mk.1 h
    rw [e]; intro z hz
    simp only [List.mem_append, List.mem_cons, List.not_mem_nil, or_false] at hz
    rcases hz with ((rfl | rfl) | hz) | rfl | rfl | rfl
    · rfl
    · rfl
    · exact rTy.one hu z hz
    · rfl
    · rfl
    · rfl
  keep := fun h hk => Pf.R_keep hk (fun _ h => h) _ (Nat.le_refl _) h
  more := fun h hm => Pf.R_keep (fun _ _ => rfl) hm _ (Nat.le_refl _) h
theorem pf_open {w : World} {S : Nat → Prop} {cs : List Value} {t : Pf} (h : rPf.R w S cs t) : ∃ Al cl Ag cg A c, cs = [.int .i64 t.step, .slice Al t.left.length cl, .int .i64 t.goal.kind, .int .i64 t.goal.num, .slice Ag t.goal.kids.length cg, .int .i64 t.at_, .int .i64 t.num, .slice A t.kids.length c] ∧ Pf.Nums t ∧ Sl rTy w S Al cl t.left ∧ Sl rTy w S Ag cg t.goal.kids ∧ Sl rPf w S A c t.kids := by
  obtain ⟨st, l, g, at_, n, ks⟩ := t
  obtain ⟨Al, cl, u, A, c, e, h1, hl, hu, h2, h2', h3, h4, h5⟩ := Pf.R_mk.1 h
  obtain ⟨Ag, cg, rfl, i1, i2, hs⟩ := ty_open hu
  refine ⟨Al, cl, Ag, cg, A, c, by rw [e]; rfl, ⟨h2, h2'⟩, hl, hs, h3, h4, fun i x hx => ?_⟩
  have := Pf.Rs_iff.1 h5 i x hx
  rw [Nat.zero_add] at this; exact this
theorem pf_mk {w : World} {S : Nat → Prop} {Al Ag A : Option Addr} {cl cg c : Nat} {t : Pf} (hst : I64 t.step) (hi : I64 t.goal.kind ∧ I64 t.goal.num ∧ I64 t.at_ ∧ I64 t.num) (hl : Sl rTy w S Al cl t.left) (hg : Sl rTy w S Ag cg t.goal.kids) (h : Sl rPf w S A c t.kids) :
    rPf.R w S [.int .i64 t.step, .slice Al t.left.length cl, .int .i64 t.goal.kind, .int .i64 t.goal.num, .slice Ag t.goal.kids.length cg, .int .i64 t.at_, .int .i64 t.num, .slice A t.kids.length c] t := by
  obtain ⟨st, l, g, at_, n, ks⟩ := t
  refine Pf.R_mk.2 ⟨Al, cl, _, A, c, rfl, hst, hl, ty_mk hi.1 hi.2.1 hg, hi.2.2.1, hi.2.2.2, h.le, h.max, Pf.Rs_iff.2 fun i x hx => ?_⟩
  have := h.2.2 i x hx
  rw [Nat.zero_add]; exact this
theorem avs_pf : AvsG rPf id Pf.cs (Pf.All Pf.Nums) := avs_rec Pf.size (fun N ih w S cs t hr => by
  obtain ⟨hr, hN⟩ := hr
  obtain ⟨Al, cl, Ag, cg, A, c, rfl, hn, hl, hg, hs⟩ := pf_open hr
  have hN : t.size ≤ N + 1 := hN
  rw [Pf.size_eq] at hN
  have h1 := sl_rpd ih (Nat.zero_lt_succ _) (hs.sub fun x hx => by have := Pf.sizes_mem hx; show x.size ≤ N; omega)
  refine ⟨.mk _ hn fun k hk => h1.1 k hk, ?_⟩
  have h1 := h1.2
  have h2 := (sl_rpd avs_ty (by decide) hl).2
  have h3 := (sl_rpd avs_ty (by decide) hg).2
  rw [List.map_id] at h1 h2 h3
  show RpsD w S (Pf.cs t) _
  rw [Pf.cs_eq]
  exact (RpsD.one (.p (.int .i64 t.step) rfl)).append ((RpsD.one h2).append ((RpsD.one (.p (.int .i64 t.goal.kind) rfl)).append ((RpsD.one (.p (.int .i64 t.goal.num) rfl)).append ((RpsD.one h3).append ((RpsD.one (.p (.int .i64 t.at_) rfl)).append ((RpsD.one (.p (.int .i64 t.num) rfl)).append (.one h1)))))))) Pf.size_pos
theorem pf_bulks : ∀ ks : List Pf, (ks.map Pf.bulk).sum = Pf.bulks ks
  | [] => by rw [Pf.bulks]; rfl
  | t :: r => by rw [List.map_cons, List.sum_cons, pf_bulks r, Pf.bulks]
set_option maxRecDepth 100000 in
theorem opens_pf : Opens Try.prog 27 rPf := opens_rec Try.underlying27 fun N ih =>
  OpensN.map (ρ := rPair rInt (rPair (rList rTy) (rPair rTy (rPair rInt (rPair rInt (rList rPf)))))) (N := N + 1) (by
    refine OpensN.less (N := N + 1 + 1) (opensN_struct (l := [_, _, _, _, _, _]) Try.underlying27 rfl (opensN_more rfl rfl ((opens_int Try.underlying3).n _) (opensN_more rfl rfl (opens_parts.n _) (opensN_more rfl rfl (opens_ty.n _) (opensN_more rfl rfl ((opens_int Try.underlying3).n _) (opensN_more rfl rfl ((opens_int Try.underlying3).n _) (opensN_last rfl rfl (opensN_slice Try.underlying25 rfl (by decide) ih)))))))) (by omega))
    (fun y => ⟨y.1, y.2.1, y.2.2.1, y.2.2.2.1, y.2.2.2.2.1, y.2.2.2.2.2⟩) (fun w S cs y hr => by
      obtain ⟨c1, c2, rfl, ⟨rfl, i1⟩, c3, c4, rfl, ⟨Al, cl, rfl, hl⟩, c5, c6, rfl, ht, c7, c8, rfl, ⟨rfl, i2⟩, c9, c10, rfl, ⟨rfl, i3⟩, A, c, rfl, hs⟩ := hr
      obtain ⟨Ag, cg, rfl, j1, j2, hst⟩ := ty_open ht
      exact pf_mk (t := ⟨y.1, y.2.1, y.2.2.1, y.2.2.2.1, y.2.2.2.2.1, y.2.2.2.2.2⟩) i1 ⟨j1, j2, i2, i3⟩ hl hst hs)
    (fun y => by
      show Pf.bulk ⟨y.1, y.2.1, y.2.2.1, y.2.2.2.1, y.2.2.2.2.1, y.2.2.2.2.2⟩ ≤ 1 + (((y.2.1.map Ty.size).sum + 1) + (Ty.size y.2.2.1 + (1 + (1 + ((y.2.2.2.2.2.map Pf.bulk).sum + 1)))))
      rw [Pf.bulk, pf_bulks, ty_bulks]; omega)
end Go.Proofs.Ytpmnlikgldacaaa

/- The walks of the statements about proofs, from nothing held. -/
namespace Go.Proofs.Ytpmnlikgldacaaa
open Go.RowKit Go.Maps
theorem law_pf {f : FuncId} {ps : List AV} (h : PF Try.prog f ps (bv true)) : Tri Try.prog f ps ⟨0, []⟩ (fun v _ => v = .p (.bool true)) := (h ⟨0, []⟩).mono fun _v _H' h => h.2
end Go.Proofs.Ytpmnlikgldacaaa

/- Print and Read of parts, by the program and by the document; the law SpeechParts. -/
namespace Go.Proofs.Ytpmnlikgldacaaa
open Go.RowKit Go.Maps
theorem mk_lit92 : ({ data := #[92] } : ByteArray) = mkB [92] := rfl
theorem mk_lit47 : ({ data := #[47] } : ByteArray) = mkB [47] := rfl
theorem mk_lit40 : ({ data := #[40] } : ByteArray) = mkB [40] := rfl
theorem mk_lit41 : ({ data := #[41] } : ByteArray) = mkB [41] := rfl
theorem c_Print (t : Ty) : PF Try.prog 20 [t.av] (.tup [sv (if t.check = 0 then t.txt else []), iv t.check]) := fun H => tri_wf fun hw => tri_speech_Print (by
  unfold S_speech_Print
  have hav : t.av = .agg t.cs := rfl
  rw [hav]
  simp (disch := first | omega | simp) [Ty.cs_len, Ty.cs_take]
  refine ca_pure (by kernel_rfl) (c_Check t _) ?_
  by_cases h : t.check = 0
  · simp (disch := first | omega | simp) [h, iv, Ty.cs_len, Ty.cs_take, put_get]
    refine ca_pure (by kernel_rfl) (c_text _ t (Nat.le_refl _) h _) ?_
    exact rt_one hw (by repeat (first | with_reducible assumption | with_reducible exact AH.le.refl _ | with_reducible apply AH.le.up | (with_reducible refine AH.le.put hw ?_ ?_; · first | omega | (simp only [up_nx, put_nx, kill_nx]; done) | (simp only [up_nx, put_nx, kill_nx]; omega)) | (with_reducible refine AH.le.kill hw ?_ ?_; · first | omega | (simp only [up_nx, put_nx, kill_nx]; done) | (simp only [up_nx, put_nx, kill_nx]; omega)))) (by repeat (first | exact Cl.p _ | exact Cl.dsl _ _ | exact Cl.any | refine Cl.tup ?_ | refine Cl.agg ?_ | exact Clo.nil | refine Clo.cons ?_ ?_)) ⟨rfl, rfl⟩
  · simp (disch := first | omega | simp) [h, iv, mk_nil]
    exact rt_one hw (by repeat (first | with_reducible assumption | with_reducible exact AH.le.refl _ | with_reducible apply AH.le.up | (with_reducible refine AH.le.put hw ?_ ?_; · first | omega | (simp only [up_nx, put_nx, kill_nx]; done) | (simp only [up_nx, put_nx, kill_nx]; omega)) | (with_reducible refine AH.le.kill hw ?_ ?_; · first | omega | (simp only [up_nx, put_nx, kill_nx]; done) | (simp only [up_nx, put_nx, kill_nx]; omega)))) (by repeat (first | exact Cl.p _ | exact Cl.dsl _ _ | exact Cl.any | refine Cl.tup ?_ | refine Cl.agg ?_ | exact Clo.nil | refine Clo.cons ?_ ?_)) ⟨rfl, rfl⟩)
set_option maxHeartbeats 1000000 in
theorem c_PartText (N : Nat) : ∀ t : Ty, t.size ≤ N → Good t → ∀ H : AH, Tri Try.prog 22 [t.av] H (fun r H' => H' = H ∧ r = sv t.txt) := by
  induction N with
  | zero => intro t ht; have := t.size_pos; omega
  | succ N ih =>
    intro t ht hg H
    have hml : maxLen = 9223372036854775807 := by decide
    refine tri_wf fun hw => tri_wordhoardref_PartText ?_
    unfold S_wordhoardref_PartText
    rcases hg.cases with ⟨n, rfl, h0, h9⟩ | ⟨x, y, rfl, hx, hy⟩ | ⟨y, x, rfl, hy, hx⟩
    · have hw1 : IntKind.i64.wrap (97 + n) = 97 + n := wrapI (by omega) (by omega)
      have hw2 : IntKind.u8.wrap (97 + n) = 97 + n := by
        have : n = 0 ∨ n = 1 ∨ n = 2 ∨ n = 3 ∨ n = 4 ∨ n = 5 ∨ n = 6 ∨ n = 7 ∨ n = 8 ∨ n = 9 := by omega
        rcases this with rfl | rfl | rfl | rfl | rfl | rfl | rfl | rfl | rfl | rfl <;> decide
      simp (disch := first | omega | simp) [Ty.av, Ty.cs_b, iv, hw1, hw2]
      refine ⟨mkB [(97 + n).toNat.toUInt8], ?_, ?_⟩
      · rw [strE_mk]
        have : n = 0 ∨ n = 1 ∨ n = 2 ∨ n = 3 ∨ n = 4 ∨ n = 5 ∨ n = 6 ∨ n = 7 ∨ n = 8 ∨ n = 9 := by omega
        rcases this with rfl | rfl | rfl | rfl | rfl | rfl | rfl | rfl | rfl | rfl <;> rfl
      · exact rt_one hw (by repeat (first | with_reducible assumption | with_reducible exact AH.le.refl _ | with_reducible apply AH.le.up | (with_reducible refine AH.le.put hw ?_ ?_; · first | omega | (simp only [up_nx, put_nx, kill_nx]; done) | (simp only [up_nx, put_nx, kill_nx]; omega)) | (with_reducible refine AH.le.kill hw ?_ ?_; · first | omega | (simp only [up_nx, put_nx, kill_nx]; done) | (simp only [up_nx, put_nx, kill_nx]; omega)))) (by repeat (first | exact Cl.p _ | exact Cl.dsl _ _ | exact Cl.any | refine Cl.tup ?_ | refine Cl.agg ?_ | exact Clo.nil | refine Clo.cons ?_ ?_)) ⟨rfl, by rw [Ty.txt_b]; rfl⟩
    · rw [Ty.size_o] at ht
      have l1 := hx.txt_len
      have l2 := hy.txt_len
      simp (disch := first | omega | simp) [Ty.av, Ty.cs_o, iv]
      generalize hMe : AH.put _ H.nx _ = M
      have hMl : H.le M := by rw [← hMe]; exact (by repeat (first | with_reducible assumption | with_reducible exact AH.le.refl _ | with_reducible apply AH.le.up | (with_reducible refine AH.le.put hw ?_ ?_; · first | omega | (simp only [up_nx, put_nx, kill_nx]; done) | (simp only [up_nx, put_nx, kill_nx]; omega)) | (with_reducible refine AH.le.kill hw ?_ ?_; · first | omega | (simp only [up_nx, put_nx, kill_nx]; done) | (simp only [up_nx, put_nx, kill_nx]; omega))))
      have hMg : M.get H.nx = some (.box 24 (Ty.o x y).cs) := by rw [← hMe, put_get, Ty.cs_o]; rfl
      clear hMe
      rw [Ty.cs_o] at hMg
      unfold iv at hMg
      refine cut_st (fun _ : Unit => [sv [47]]) (fun _ H' => M = H') (fun kk hkk => ?_) ?_
      · simp (disch := first | omega | simp) [hMg, mk_lit47]
        exact hkk () _ _ _ (.refl (Nat.le_refl _)) rfl
      rintro _ _ _ rfl
      unfold S_wordhoardref_PartText_K1 sv
      simp (disch := first | omega | simp) [hMg, Ty.cs_take, Ty.cs_len]
      refine cav_pure (by kernel_rfl) (fun H2 _ => ih x (by omega) hx H2) ?_
      simp (disch := first | omega | simp) [hMg, sv, Ty.cs_take, Ty.cs_len, mk_lit40, mk_lit41, mkB_app, mkB_size]
      refine ⟨by omega, by omega, cav_pure (by kernel_rfl) (fun H2 _ => ih y (by omega) hy H2) ?_⟩
      simp (disch := first | omega | simp) [sv, mkB_app, mkB_size]
      refine ⟨by omega, by omega, rt_one hw hMl (by repeat (first | exact Cl.p _ | exact Cl.dsl _ _ | exact Cl.any | refine Cl.tup ?_ | refine Cl.agg ?_ | exact Clo.nil | refine Clo.cons ?_ ?_)) ⟨rfl, by rw [Ty.txt_o]⟩⟩
    · rw [Ty.size_u] at ht
      have l1 := hx.txt_len
      have l2 := hy.txt_len
      simp (disch := first | omega | simp) [Ty.av, Ty.cs_u, iv]
      generalize hMe : AH.put _ H.nx _ = M
      have hMl : H.le M := by rw [← hMe]; exact (by repeat (first | with_reducible assumption | with_reducible exact AH.le.refl _ | with_reducible apply AH.le.up | (with_reducible refine AH.le.put hw ?_ ?_; · first | omega | (simp only [up_nx, put_nx, kill_nx]; done) | (simp only [up_nx, put_nx, kill_nx]; omega)) | (with_reducible refine AH.le.kill hw ?_ ?_; · first | omega | (simp only [up_nx, put_nx, kill_nx]; done) | (simp only [up_nx, put_nx, kill_nx]; omega))))
      have hMg : M.get H.nx = some (.box 24 (Ty.u y x).cs) := by rw [← hMe, put_get, Ty.cs_u]; rfl
      clear hMe
      rw [Ty.cs_u] at hMg
      unfold iv at hMg
      refine cut_st (fun _ : Unit => [sv [92]]) (fun _ H' => M = H') (fun kk hkk => ?_) ?_
      · simp (disch := first | omega | simp) [hMg, mk_lit92]
        exact hkk () _ _ _ (.refl (Nat.le_refl _)) rfl
      rintro _ _ _ rfl
      unfold S_wordhoardref_PartText_K1 sv
      simp (disch := first | omega | simp) [hMg, Ty.cs_take, Ty.cs_len]
      refine cav_pure (by kernel_rfl) (fun H2 _ => ih y (by omega) hy H2) ?_
      simp (disch := first | omega | simp) [hMg, sv, Ty.cs_take, Ty.cs_len, mk_lit40, mk_lit41, mkB_app, mkB_size]
      refine ⟨by omega, by omega, cav_pure (by kernel_rfl) (fun H2 _ => ih x (by omega) hx H2) ?_⟩
      simp (disch := first | omega | simp) [sv, mkB_app, mkB_size]
      refine ⟨by omega, by omega, rt_one hw hMl (by repeat (first | exact Cl.p _ | exact Cl.dsl _ _ | exact Cl.any | refine Cl.tup ?_ | refine Cl.agg ?_ | exact Clo.nil | refine Clo.cons ?_ ?_)) ⟨rfl, by rw [Ty.txt_u]⟩⟩
def rdAv (x : Ty × Int) : AV := .tup [x.1.av, iv x.2]
theorem Ty.cs_eq3 (t : Ty) : t.cs = [.p (.int .i64 t.kind), .p (.int .i64 t.num), .dsl 3 (t.kids.map Ty.cs)] := Ty.cs_eq t
/-- a number beside a part without kids -/
theorem rt_tn {P : Program} {H0 H1 : AH} {Q : AV → AH → Prop} {k n e : Int} (hw : WF H0) (h0 : H0.le H1) (hn : H0.nx ≤ H1.nx) (hq : Q (.tup [(⟨k, n, []⟩ : Ty).av, iv e]) H0) : Rt P H0.nx (.tup [.agg [.p (.int .i64 k), .p (.int .i64 n), .p (.slice none 0 0)], .p (.int .i64 e)]) Q H1 := by
  rw [ty0_av] at hq
  exact rt_sub hw h0 hn (Sub.tup (.cons (Sub.agg (.cons (.refl _) (.cons (.refl _) (.cons (Sub.nil 3 0 (Nat.zero_le _)) .nil)))) (.cons (.refl _) .nil))) (by repeat (first | exact Cl.p _ | exact Cl.dsl _ _ | exact Cl.any | refine Cl.tup ?_ | refine Cl.agg ?_ | exact Clo.nil | refine Clo.cons ?_ ?_)) hq
theorem c_Read (s : List UInt8) : PF Try.prog 23 [sv s] (rdAv (readV s)) := fun H => tri_wf fun hw => tri_speech_Read (by
  unfold S_speech_Read sv
  simp (disch := first | omega | simp)
  obtain ⟨r, hr⟩ : ∃ r, r = H.nx + 2 + 2 := ⟨_, rfl⟩
  rw [← hr]
  generalize hMe : AH.put _ r _ = M
  have hMl : H.le M := by rw [← hMe]; exact (by repeat (first | with_reducible assumption | with_reducible exact AH.le.refl _ | with_reducible apply AH.le.up | (with_reducible refine AH.le.put hw ?_ ?_; · first | omega | (simp only [up_nx, put_nx, kill_nx]; done) | (simp only [up_nx, put_nx, kill_nx]; omega)) | (with_reducible refine AH.le.kill hw ?_ ?_; · first | omega | (simp only [up_nx, put_nx, kill_nx]; done) | (simp only [up_nx, put_nx, kill_nx]; omega))))
  have hMn : M.nx = H.nx + 6 := by rw [← hMe]; rfl
  have hMb : M.get H.nx = some (.box 24 [.p (.int .i64 0), .p (.int .i64 0), .p (.slice none 0 0)]) := by rw [← hMe]; simp (disch := first | omega | simp) [put_get_ne]
  have hMr : M.get r = some (.box 82 [sv s]) := by rw [← hMe, put_get]; rfl
  clear hMe
  refine ca_wf (by kernel_rfl) (c_part (s.length + 1) s (Nat.lt_succ_self _) r _ (by rw [up_get]; exact hMr)) ?_
  rintro _ H2 hw2 ⟨rfl, hk⟩
  unfold readV
  obtain ⟨⟨A, ok, u⟩, hA⟩ : ∃ x, rdP (s.length + 1) s = x := ⟨_, rfl⟩
  rw [hA] at hk ⊢
  dsimp only at hk ⊢
  have hn2 : M.nx + 8 ≤ H2.nx := hk.1
  have hl2 : H.le H2 := fun j o ho => by
    have := (hw _ _ ho).1
    rw [hk.2.2 j (by omega) (by simp only [up_nx]; omega), up_get]
    exact hMl _ _ ho
  have hb2 : H2.get H.nx = _ := (hk.2.2 _ (by omega) (by simp only [up_nx]; omega)).trans hMb
  have hr2 := hk.2.1
  unfold sv at hr2
  have hAv : A.av = .agg A.cs := rfl
  have hrk : r ≠ M.nx + 5 := by omega
  rw [hAv]
  cases ok with
  | false =>
    rw [if_neg (by simp)]
    simp (disch := first | omega | simp) [bv, put_get_ne, Ty.cs_len, hb2]
    exact rt_tn (k := 0) (n := 0) (e := 1) hw (by repeat (first | with_reducible assumption | with_reducible exact AH.le.refl _ | with_reducible apply AH.le.up | (with_reducible refine AH.le.put hw ?_ ?_; · first | omega | (simp only [up_nx, put_nx, kill_nx]; done) | (simp only [up_nx, put_nx, kill_nx]; omega)) | (with_reducible refine AH.le.kill hw ?_ ?_; · first | omega | (simp only [up_nx, put_nx, kill_nx]; done) | (simp only [up_nx, put_nx, kill_nx]; omega)))) (by first | omega | (simp only [up_nx, put_nx]; done) | (simp only [up_nx, put_nx]; omega)) ⟨rfl, rfl⟩
  | true =>
    cases u with
    | cons c v =>
      rw [if_neg (by simp)]
      simp (disch := first | omega | simp) [bv, put_get_ne, Ty.cs_len, hb2, hr2, mk_nil, mkB_toList]
      exact rt_tn (k := 0) (n := 0) (e := 1) hw (by repeat (first | with_reducible assumption | with_reducible exact AH.le.refl _ | with_reducible apply AH.le.up | (with_reducible refine AH.le.put hw ?_ ?_; · first | omega | (simp only [up_nx, put_nx, kill_nx]; done) | (simp only [up_nx, put_nx, kill_nx]; omega)) | (with_reducible refine AH.le.kill hw ?_ ?_; · first | omega | (simp only [up_nx, put_nx, kill_nx]; done) | (simp only [up_nx, put_nx, kill_nx]; omega)))) (by first | omega | (simp only [up_nx, put_nx]; done) | (simp only [up_nx, put_nx]; omega)) ⟨rfl, rfl⟩
    | nil =>
      rw [if_pos ⟨rfl, rfl⟩]
      simp (disch := first | omega | simp) [bv, put_get_ne, Ty.cs_len, hr2, mk_nil, mkB_toList, Ty.cs_take]
      refine ca_pure (by kernel_rfl) (c_count A 15 (by decide) (by decide) _) ?_
      by_cases h15 : 15 < A.size
      · have hc : capN A.size 15 = 16 := by unfold capN; rw [if_neg (by omega)]; rfl
        rw [if_pos h15, hc]
        simp (disch := first | omega | simp) [iv, put_get_ne, hb2]
        exact rt_tn (k := 0) (n := 0) (e := 7) hw (by repeat (first | with_reducible assumption | with_reducible exact AH.le.refl _ | with_reducible apply AH.le.up | (with_reducible refine AH.le.put hw ?_ ?_; · first | omega | (simp only [up_nx, put_nx, kill_nx]; done) | (simp only [up_nx, put_nx, kill_nx]; omega)) | (with_reducible refine AH.le.kill hw ?_ ?_; · first | omega | (simp only [up_nx, put_nx, kill_nx]; done) | (simp only [up_nx, put_nx, kill_nx]; omega)))) (by first | omega | (simp only [up_nx, put_nx]; done) | (simp only [up_nx, put_nx]; omega)) ⟨rfl, rfl⟩
      · have hc : capN A.size 15 = (A.size : Int) := by unfold capN; rw [if_pos (by omega)]
        have hc2 : ¬ (15 : Int) < (A.size : Int) := by omega
        rw [if_neg h15, hc]
        simp (disch := first | omega | simp) [iv, put_get_ne, hb2, hc2, Ty.cs_len, Ty.cs_take]
        refine rt_one hw (by repeat (first | with_reducible assumption | with_reducible exact AH.le.refl _ | with_reducible apply AH.le.up | (with_reducible refine AH.le.put hw ?_ ?_; · first | omega | (simp only [up_nx, put_nx, kill_nx]; done) | (simp only [up_nx, put_nx, kill_nx]; omega)) | (with_reducible refine AH.le.kill hw ?_ ?_; · first | omega | (simp only [up_nx, put_nx, kill_nx]; done) | (simp only [up_nx, put_nx, kill_nx]; omega)))) ?_ ⟨rfl, rfl⟩
        rw [Ty.cs_eq]
        exact (by repeat (first | exact Cl.p _ | exact Cl.dsl _ _ | exact Cl.any | refine Cl.tup ?_ | refine Cl.agg ?_ | exact Clo.nil | refine Clo.cons ?_ ?_)))
end Go.Proofs.Ytpmnlikgldacaaa

/- Reading parts, by the document; the law SpeechParts. -/
namespace Go.Proofs.Ytpmnlikgldacaaa
open Go.RowKit Go.Maps
def endI : Option Nat → Int
  | some e => (e : Int)
  | none => -1
theorem atP_end {n : Nat} {s : List UInt8} {k e : Nat} (h : (atP n s k).2 = some e) : e ≤ s.length := by
  have := atP_rdP n s k
  rw [h] at this
  exact this.2
theorem atP_gt : ∀ (n : Nat) (s : List UInt8) (k e : Nat), (atP n s k).2 = some e → k < e
  | 0, s, k, e, h => by cases h
  | n + 1, s, k, e, h => by
    rw [atP] at h
    cases hc : s[k]? with
    | none => rw [hc] at h; cases h
    | some c =>
      rw [hc] at h
      dsimp only at h
      split at h
      · injection h with h; omega
      · split at h
        · cases h1 : (atP n s (k + 1)).2 with
          | none => rw [h1] at h; cases h
          | some m =>
            have g1 := atP_gt n s (k + 1) m h1
            rw [h1] at h
            dsimp only at h
            cases hd : s[m]? with
            | none => rw [hd] at h; cases h
            | some d =>
              rw [hd] at h
              dsimp only at h
              split at h
              · cases h2 : (atP n s (m + 1)).2 with
                | none => rw [h2] at h; cases h
                | some e2 =>
                  have g2 := atP_gt n s (m + 1) e2 h2
                  rw [h2] at h
                  dsimp only at h
                  cases hx : s[e2]? with
                  | none => rw [hx] at h; cases h
                  | some x =>
                    rw [hx] at h
                    dsimp only at h
                    split at h
                    · injection h with h; omega
                    · cases h
              · cases h
        · cases h
theorem rt_end {P : Program} {H0 H1 : AH} {Q : AV → AH → Prop} {k n : Int} {e : Int} (hw : WF H0) (h0 : H0.le H1) (hn : H0.nx ≤ H1.nx) (hq : Q (.tup [(⟨k, n, []⟩ : Ty).av, iv e]) H0) : Rt P H0.nx (.tup [.agg [.p (.int .i64 k), .p (.int .i64 n), .p (.slice none 0 0)], .p (.int .i64 e)]) Q H1 := rt_tn hw h0 hn hq
/-- two kids in a row of its own, and a number -/
theorem rt_tn2 {P : Program} {H0 H1 : AH} {Q : AV → AH → Prop} {k n e : Int} {x y : Ty} {q : Nat} (hw : WF H0) (h0 : H0.le H1) (hn : H0.nx ≤ H1.nx) (hqn : H0.nx ≤ q) (hg : H1.get q = some (.row 24 3 [x.cs, y.cs])) (hq : Q (.tup [(⟨k, n, [x, y]⟩ : Ty).av, iv e]) H0) : Rt P H0.nx (.tup [.agg [.p (.int .i64 k), .p (.int .i64 n), .osl q 3 0 2], .p (.int .i64 e)]) Q H1 := by
  have hd : DtR [x.cs, y.cs] := by have := dt_ty [x, y]; simpa using this
  refine Gh.step (GW.st (.freeze hg hd) hn) ?_
  rw [ty2_av] at hq
  exact rt_sub hw (AH.le.put hw hqn h0) (by simp only [put_nx]; exact hn) (Sub.tup (.cons (Sub.agg (.cons (.refl _) (.cons (.refl _) (.cons (Sub.frz (es := [x.cs, y.cs]) (off := 0) (n := 2) (put_get _ _) (Nat.le_refl _)) .nil)))) (.cons (.refl _) .nil))) (by repeat (first | exact Cl.p _ | exact Cl.dsl _ _ | exact Cl.any | refine Cl.tup ?_ | refine Cl.agg ?_ | exact Clo.nil | refine Clo.cons ?_ ?_)) hq
set_option maxHeartbeats 2000000 in
theorem c_partAt : ∀ (n : Nat) (s : List UInt8) (k : Nat), s.length < n + k → k ≤ s.length → s.length ≤ 9223372036854775807 → ∀ H : AH, Tri Try.prog 56 [sv s, iv k] H (fun r H' => H' = H ∧ r = .tup [(atP n s k).1.av, iv (endI (atP n s k).2)])
  | 0, s, k, h, h2, _, _ => by omega
  | n + 1, s, k, h, h2, hm, H => tri_wf fun hw => tri_wordhoardref_partAt (by
    have hml : maxLen = 9223372036854775807 := by decide
    have hk0 : ¬ (k : Int) < 0 := by omega
    unfold S_wordhoardref_partAt sv
    rw [atP]
    cases hc : s[k]? with
    | none =>
      have hkl : (s.length : Int) ≤ (k : Int) := by have := List.getElem?_eq_none_iff.1 hc; omega
      simp (disch := first | omega | simp) [iv, hk0, mkB_size, hkl]
      exact rt_tn (k := 0) (n := 0) (e := -1) hw (by repeat (first | with_reducible assumption | with_reducible exact AH.le.refl _ | with_reducible apply AH.le.up | (with_reducible refine AH.le.put hw ?_ ?_; · first | omega | (simp only [up_nx, put_nx, kill_nx]; done) | (simp only [up_nx, put_nx, kill_nx]; omega)) | (with_reducible refine AH.le.kill hw ?_ ?_; · first | omega | (simp only [up_nx, put_nx, kill_nx]; done) | (simp only [up_nx, put_nx, kill_nx]; omega)))) (by first | omega | (simp only [up_nx, put_nx]; done) | (simp only [up_nx, put_nx]; omega)) ⟨rfl, rfl⟩
    | some c =>
    have hkl := (List.getElem?_eq_some_iff.1 hc).1
    have hcg : ∀ h, s[k]'h = c := fun h => (List.getElem?_eq_some_iff.1 hc).2
    have hkl2 : ¬ (s.length : Int) ≤ (k : Int) := by omega
    have hcl : c.toNat < 256 := c.toNat_lt
    have hk1 := ivn (i := k) (by omega)
    simp (disch := first | omega | simp) [iv, hk0, mkB_size, hkl2]
    unfold S_wordhoardref_partAt_C4
    by_cases hl : isLet c = true
    · rw [if_pos hl]
      obtain ⟨l1, l2⟩ := (let_eq c).1 hl
      have w1 : IntKind.i64.wrap ((c.toNat : Int) - 97) = (c.toNat : Int) - 97 := wrapI (by omega) (by omega)
      have w2 : IntKind.i64.wrap (c.toNat : Int) = (c.toNat : Int) := wrapI (by omega) (by omega)
      simp (disch := first | omega | simp) [mkB_get, hcg, l1, l2, w1, w2, hk1]
      exact rt_tn (k := 1) (n := (c.toNat : Int) - 97) (e := ((k + 1 : Nat) : Int)) hw (by repeat (first | with_reducible assumption | with_reducible exact AH.le.refl _ | with_reducible apply AH.le.up | (with_reducible refine AH.le.put hw ?_ ?_; · first | omega | (simp only [up_nx, put_nx, kill_nx]; done) | (simp only [up_nx, put_nx, kill_nx]; omega)) | (with_reducible refine AH.le.kill hw ?_ ?_; · first | omega | (simp only [up_nx, put_nx, kill_nx]; done) | (simp only [up_nx, put_nx, kill_nx]; omega)))) (by first | omega | (simp only [up_nx, put_nx]; done) | (simp only [up_nx, put_nx]; omega)) ⟨rfl, rfl⟩
    rw [if_neg hl]
    have hl2 : ¬ ((97 : Int) ≤ (c.toNat : Int) ∧ (c.toNat : Int) ≤ 106) := fun h => hl ((let_eq c).2 h)
    generalize hMe : AH.put _ H.nx _ = M
    have hMl : H.le M := by rw [← hMe]; exact (by repeat (first | with_reducible assumption | with_reducible exact AH.le.refl _ | with_reducible apply AH.le.up | (with_reducible refine AH.le.put hw ?_ ?_; · first | omega | (simp only [up_nx, put_nx, kill_nx]; done) | (simp only [up_nx, put_nx, kill_nx]; omega)) | (with_reducible refine AH.le.kill hw ?_ ?_; · first | omega | (simp only [up_nx, put_nx, kill_nx]; done) | (simp only [up_nx, put_nx, kill_nx]; omega))))
    have hMn : M.nx = H.nx + 2 := by rw [← hMe]; rfl
    have hMb : M.get H.nx = some (.box 24 [.p (.int .i64 0), .p (.int .i64 0), .p (.slice none 0 0)]) := by rw [← hMe, put_get]
    clear hMe
    have hzero : ∀ (m : Nat) (M' : AH), H.le M' → H.nx ≤ M'.nx → Rt Try.prog H.nx (.tup [.agg [.p (.int .i64 0), .p (.int .i64 0), .p (.slice none 0 0)], .p (.int .i64 (-1))]) (fun r H' => H' = H ∧ r = .tup [zT.av, iv (endI none)]) M' := fun m M' h1 h2 => rt_tn (Q := fun r H' => H' = H ∧ r = .tup [zT.av, iv (endI none)]) (k := 0) (n := 0) (e := -1) hw h1 h2 ⟨rfl, rfl⟩
    by_cases h40 : c = 40
    case neg =>
      rw [if_neg h40]
      have h40' : ¬ (c.toNat : Int) = 40 := fun h => h40 ((u8_eq c 40).1 h)
      by_cases q1 : (97 : Int) ≤ (c.toNat : Int)
      · have q2 : ¬ (c.toNat : Int) ≤ 106 := fun h => hl2 ⟨q1, h⟩
        simp (disch := first | omega | simp) [mkB_get, hcg, q1, q2, h40', hMb]
        exact hzero 0 _ (by repeat (first | with_reducible assumption | with_reducible exact AH.le.refl _ | with_reducible apply AH.le.up | (with_reducible refine AH.le.put hw ?_ ?_; · first | omega | (simp only [up_nx, put_nx, kill_nx]; done) | (simp only [up_nx, put_nx, kill_nx]; omega)) | (with_reducible refine AH.le.kill hw ?_ ?_; · first | omega | (simp only [up_nx, put_nx, kill_nx]; done) | (simp only [up_nx, put_nx, kill_nx]; omega)))) (by first | omega | (simp only [up_nx, put_nx]; done) | (simp only [up_nx, put_nx]; omega))
      · simp (disch := first | omega | simp) [mkB_get, hcg, q1, h40', hMb]
        exact hzero 0 _ (by repeat (first | with_reducible assumption | with_reducible exact AH.le.refl _ | with_reducible apply AH.le.up | (with_reducible refine AH.le.put hw ?_ ?_; · first | omega | (simp only [up_nx, put_nx, kill_nx]; done) | (simp only [up_nx, put_nx, kill_nx]; omega)) | (with_reducible refine AH.le.kill hw ?_ ?_; · first | omega | (simp only [up_nx, put_nx, kill_nx]; done) | (simp only [up_nx, put_nx, kill_nx]; omega)))) (by first | omega | (simp only [up_nx, put_nx]; done) | (simp only [up_nx, put_nx]; omega))
    rw [if_pos h40]
    have h40' : (c.toNat : Int) = 40 := (u8_eq c 40).2 h40
    simp (disch := first | omega | simp) [mkB_get, hcg, h40']
    unfold S_wordhoardref_partAt_C3
    simp (disch := first | omega | simp) [hk1]
    refine ca_pure (by kernel_rfl) (c_partAt n s (k + 1) (by omega) hkl hm _) ?_
    obtain ⟨⟨A, mo⟩, hA⟩ : ∃ x, atP n s (k + 1) = x := ⟨_, rfl⟩
    have hme : ∀ m, mo = some m → m ≤ s.length := fun m e => atP_end (n := n) (s := s) (k := k + 1) (by rw [hA]; exact e)
    rw [hA]
    dsimp only
    have hAv : A.av = .agg A.cs := rfl
    rw [hAv]
    cases mo with
    | none =>
      have e1 : endI none = -1 := rfl
      simp (disch := first | omega | simp) [iv, e1, Ty.cs_len, put_get_ne, hMb]
      exact hzero 0 _ (by repeat (first | with_reducible assumption | with_reducible exact AH.le.refl _ | with_reducible apply AH.le.up | (with_reducible refine AH.le.put hw ?_ ?_; · first | omega | (simp only [up_nx, put_nx, kill_nx]; done) | (simp only [up_nx, put_nx, kill_nx]; omega)) | (with_reducible refine AH.le.kill hw ?_ ?_; · first | omega | (simp only [up_nx, put_nx, kill_nx]; done) | (simp only [up_nx, put_nx, kill_nx]; omega)))) (by first | omega | (simp only [up_nx, put_nx]; done) | (simp only [up_nx, put_nx]; omega))
    | some m =>
    have hml2 := hme m rfl
    have e1 : endI (some m) = (m : Int) := rfl
    have hm0 : ¬ (m : Int) < 0 := by omega
    dsimp only
    cases hd : s[m]? with
    | none =>
      have q1 : (s.length : Int) ≤ (m : Int) := by have := List.getElem?_eq_none_iff.1 hd; omega
      simp (disch := first | omega | simp) [iv, e1, Ty.cs_len, put_get_ne, hMb, hm0, mkB_size, q1]
      exact hzero 0 _ (by repeat (first | with_reducible assumption | with_reducible exact AH.le.refl _ | with_reducible apply AH.le.up | (with_reducible refine AH.le.put hw ?_ ?_; · first | omega | (simp only [up_nx, put_nx, kill_nx]; done) | (simp only [up_nx, put_nx, kill_nx]; omega)) | (with_reducible refine AH.le.kill hw ?_ ?_; · first | omega | (simp only [up_nx, put_nx, kill_nx]; done) | (simp only [up_nx, put_nx, kill_nx]; omega)))) (by first | omega | (simp only [up_nx, put_nx]; done) | (simp only [up_nx, put_nx]; omega))
    | some d =>
    have hml3 := (List.getElem?_eq_some_iff.1 hd).1
    have hdg : ∀ h, s[m]'h = d := fun h => (List.getElem?_eq_some_iff.1 hd).2
    have q1 : ¬ (s.length : Int) ≤ (m : Int) := by omega
    dsimp only
    by_cases hs : d = 47 ∨ d = 92
    case neg =>
      rw [if_neg hs]
      have s1 : ¬ (d.toNat : Int) = 47 := fun h => hs (.inl ((u8_eq d 47).1 h))
      have s2 : ¬ (d.toNat : Int) = 92 := fun h => hs (.inr ((u8_eq d 92).1 h))
      simp (disch := first | omega | simp) [iv, e1, Ty.cs_len, put_get_ne, hMb, hm0, mkB_size, q1, mkB_get, hdg, s1, s2]
      exact hzero 0 _ (by repeat (first | with_reducible assumption | with_reducible exact AH.le.refl _ | with_reducible apply AH.le.up | (with_reducible refine AH.le.put hw ?_ ?_; · first | omega | (simp only [up_nx, put_nx, kill_nx]; done) | (simp only [up_nx, put_nx, kill_nx]; omega)) | (with_reducible refine AH.le.kill hw ?_ ?_; · first | omega | (simp only [up_nx, put_nx, kill_nx]; done) | (simp only [up_nx, put_nx, kill_nx]; omega)))) (by first | omega | (simp only [up_nx, put_nx]; done) | (simp only [up_nx, put_nx]; omega))
    rw [if_pos hs]
    have hm1 := ivn (i := m) (by omega)
    have hkm := atP_gt n s (k + 1) m (by rw [hA])
    have hC2 : ∀ M4 : AH, H.le M4 → M4.nx = M.nx + 10 → M4.get H.nx = some (.box 24 [.p (.int .i64 0), .p (.int .i64 0), .p (.slice none 0 0)]) → M4.get (M.nx + 7) = some (.box 24 A.cs) →
        S_wordhoardref_partAt_C2 (.p (.string (mkB s))) (fun r H' => H' = H ∧ r = .tup [(match (atP n s (m + 1)).2 with
              | none => ((zT, none) : Ty × Option Nat)
              | some e => match s[e]? with
                | none => (zT, none)
                | some x => if x = 41 then (⟨if d = 92 then 3 else 2, 0, [A, (atP n s (m + 1)).1]⟩, some (e + 1)) else (zT, none)).1.av, iv (endI (match (atP n s (m + 1)).2 with
              | none => ((zT, none) : Ty × Option Nat)
              | some e => match s[e]? with
                | none => (zT, none)
                | some x => if x = 41 then (⟨if d = 92 then 3 else 2, 0, [A, (atP n s (m + 1)).1]⟩, some (e + 1)) else (zT, none)).2)]) H (.ptr H.nx 0) (.p (.int .i64 m)) (.ptr (M.nx + 7) 0) M4 := fun M4 hl4 hn4 hb4 hA4 => by
      unfold S_wordhoardref_partAt_C2
      simp (disch := first | omega | simp) [hm1]
      clear hm1 hk1
      refine ca_pure (by kernel_rfl) (c_partAt n s (m + 1) (by omega) hml3 hm _) ?_
      obtain ⟨⟨E, eo⟩, hE⟩ : ∃ x, atP n s (m + 1) = x := ⟨_, rfl⟩
      have hee : ∀ m', eo = some m' → m' ≤ s.length := fun m' e => atP_end (n := n) (s := s) (k := m + 1) (by rw [hE]; exact e)
      rw [hE]
      dsimp only
      have hEv : E.av = .agg E.cs := rfl
      rw [hEv]
      cases eo with
      | none =>
        have e2 : endI none = -1 := rfl
        simp (disch := first | omega | simp) [iv, e2, Ty.cs_len, put_get_ne, hb4]
        exact hzero 0 _ (by repeat (first | with_reducible assumption | with_reducible exact AH.le.refl _ | with_reducible apply AH.le.up | (with_reducible refine AH.le.put hw ?_ ?_; · first | omega | (simp only [up_nx, put_nx, kill_nx]; done) | (simp only [up_nx, put_nx, kill_nx]; omega)) | (with_reducible refine AH.le.kill hw ?_ ?_; · first | omega | (simp only [up_nx, put_nx, kill_nx]; done) | (simp only [up_nx, put_nx, kill_nx]; omega)))) (by first | omega | (simp only [up_nx, put_nx]; done) | (simp only [up_nx, put_nx]; omega))
      | some e =>
      have hel := hee e rfl
      have e2 : endI (some e) = (e : Int) := rfl
      have he0 : ¬ (e : Int) < 0 := by omega
      dsimp only
      cases hx : s[e]? with
      | none =>
        have q2 : (s.length : Int) ≤ (e : Int) := by have := List.getElem?_eq_none_iff.1 hx; omega
        simp (disch := first | omega | simp) [iv, e2, Ty.cs_len, put_get_ne, hb4, he0, mkB_size, q2]
        exact hzero 0 _ (by repeat (first | with_reducible assumption | with_reducible exact AH.le.refl _ | with_reducible apply AH.le.up | (with_reducible refine AH.le.put hw ?_ ?_; · first | omega | (simp only [up_nx, put_nx, kill_nx]; done) | (simp only [up_nx, put_nx, kill_nx]; omega)) | (with_reducible refine AH.le.kill hw ?_ ?_; · first | omega | (simp only [up_nx, put_nx, kill_nx]; done) | (simp only [up_nx, put_nx, kill_nx]; omega)))) (by first | omega | (simp only [up_nx, put_nx]; done) | (simp only [up_nx, put_nx]; omega))
      | some x =>
      have hel2 := (List.getElem?_eq_some_iff.1 hx).1
      have hxg : ∀ h, s[e]'h = x := fun h => (List.getElem?_eq_some_iff.1 hx).2
      have q2 : ¬ (s.length : Int) ≤ (e : Int) := by omega
      dsimp only
      by_cases h41 : x = 41
      case neg =>
        rw [if_neg h41]
        have s2 : ¬ (x.toNat : Int) = 41 := fun h => h41 ((u8_eq x 41).1 h)
        simp (disch := first | omega | simp) [iv, e2, Ty.cs_len, put_get_ne, hb4, he0, mkB_size, q2, mkB_get, hxg, s2]
        exact hzero 0 _ (by repeat (first | with_reducible assumption | with_reducible exact AH.le.refl _ | with_reducible apply AH.le.up | (with_reducible refine AH.le.put hw ?_ ?_; · first | omega | (simp only [up_nx, put_nx, kill_nx]; done) | (simp only [up_nx, put_nx, kill_nx]; omega)) | (with_reducible refine AH.le.kill hw ?_ ?_; · first | omega | (simp only [up_nx, put_nx, kill_nx]; done) | (simp only [up_nx, put_nx, kill_nx]; omega)))) (by first | omega | (simp only [up_nx, put_nx]; done) | (simp only [up_nx, put_nx]; omega))
      rw [if_pos h41]
      have s2 : (x.toNat : Int) = 41 := (u8_eq x 41).2 h41
      have he1 := ivn (i := e) (by omega)
      simp (disch := first | omega | simp) [iv, e2, Ty.cs_len, he0, mkB_size, q2, mkB_get, hxg, s2]
      unfold S_wordhoardref_partAt_C1
      rcases hs with hs | hs
      · have s1 : (d.toNat : Int) = 47 := (u8_eq d 47).2 hs
        simp (disch := first | omega | simp) [Ty.cs_len, put_get_ne, hb4, hA4, mkB_get, hdg, s1, he1, tk3, td3, Ty.cs_take]
        have hd92 : ¬ d = 92 := by rw [hs]; decide
        rw [if_neg hd92]
        have hq : H.nx ≠ M4.nx + 10 + 3 := by omega
        refine rt_tn2 (x := A) (y := E) (k := 2) (n := 0) (e := ((e : Int) + 1)) hw (by repeat (first | with_reducible assumption | with_reducible exact AH.le.refl _ | with_reducible apply AH.le.up | (with_reducible refine AH.le.put hw ?_ ?_; · first | omega | (simp only [up_nx, put_nx, kill_nx]; done) | (simp only [up_nx, put_nx, kill_nx]; omega)) | (with_reducible refine AH.le.kill hw ?_ ?_; · first | omega | (simp only [up_nx, put_nx, kill_nx]; done) | (simp only [up_nx, put_nx, kill_nx]; omega)))) (by first | omega | (simp only [up_nx, put_nx]; done) | (simp only [up_nx, put_nx]; omega)) (by omega) (by rw [AH.get_put_ne (Ne.symm hq), put_get]) ⟨rfl, rfl⟩
      · have s1 : (d.toNat : Int) = 92 := (u8_eq d 92).2 hs
        simp (disch := first | omega | simp) [Ty.cs_len, put_get_ne, hb4, hA4, mkB_get, hdg, s1, he1, tk3, td3, Ty.cs_take]
        rw [if_pos hs]
        have hq : H.nx ≠ M4.nx + 10 + 3 := by omega
        refine rt_tn2 (x := A) (y := E) (k := 3) (n := 0) (e := ((e : Int) + 1)) hw (by repeat (first | with_reducible assumption | with_reducible exact AH.le.refl _ | with_reducible apply AH.le.up | (with_reducible refine AH.le.put hw ?_ ?_; · first | omega | (simp only [up_nx, put_nx, kill_nx]; done) | (simp only [up_nx, put_nx, kill_nx]; omega)) | (with_reducible refine AH.le.kill hw ?_ ?_; · first | omega | (simp only [up_nx, put_nx, kill_nx]; done) | (simp only [up_nx, put_nx, kill_nx]; omega)))) (by first | omega | (simp only [up_nx, put_nx]; done) | (simp only [up_nx, put_nx]; omega)) (by omega) (by rw [AH.get_put_ne (Ne.symm hq), put_get]) ⟨rfl, rfl⟩
    rcases hs with hs | hs
    · have s1 : (d.toNat : Int) = 47 := (u8_eq d 47).2 hs
      simp (disch := first | omega | simp) [iv, e1, Ty.cs_len, hm0, mkB_size, q1, mkB_get, hdg, s1]
      exact hC2 _ (by repeat (first | with_reducible assumption | with_reducible exact AH.le.refl _ | with_reducible apply AH.le.up | (with_reducible refine AH.le.put hw ?_ ?_; · first | omega | (simp only [up_nx, put_nx, kill_nx]; done) | (simp only [up_nx, put_nx, kill_nx]; omega)) | (with_reducible refine AH.le.kill hw ?_ ?_; · first | omega | (simp only [up_nx, put_nx, kill_nx]; done) | (simp only [up_nx, put_nx, kill_nx]; omega)))) rfl (by simp (disch := first | omega | simp) [put_get_ne, hMb]) (by simp (disch := first | omega | simp))
    · have s1 : (d.toNat : Int) = 92 := (u8_eq d 92).2 hs
      simp (disch := first | omega | simp) [iv, e1, Ty.cs_len, hm0, mkB_size, q1, mkB_get, hdg, s1]
      exact hC2 _ (by repeat (first | with_reducible assumption | with_reducible exact AH.le.refl _ | with_reducible apply AH.le.up | (with_reducible refine AH.le.put hw ?_ ?_; · first | omega | (simp only [up_nx, put_nx, kill_nx]; done) | (simp only [up_nx, put_nx, kill_nx]; omega)) | (with_reducible refine AH.le.kill hw ?_ ?_; · first | omega | (simp only [up_nx, put_nx, kill_nx]; done) | (simp only [up_nx, put_nx, kill_nx]; omega)))) rfl (by simp (disch := first | omega | simp) [put_get_ne, hMb]) (by simp (disch := first | omega | simp)))
theorem c_ReadPart (s : List UInt8) (hm : s.length ≤ 9223372036854775807) : PF Try.prog 24 [sv s] (rdAv (readR s)) := fun H => tri_wf fun hw => tri_wordhoardref_ReadPart (by
  unfold S_wordhoardref_ReadPart sv
  simp (disch := first | omega | simp)
  have h0 : (AV.p (.int .i64 0)) = iv ((0 : Nat) : Int) := rfl
  rw [h0]
  refine ca_pure (by kernel_rfl) (c_partAt (s.length + 1) s 0 (by omega) (by omega) hm _) ?_
  unfold readR
  obtain ⟨⟨A, eo⟩, hA⟩ : ∃ x, atP (s.length + 1) s 0 = x := ⟨_, rfl⟩
  have hee : ∀ m', eo = some m' → m' ≤ s.length := fun m' e => atP_end (n := s.length + 1) (s := s) (k := 0) (by rw [hA]; exact e)
  rw [hA]
  dsimp only
  have hAv : A.av = .agg A.cs := rfl
  rw [hAv]
  by_cases he : eo = some s.length
  case neg =>
    rw [if_neg he]
    have hne : ¬ endI eo = (s.length : Int) := fun h => he (by
      cases eo with
      | none => have : endI none = -1 := rfl
                rw [this] at h; omega
      | some e => have : endI (some e) = (e : Int) := rfl
                  rw [this] at h
                  congr 1; omega)
    simp (disch := first | omega | simp) [iv, put_get_ne, Ty.cs_len, mkB_size, hne]
    exact rt_tn (k := 0) (n := 0) (e := 1) hw (by repeat (first | with_reducible assumption | with_reducible exact AH.le.refl _ | with_reducible apply AH.le.up | (with_reducible refine AH.le.put hw ?_ ?_; · first | omega | (simp only [up_nx, put_nx, kill_nx]; done) | (simp only [up_nx, put_nx, kill_nx]; omega)) | (with_reducible refine AH.le.kill hw ?_ ?_; · first | omega | (simp only [up_nx, put_nx, kill_nx]; done) | (simp only [up_nx, put_nx, kill_nx]; omega)))) (by first | omega | (simp only [up_nx, put_nx]; done) | (simp only [up_nx, put_nx]; omega)) ⟨rfl, rfl⟩
  rw [if_pos he, he]
  have e2 : endI (some s.length) = (s.length : Int) := rfl
  simp (disch := first | omega | simp) [iv, Ty.cs_len, mkB_size, e2, Ty.cs_take]
  refine ca_pure (by kernel_rfl) (c_RPartSize _ A (Nat.le_refl _) 15 _ (by decide) (by decide)) ?_
  by_cases h15 : 15 < A.size
  · have hc : capN A.size 15 = 16 := by unfold capN; rw [if_neg (by omega)]; rfl
    rw [if_pos h15, hc]
    simp (disch := first | omega | simp) [iv, put_get_ne]
    exact rt_tn (k := 0) (n := 0) (e := 7) hw (by repeat (first | with_reducible assumption | with_reducible exact AH.le.refl _ | with_reducible apply AH.le.up | (with_reducible refine AH.le.put hw ?_ ?_; · first | omega | (simp only [up_nx, put_nx, kill_nx]; done) | (simp only [up_nx, put_nx, kill_nx]; omega)) | (with_reducible refine AH.le.kill hw ?_ ?_; · first | omega | (simp only [up_nx, put_nx, kill_nx]; done) | (simp only [up_nx, put_nx, kill_nx]; omega)))) (by first | omega | (simp only [up_nx, put_nx]; done) | (simp only [up_nx, put_nx]; omega)) ⟨rfl, rfl⟩
  · have hc : capN A.size 15 = (A.size : Int) := by unfold capN; rw [if_pos (by omega)]
    have hc2 : ¬ (15 : Int) < (A.size : Int) := by omega
    rw [if_neg h15, hc]
    simp (disch := first | omega | simp) [iv, put_get_ne, hc2, Ty.cs_len, Ty.cs_take]
    refine rt_one hw (by repeat (first | with_reducible assumption | with_reducible exact AH.le.refl _ | with_reducible apply AH.le.up | (with_reducible refine AH.le.put hw ?_ ?_; · first | omega | (simp only [up_nx, put_nx, kill_nx]; done) | (simp only [up_nx, put_nx, kill_nx]; omega)) | (with_reducible refine AH.le.kill hw ?_ ?_; · first | omega | (simp only [up_nx, put_nx, kill_nx]; done) | (simp only [up_nx, put_nx, kill_nx]; omega)))) ?_ ⟨rfl, rfl⟩
    rw [Ty.cs_eq]
    exact (by repeat (first | exact Cl.p _ | exact Cl.dsl _ _ | exact Cl.any | refine Cl.tup ?_ | refine Cl.agg ?_ | exact Clo.nil | refine Clo.cons ?_ ?_)))
set_option maxHeartbeats 1000000 in
theorem w_SpeechParts (t : Ty) (s : List UInt8) (hm : s.length ≤ 9223372036854775807) : PF Try.prog 5 [t.av, sv s] (bv true) := fun H => tri_wf fun hw => tri_wordhoardlaw_SpeechParts (by
  unfold S_wordhoardlaw_SpeechParts
  have hav : t.av = .agg t.cs := rfl
  rw [hav]
  simp (disch := first | omega | simp) [Ty.cs_len, Ty.cs_take]
  refine ca_pure (by kernel_rfl) (c_RCheckPart t _) ?_
  simp (disch := first | omega | simp) [Ty.cs_len, Ty.cs_take]
  refine ca_pure (by kernel_rfl) (c_Print t _) ?_
  simp (disch := first | omega | simp) []
  refine ca_pure (by kernel_rfl) (c_begun _) ?_
  simp (disch := first | omega | simp) [bv, Ty.cs_len, Ty.cs_take]
  refine ca_pure (by kernel_rfl) (c_Check t _) ?_
  have hend : ∀ M : AH, H.le M → H.nx ≤ M.nx →
      (Rg 8 (fun b_57 =>
      Ca Try.prog (.fn (.func 23) [] []) [sv s] fun v50 =>
      Pu Try.prog (.ext 0) [v50] fun v51 =>
      Pu Try.prog (.ext 1) [v50] fun v52 =>
      Al (b_57 + 5) (.nw 24 [.p (.int .i64 0), .p (.int .i64 0), .p (.slice none 0 0)]) [] fun v8 =>
      WrS Try.prog (b_57 + 6) (.st 3) [v8, v51] fun _ =>
      Rg 8 fun b_63 =>
      Ca Try.prog (.fn (.func 24) [] []) [sv s] fun v55 =>
      Pu Try.prog (.ext 0) [v55] fun v56 =>
      Pu Try.prog (.ext 1) [v55] fun v57 =>
      Al (b_63 + 5) (.nw 24 [.p (.int .i64 0), .p (.int .i64 0), .p (.slice none 0 0)]) [] fun v9 =>
      WrS Try.prog (b_63 + 6) (.st 3) [v9, v56] fun _ =>
      Pu Try.prog (.bin .eql 28) [v52, v57] fun v60 =>
      Gd v60 true (fun k_71 => RdS Try.prog (.ld 3 true) [v8] k_71) fun v62 =>
      Gd v60 true (fun k_73 => RdS Try.prog (.ld 3 true) [v9] k_73) fun v63 =>
      Gd v60 true (fun k_75 => Ca Try.prog (.fn (.func 25) [] []) [v62, v63] k_75) fun v64 =>
      Pu Try.prog .pick [v60, v64, (.p (.bool false))] fun v65 =>
      Rt Try.prog H.nx v65 (fun r H' => H' = H ∧ r = .p (.bool true)))) M := fun M hl hn => by
    simp (disch := first | omega | simp) []
    refine ca_pure (by kernel_rfl) (c_Read s _) ?_
    rw [read_same]
    unfold rdAv
    obtain ⟨⟨A, e⟩, hA⟩ : ∃ x, readR s = x := ⟨_, rfl⟩
    have hAv : A.av = .agg A.cs := rfl
    rw [hA]
    dsimp only
    rw [hAv]
    simp (disch := first | omega | simp) [iv, Ty.cs_len]
    have hr := c_ReadPart s hm
    rw [hA] at hr
    unfold rdAv at hr
    dsimp only at hr
    refine ca_pure (by kernel_rfl) (hr _) ?_
    rw [hAv]
    simp (disch := first | omega | simp) [iv, Ty.cs_len, put_get_ne, Ty.cs_take]
    refine ca_pure (by kernel_rfl) (c_RSamePart A A _) ?_
    have hs : A.same A = true := Ty.same_self A
    rw [hs]
    simp (disch := first | omega | simp) [bv]
    exact rt_one hw (by repeat (first | with_reducible assumption | with_reducible exact AH.le.refl _ | with_reducible apply AH.le.up | (with_reducible refine AH.le.put hw ?_ ?_; · first | omega | (simp only [up_nx, put_nx, kill_nx]; done) | (simp only [up_nx, put_nx, kill_nx]; omega)) | (with_reducible refine AH.le.kill hw ?_ ?_; · first | omega | (simp only [up_nx, put_nx, kill_nx]; done) | (simp only [up_nx, put_nx, kill_nx]; omega)))) (by repeat (first | exact Cl.p _ | exact Cl.dsl _ _ | exact Cl.any | refine Cl.tup ?_ | refine Cl.agg ?_ | exact Clo.nil | refine Clo.cons ?_ ?_)) ⟨rfl, rfl⟩
  by_cases h : t.check = 0
  · simp (disch := first | omega | simp) [h, iv, Ty.cs_len, Ty.cs_take]
    refine ca_pure (by kernel_rfl) (c_PartText _ t (Nat.le_refl _) h _) ?_
    unfold sv
    simp (disch := first | omega | simp) [mkB_toList]
    exact hend _ (by repeat (first | with_reducible assumption | with_reducible exact AH.le.refl _ | with_reducible apply AH.le.up | (with_reducible refine AH.le.put hw ?_ ?_; · first | omega | (simp only [up_nx, put_nx, kill_nx]; done) | (simp only [up_nx, put_nx, kill_nx]; omega)) | (with_reducible refine AH.le.kill hw ?_ ?_; · first | omega | (simp only [up_nx, put_nx, kill_nx]; done) | (simp only [up_nx, put_nx, kill_nx]; omega)))) (by first | omega | (simp only [up_nx, put_nx]; done) | (simp only [up_nx, put_nx]; omega))
  · simp (disch := first | omega | simp) [h, iv, sv, mk_nil, mkB_toList]
    exact hend _ (by repeat (first | with_reducible assumption | with_reducible exact AH.le.refl _ | with_reducible apply AH.le.up | (with_reducible refine AH.le.put hw ?_ ?_; · first | omega | (simp only [up_nx, put_nx, kill_nx]; done) | (simp only [up_nx, put_nx, kill_nx]; omega)) | (with_reducible refine AH.le.kill hw ?_ ?_; · first | omega | (simp only [up_nx, put_nx, kill_nx]; done) | (simp only [up_nx, put_nx, kill_nx]; omega)))) (by first | omega | (simp only [up_nx, put_nx]; done) | (simp only [up_nx, put_nx]; omega)))
theorem law_SpeechParts (t : Ty) (b : ByteArray) (hb : b.size ≤ maxLen) : Tri Try.prog 5 [t.av, .p (.string b)] ⟨0, []⟩ (fun v _ => v = .p (.bool true)) := by
  have hml : maxLen = 9223372036854775807 := by decide
  have hsz : b.data.toList.length = b.size := by rw [Array.length_toList]; rfl
  have h := law_pf (w_SpeechParts t b.data.toList (by omega))
  unfold sv at h
  rw [← mkB_of b] at h
  exact h
end Go.Proofs.Ytpmnlikgldacaaa

namespace Go.Proofs.Ytpmnlikgldacaaa.speechParts
open Go.ChangeShapes Go.WideShapes Go.ChangeAt Go.RowKit
open Go.ChangeMaps (open_string shut_string)

set_option maxRecDepth 100000 in
theorem contract (H : Type) (enc : TypeId × Value → H) (W : World) (base : Nat) (args : Array Value) (ds gs : List (DataW H)) (before : List MemPlace)
    (hval : ∀ (j : Nat) t v, Try.f5.params[j]? = some t → args[j]? = some v → Value.okWide Try.prog W .any base t v)
    (hW : DataW.Whole enc Try.prog Try.f5.params.toList Rows.speechPartsSpec.vars false W args.toList ds gs before) :
    Calls Try.prog 5 args W fun e W' => ∃ v, e = .returned v ∧ Rows.speechPartsSpec.post enc Try.prog Try.f5 false true false false W args v W' := by
  have hW' := hW
  obtain ⟨p, q, hA0, hV, rfl, hfz, hnd⟩ := hW
  have hA : DataW.TrodAll enc Try.prog W 0 (fun _ => true) true Try.f5.params.toList args.toList ds p := hA0
  rw [Try.params5] at hA hval
  obtain ⟨v0, v1, d0, d1, p0, p1, rfl, rfl, rfl, h0, h1⟩ := trodAll_two hA
  obtain ⟨rfl, rfl⟩ := trodVars_none hV
  obtain ⟨cs0, x0, rfl, hs0, hb0⟩ := arg_struct opens_ty Try.underlying24 (hval 0 24 v0 rfl rfl) h0
  obtain ⟨s1, rfl, rfl, rfl, hmax1⟩ := open_string Try.underlying9 (hval 1 9 v1 rfl rfl) h1
  obtain ⟨k0, r0⟩ := (avs_ty).agg (σ' := fun _ => none) hs0
  have r1 : Rp W (fun b => b < W.heap.size) (fun _ => none) (.p (.string s1)) (.string s1) := .data _ _ (.p _ rfl)
  refine (law_calls (us := [.agg cs0, .string s1]) (law_SpeechParts x0 s1 hmax1) (.cons r0 (.cons r1 .nil))).mono fun e W' ⟨he, hg⟩ => ?_
  subst he
  exact ⟨_, rfl, post_true rfl Try.underlying4 rfl laidOut (by kernel_rfl) hW' rfl hg⟩

set_option maxRecDepth 100000 in
theorem lifted (os : Os) (started : os.Started) (H : Type) (enc : TypeId × Value → H) :
    ReturnsInHanded {} Try.checked os 5 .any (Rows.speechPartsSpec.pre6 enc Try.prog Try.f5 Rows.speechPartsRow.domain false) (Rows.speechPartsSpec.post enc Try.prog Try.f5 false true false false) := by
  refine returnsInHanded_of_change (C := Try.checked) own started (by kernel_rfl) Try.func5
    (ChangeSpec.witness6 (enc := enc) (C := Try.checked) false ⟨#[], #[.agg #[.int .i64 0,.int .i64 0,.slice none 0 0], .string ⟨#[]⟩], []⟩ 8 (by kernel_rfl) (by kernel_rfl) (by kernel_rfl) (by kernel_rfl)) ?_
  intro W base args ds gs before hval hW _ _
  exact contract H enc W base args ds gs before hval hW

theorem proved : Rows.SpeechPartsSaid :=
  OpenClaim.holds_of_wide 5 Try.f5 rfl rfl rfl rfl rfl rfl rfl ⟨rfl, rfl, rfl, rfl, rfl⟩ rfl rfl rfl rfl rfl (by kernel_rfl) Try.func5 (by kernel_rfl)
    (of_decide_eq_true (by kernel_rfl)) (by unfold Func.isWrapper; first | (rw [if_pos (by decide +kernel)]; kernel_rfl) | (rw [if_neg (by decide +kernel)]; exact ⟨rfl, rfl⟩))
    (fun os started H enc _ => lifted os started H enc)
end Go.Proofs.Ytpmnlikgldacaaa.speechParts
