/- Readings of what came in: each argument that can be read as data stands for a plain thing whose bulk is no greater. Nothing of the program is named here. -/
import Derived.Test.YtcmnjoepadjioaaRd
namespace Go.Proofs.Ytcmnjoepadjioaa
open Go.ChangeShapes Go.WideShapes Go.RowKit

/-- what can be read at a type stands for something -/
def Opens {α : Type} (P : Program) (t : TypeId) (ρ : Rep α) : Prop :=
  ∀ (H : Type) (enc : TypeId × Value → H) (w : World) (base : Nat) (spare : Nat → Bool) (held : Bool) (fuel : Nat) (cs : List Value) (x : DataW H × List MemPlace),
    DataW.trod enc P w base spare held fuel t cs = some x → ∃ y, ρ.R w (fun b => b < w.heap.size) cs y ∧ ρ.bulk y ≤ Rows.uptoBulk x.1

theorem bulk_pos {H : Type} (d : DataW H) : 1 ≤ Rows.uptoBulk d := by
  cases d with
  | lit l => cases l <;> simp [Rows.uptoBulk]
  | _ => simp [Rows.uptoBulk]
theorem opens_int {P : Program} {t : TypeId} (ht : P.underlying t = some (.int .i64)) : Opens P t rInt := by
  intro H enc w base spare held fuel cs x h
  obtain ⟨n, rfl, rfl, hw⟩ := DataW.trod_int ht h
  refine ⟨n, ⟨rfl, ?_⟩, bulk_pos _⟩
  simp only [Lit.wf, Bool.and_eq_true, decide_eq_true_eq] at hw
  exact hw
theorem opens_bool {P : Program} {t : TypeId} (ht : P.underlying t = some .bool) : Opens P t rBool := by
  intro H enc w base spare held fuel cs x h
  obtain ⟨b, rfl, rfl⟩ := DataW.trod_bool ht h
  exact ⟨b, rfl, bulk_pos _⟩
theorem opens_string {P : Program} {t : TypeId} (ht : P.underlying t = some .string) : Opens P t rStr := by
  intro H enc w base spare held fuel cs x h
  obtain ⟨s, rfl, rfl, hs⟩ := DataW.trod_string ht h
  refine ⟨s, ⟨rfl, hs⟩, ?_⟩
  have : s.data.toList.length = s.size := by rw [Array.length_toList]; rfl
  simp only [rStr, Rows.uptoBulk]; omega
theorem pick {α : Type} {Q : Nat → α → Prop} : ∀ n, (∀ i, i < n → ∃ y, Q i y) → ∃ ys : List α, ys.length = n ∧ ∀ i y, ys[i]? = some y → Q i y
  | 0, _ => ⟨[], rfl, by simp⟩
  | n + 1, h => by
    obtain ⟨ys, hl, hq⟩ := pick n fun i hi => h i (by omega)
    obtain ⟨y, hy⟩ := h n (by omega)
    refine ⟨ys ++ [y], by simp [hl], fun i z hz => ?_⟩
    by_cases hi : i < ys.length
    · rw [List.getElem?_append_left hi] at hz; exact hq i z hz
    · rw [List.getElem?_append_right (by omega)] at hz
      have h0 : i - ys.length = 0 := by have := (List.getElem?_eq_some_iff.1 hz).1; simp at this; omega
      rw [h0] at hz
      simp at hz; subst hz
      obtain rfl : i = n := by omega
      exact hy
theorem sum_le {α H : Type} (f : α → Nat) : ∀ (ys : List α) (ds : List (DataW H)), ys.length = ds.length → (∀ (i : Nat) (y : α) (d : DataW H), ys[i]? = some y → ds[i]? = some d → f y ≤ Rows.uptoBulk d) → (ys.map f).sum ≤ Rows.uptoBulkAll ds
  | [], _, _, _ => by simp
  | y :: ys, [], h, _ => by simp at h
  | y :: ys, d :: ds, h, hf => by
    have ih := sum_le f ys ds (by simpa using h) fun i y d hy hd => hf (i + 1) y d (by simpa using hy) (by simpa using hd)
    have h0 := hf 0 y d rfl rfl
    simp only [List.map_cons, List.sum_cons, Rows.uptoBulkAll]; omega
theorem opens_slice {α : Type} {ρ : Rep α} {P : Program} {t e : TypeId} (ht : P.underlying t = some (.slice e)) (hs : P.cellsOf e = ρ.size) (hp : 0 < ρ.size) (he : Opens P e ρ) : Opens P t (rList ρ) := by
  intro H enc w base spare held fuel cs x h
  rcases DataW.trod_slice ht h with ⟨rfl, rfl⟩ | ⟨a, len, cap, elems, rest, n, _, rfl, rfl, _, hl, hm, hlen, hel, _, _⟩
  · exact ⟨[], ⟨none, 0, rfl, Sl.nil_⟩, by simp [rList, Rows.uptoBulk]⟩
  · have key : ∀ i, i < len → ∃ y, (a.block < w.heap.size ∧ (∃ u, ρ.R w (fun b => b < w.heap.size) u y ∧ ∀ j z, u[j]? = some z → w.cell? (a.add (i * ρ.size + j)) = some z)) ∧ ∀ d, (elems.map (·.1))[i]? = some d → ρ.bulk y ≤ Rows.uptoBulk d := by
      intro i hi
      have h1 := hel i hi
      rw [List.getElem?_eq_getElem (by omega)] at h1
      cases hc : w.cells? base (a.add (i * P.cellsOf e)) (P.cellsOf e) with
      | none => rw [hc] at h1; simp at h1
      | some us =>
        rw [hc] at h1
        simp only [Option.bind_some] at h1
        obtain ⟨y, hy, hb⟩ := he H enc w base spare held n us _ h1
        obtain ⟨_, hcl, hat⟩ := World.cells?_some hc
        have hcell : ∀ j z, us[j]? = some z → w.cell? (a.add (i * ρ.size + j)) = some z := by
          intro j z hz
          have hj : j < P.cellsOf e := by have := (List.getElem?_eq_some_iff.1 hz).1; omega
          have := hat j hj
          rw [hz, add_of_add, hs] at this; exact this
        refine ⟨y, ⟨?_, us, hy, hcell⟩, fun d hd => ?_⟩
        · have h0 : 0 < us.length := by rw [ρ.len hy]; exact hp
          have := World.block_lt_of_cell? w _ (hcell 0 _ (List.getElem?_eq_getElem h0))
          rwa [block_of_add] at this
        · rw [List.getElem?_map, List.getElem?_eq_getElem (by omega)] at hd
          simp at hd; subst hd; exact hb
    obtain ⟨ys, hyl, hq⟩ := pick len key
    refine ⟨ys, ⟨some a, cap, by rw [hyl], by omega, hm, fun i y hy => ?_⟩, ?_⟩
    · obtain ⟨⟨hb, u, hr, hc⟩, _⟩ := hq i y hy
      exact ⟨a, u, rfl, hb, hr, hc⟩
    · have := sum_le ρ.bulk ys (elems.map (·.1)) (by rw [List.length_map]; omega) fun i y d hy hd => (hq i y hy).2 d hd
      simp only [rList, Rows.uptoBulk]; omega
/-- fields from a place on -/
def OpensL {α : Type} (P : Program) (l : List Field) (off : Nat) (ρ : Rep α) : Prop :=
  ∀ (H : Type) (enc : TypeId × Value → H) (w : World) (base : Nat) (spare : Nat → Bool) (held : Bool) (fuel : Nat) (cs : List Value) (xs : List (DataW H × List MemPlace)),
    cs.length = off + ρ.size → xs.length = l.length → (∀ (i : Nat) (f : Field), l[i]? = some f → DataW.trod enc P w base spare held fuel f.type ((cs.drop f.offset).take (P.cellsOf f.type)) = xs[i]?) →
    ∃ y, ρ.R w (fun b => b < w.heap.size) (cs.drop off) y ∧ ρ.bulk y ≤ Rows.uptoBulkAll (xs.map (·.1))
theorem opens_last {α : Type} {ρ : Rep α} {P : Program} {f : Field} {off : Nat} (ho : f.offset = off) (hs : P.cellsOf f.type = ρ.size) (hf : Opens P f.type ρ) : OpensL P [f] off ρ := by
  intro H enc w base spare held fuel cs xs hl hx h
  match xs, hx with
  | [x], _ =>
    have h0 := h 0 f rfl
    rw [ho, hs, List.take_of_length_le (by rw [List.length_drop]; omega)] at h0
    obtain ⟨y, hy, hb⟩ := hf H enc w base spare held fuel _ x h0
    exact ⟨y, hy, by simp only [List.map_cons, List.map_nil, Rows.uptoBulkAll]; omega⟩
theorem opens_more {α β : Type} {ρ : Rep α} {σ : Rep β} {P : Program} {f : Field} {l : List Field} {off : Nat} (ho : f.offset = off) (hs : P.cellsOf f.type = ρ.size) (hf : Opens P f.type ρ) (hl : OpensL P l (off + ρ.size) σ) :
    OpensL P (f :: l) off (rPair ρ σ) := by
  intro H enc w base spare held fuel cs xs hcs hx h
  match xs, hx with
  | x :: xs, hx =>
    have h0 := h 0 f rfl
    rw [ho, hs] at h0
    have hz : (rPair ρ σ).size = ρ.size + σ.size := rfl
    obtain ⟨y, hy, hb⟩ := hf H enc w base spare held fuel _ x h0
    obtain ⟨z, hz, hb'⟩ := hl H enc w base spare held fuel cs xs (by omega) (by simpa using hx) fun i f hi => h (i + 1) f (by simpa using hi)
    refine ⟨(y, z), ⟨_, _, ?_, hy, hz⟩, ?_⟩
    · rw [← List.drop_drop, List.take_append_drop]
    · simp only [rPair, List.map_cons, Rows.uptoBulkAll]; omega
theorem opens_struct {α : Type} {ρ : Rep α} {P : Program} {t : TypeId} {l : List Field} (ht : P.underlying t = some (.struct l.toArray)) (hs : P.cellsOf t = ρ.size) (hl : OpensL P l 0 ρ) : Opens P t ρ := by
  intro H enc w base spare held fuel cs x h
  obtain ⟨xs, n, _, rfl, hcs, hx, hf⟩ := DataW.trod_struct ht h
  obtain ⟨y, hy, hb⟩ := hl H enc w base spare held n cs xs (by omega) (by simpa using hx) fun i f hi => hf i f (by simpa using hi)
  exact ⟨y, by simpa using hy, by simp only [Rows.uptoBulk]; omega⟩
section
variable {H : Type} {enc : TypeId × Value → H} {P : Program} {w : World} {base b0 : Nat} {spare : Nat → Bool} {held : Bool} {r : Reach} {t : TypeId} {v : Value} {d : DataW H} {ps : List MemPlace} {α : Type} {ρ : Rep α}
/-- an argument that is a struct -/
theorem arg_struct {fs : Array Field} (ho : Opens P t ρ) (hs : P.underlying t = some (.struct fs)) (hv : Value.okWide P w r b0 t v) (h : DataW.Trod enc P w base spare held t v d ps) :
    ∃ cs y, v = .agg cs ∧ ρ.R w (fun b => b < w.heap.size) cs.toList y ∧ ρ.bulk y ≤ Rows.uptoBulk d := by
  obtain ⟨cs, rfl, hsz⟩ := okWide_struct hs hv
  obtain ⟨fuel, hf⟩ := h
  obtain ⟨y, hy, hb⟩ := ho H enc w base spare held fuel _ _ hf
  exact ⟨cs, y, rfl, hy, hb⟩
/-- an argument that is a slice -/
theorem arg_slice {e : TypeId} (ho : Opens P t (rList ρ)) (hs : P.underlying t = some (.slice e)) (hv : Value.okWide P w r b0 t v) (h : DataW.Trod enc P w base spare held t v d ps) :
    ∃ A c ys, v = .slice A ys.length c ∧ Sl ρ w (fun b => b < w.heap.size) A c ys ∧ (ys.map ρ.bulk).sum + 1 ≤ Rows.uptoBulk d := by
  obtain ⟨a, n, c, rfl⟩ := okWide_slice hs hv
  obtain ⟨fuel, hf⟩ := h
  obtain ⟨ys, ⟨A, c', e, hy⟩, hb⟩ := ho H enc w base spare held fuel _ _ hf
  simp only [Value.cells, List.cons.injEq, and_true, Value.slice.injEq] at e
  obtain ⟨rfl, rfl, rfl⟩ := e
  exact ⟨_, _, ys, rfl, hy, hb⟩
end
end Go.Proofs.Ytcmnjoepadjioaa
