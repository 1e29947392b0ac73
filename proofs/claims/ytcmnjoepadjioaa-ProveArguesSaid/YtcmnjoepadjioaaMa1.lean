/- Texts that the proof rests on, part 1: what each holds stands at its head. -/
import Derived.Test.YtcmnjoepadjioaaRows
import Derived.WalkKit
import Derived.WalkSpells
import Derived.WalkLawsBesides
import Derived.ProofKit
import Derived.Lib.Hide
import Derived.Below
import Derived.Carry
import Derived.Laws.OwnMore
import Derived.Laws.Rows
import Derived.Laws.MakeOwn
import Derived.Laws.Entries
import Derived.Laws.AppendOwn
import Derived.Deep.AppendLies
import Derived.Deep.Draws
import Derived.Deep.Slices
import Derived.Deep.Fields
import Derived.Deep.OwnRows
import Derived.Deep.QuietTactic
import Derived.Deep.RegionWith
import Derived.BigQuiet
import Derived.Maps.AppendAt
import Derived.RegionTactic
import Derived.OwnWalk
import Derived.ChangeSame
import Derived.Lib.SmallJoins
import Derived.OpenShut
import Derived.JoinedCond
import Derived.LaidEqlPtr
import Derived.Laws.BitsAllLaws
import Derived.Laws.BitsLemmas
import Derived.Deep.DeepFit
import Derived.Outline
import Derived.Lib.OthersKept
import Derived.Maps.OwnOps
import Derived.Maps.Views
import Derived.Maps.RangeWalk
import Derived.DeepKeys4
import Derived.ChangeKeysEq
import Derived.Great.BuildSlice
import Derived.MapKept

/- Words for memory, general lemmas that every text of this seat uses: slices that read as lists, blocks known whole, appends onto rows of the call's own, the last step of a row. Nothing of the program is named here. -/
namespace Go.Proofs.Ytcmnjoepadjioaa
section words
open Go.RowKit
theorem block_of_add (a : Addr) (n : Nat) : (a.add n).block = a.block := by unfold Addr.add; split <;> rfl
theorem add_of_add (a : Addr) (i j : Nat) : (a.add i).add j = a.add (i + j) := by
  unfold Addr.add
  by_cases hi : i = 0 <;> by_cases hj : j = 0 <;> simp [hi, hj, Nat.add_assoc]

def Reads (w : World) (B size : Nat) (A : Option Addr) (n : Nat) (xs : List Value) : Prop :=
  xs.length = n * size ∧ (0 < n → ∃ ad, A = some ad ∧ ad.block < B ∧ ∀ j u, xs[j]? = some u → w.cell? (ad.add j) = some u)

section
variable {w w' : World} {B B' size n : Nat} {A : Option Addr} {xs : List Value}
theorem Reads.none_ : Reads w B size A 0 [] := ⟨by simp, fun h => absurd h (by omega)⟩
theorem Reads.at_ {k : Nat} (h : Reads w B 1 A n xs) (hk : k < n) : ∃ ad u, A = some ad ∧ ad.block < B ∧ xs[k]? = some u ∧ w.cell? (ad.add k) = some u := by
  obtain ⟨ad, e, hb, hc⟩ := h.2 (by omega)
  have hl : k < xs.length := by have := h.1; omega
  exact ⟨ad, xs[k], e, hb, List.getElem?_eq_getElem hl, hc k _ (List.getElem?_eq_getElem hl)⟩
theorem Reads.keep (h : Reads w B size A n xs) (hk : ∀ p : Addr, p.block < B → w'.cell? p = w.cell? p) : Reads w' B size A n xs :=
  ⟨h.1, fun hn => by
    obtain ⟨ad, e, hb, hc⟩ := h.2 hn
    exact ⟨ad, e, hb, fun j u hu => (hk _ (by rw [block_of_add]; exact hb)).trans (hc j u hu)⟩⟩
theorem Reads.more (h : Reads w B size A n xs) (hB : B ≤ B') : Reads w B' size A n xs :=
  ⟨h.1, fun hn => by
    obtain ⟨ad, e, hb, hc⟩ := h.2 hn
    exact ⟨ad, e, by omega, hc⟩⟩
theorem Reads.below (h : Reads w B size A n xs) (hb : Below B w w') : Reads w' B size A n xs := h.keep fun _ hp => hb.cell hp
theorem Reads.drew (h : Reads w B size A n xs) : Reads w.drew B size A n xs := h
theorem Reads.drewN (h : Reads w B size A n xs) (k : Nat) : Reads (w.drewN k) B size A n xs := h
theorem Reads.alloc (h : Reads w B size A n xs) (hB : B ≤ w.heap.size) (o : Obj) : Reads (w.alloc o) B size A n xs := h.keep fun p hp => World.cell?_alloc_lt w o p (by omega)
theorem Reads.setCell (h : Reads w B size A n xs) {p : Addr} (hB : B ≤ p.block) (u : Value) : Reads (w.setCell p u) B size A n xs :=
  h.keep fun q hq => World.cell?_setCell_other w p q u (fun e => by subst e; omega)
theorem Reads.grown (h : Reads w B size A n xs) {row : Option Nat} (hg : w.grownBy w' row) (hB : B ≤ w.heap.size) (hr : ∀ g, row = some g → B ≤ g) : Reads w' B size A n xs :=
  h.keep fun p hp => World.cell?_of_block (hg.block p.block (by omega) (fun e => by have := hr _ e.symm; omega))
theorem Reads.cut (h : Reads w B size A n xs) {k cap : Nat} (hk : k ≤ n) (hc : n ≤ cap) :
    Reads w B size (if cap = k then A else A.map (·.add (k * size))) (n - k) (xs.drop (k * size)) := by
  refine ⟨by rw [List.length_drop, h.1, Nat.sub_mul], fun hn => ?_⟩
  obtain ⟨ad, rfl, hb, hcell⟩ := h.2 (by omega)
  rw [if_neg (by omega)]
  refine ⟨ad.add (k * size), rfl, by rw [block_of_add]; exact hb, fun j u hu => ?_⟩
  rw [add_of_add]
  exact hcell _ u (by rw [← hu, List.getElem?_drop])
theorem Reads.of_own {base : Nat} {e : TypeId} {c : Nat} (h : w.ownsRow base e size (.slice A n c) n xs) : Reads w w.heap.size size A n xs := by
  refine ⟨h.1, fun hn => ?_⟩
  obtain ⟨g, cap, hv, _, hlt⟩ := h.form hn
  have hA : A = some ⟨g, 0, none⟩ := by injection hv
  subst hA
  exact ⟨_, rfl, hlt, h.cells (g := g) rfl⟩
end
def Blk (w : World) (g : Nat) (t : TypeId) (cs : Array Value) : Prop := w.heap[g]? = some (.cells cs t (0, 0))

section
variable {w w' : World} {g : Nat} {t : TypeId} {cs : Array Value}
theorem Blk.lt (h : Blk w g t cs) : g < w.heap.size := by
  rcases Nat.lt_or_ge g w.heap.size with hlt | hge
  · exact hlt
  · unfold Blk at h; rw [Array.getElem?_eq_none hge] at h; cases h
theorem Blk.cell (h : Blk w g t cs) (i : Nat) : w.cell? ⟨g, i, none⟩ = cs[i]? := cell_of_row w g i cs t (0, 0) h
theorem Blk.frozen (h : Blk w g t cs) (i : Nat) : w.frozen? ⟨g, i, none⟩ = false := by
  unfold Blk at h
  simp [World.frozen?, h]
theorem Blk.new (w : World) (t : TypeId) (cs : Array Value) : Blk (w.alloc (.cells cs t)) w.heap.size t cs := heap_alloc_new w _
theorem Blk.drew (h : Blk w g t cs) : Blk w.drew g t cs := h
theorem Blk.drewN (h : Blk w g t cs) (n : Nat) : Blk (w.drewN n) g t cs := h
theorem Blk.alloc (h : Blk w g t cs) (o : Obj) : Blk (w.alloc o) g t cs := (Below.heap_alloc w o g h.lt).trans h
theorem Blk.set_ (h : Blk w g t cs) (i : Nat) (u : Value) : Blk (w.setCell ⟨g, i, none⟩ u) g t (cs.setIfInBounds i u) := by
  unfold Blk at h ⊢
  simp [World.setCell, Array.getElem?_modify, h]
theorem Blk.far (h : Blk w g t cs) {p : Addr} (hp : g ≠ p.block) (u : Value) : Blk (w.setCell p u) g t cs := (Below.heap_setCell w p u g hp).trans h
theorem Blk.below {B : Nat} (h : Blk w g t cs) (hb : Below B w w') (hg : g < B) : Blk w' g t cs := (hb.block g hg).trans h
theorem Blk.grown {row : Option Nat} (h : Blk w g t cs) (hb : w.grownBy w' row) (hg : some g ≠ row) : Blk w' g t cs := (hb.block g h.lt hg).trans h
theorem Blk.ne_ {g' : Nat} {t' : TypeId} {cs' : Array Value} (h : Blk w g t cs) (h' : Blk w g' t' cs') (hne : t ≠ t') : g ≠ g' := by
  rintro rfl
  unfold Blk at h h'
  rw [h] at h'
  injection h' with h'
  injection h' with _ ht
  exact hne ht
theorem own_blk_ne {base : Nat} {e : TypeId} {size n : Nat} {v : Value} {xs : List Value} (h : w.ownsRow base e size v n xs) (hg : Blk w g t cs) (hne : e ≠ t) : v.ownBlock ≠ some g := by
  rcases h.2 with ⟨rfl, _⟩ | ⟨g', cap, cur, rfl, _, hh, _⟩
  · simp [Value.ownBlock]
  · intro he
    have : g' = g := by simpa [Value.ownBlock] using he
    subst this
    exact Blk.ne_ (t := e) hh hg hne rfl
end
section
variable {P : Program} (w : World)

theorem run_append_of_nil (base : Nat) (t ty e : TypeId) (i : TypeInfo) (size : Nat) (ht : P.underlying t = some (.slice e)) (hi : P.info? e = some i)
    (v : Value) (n : Nat) (xs : List Value) (hown : w.ownsRow base e size v n xs) (c : Nat) : (Builtin.append_ #[t, t] ty #[v, .slice none 0 c]).run P w = .ok v w := by
  rcases hown.2 with ⟨rfl, rfl⟩ | ⟨g, cap, cur, rfl, _, _, hnc, _⟩
  · simp [Builtin.append_, run_underlying ht, sizeOf, typeInfo, hi, Builtin.lenOf, Builtin.firstCells]
  · simp [Builtin.append_, run_underlying ht, sizeOf, typeInfo, hi, Builtin.lenOf, Builtin.firstCells, hnc, storeCells]

theorem run_append_any (base : Nat) (t ty e : TypeId) (i : TypeInfo) (z : Value) (size bytes : Nat) (ht : P.underlying t = some (.slice e)) (hi : P.info? e = some i) (hz : i.zero = some z)
    (hsize : i.size = size) (hby : i.bytes = bytes) (hzs : z.cells.size = size) (hsz : 0 < size)
    (v : Value) (n : Nat) (xs : List Value) (hown : w.ownsRow base e size v n xs)
    (B : Nat) (A : Option Addr) (m c : Nat) (news : List Value) (hr : Reads w B size A m news) (h1 : ∀ u ∈ news, u.oneCell' = true)
    (h63 : n + m ≤ maxLen) (hbytes : (n + m) * bytes ≤ 140737488355328) (hbase : base ≤ w.heap.size) :
    ∃ v' w', (Builtin.append_ #[t, t] ty #[v, .slice A m c]).run P w = .ok v' w' ∧ w'.ownsRow base e size v' (n + m) (xs ++ news) ∧ w.grownBy w' v.ownBlock ∧
      (v'.ownBlock = v.ownBlock ∨ v'.ownBlock = some w.heap.size) := by
  rcases A with _ | ad
  · have hm : m = 0 := by
      rcases Nat.eq_zero_or_pos m with h0 | h0
      · exact h0
      · obtain ⟨ad, h, _⟩ := hr.2 h0
        cases h
    subst hm
    have hn : news = [] := List.eq_nil_of_length_eq_zero (by simpa using hr.1)
    subst hn
    exact ⟨v, w, run_append_of_nil w base t ty e i size ht hi v n xs hown c, by simpa using hown, World.grownBy.refl w _, .inl rfl⟩
  · have hcells : ∀ j u, news[j]? = some u → w.cell? (ad.add j) = some u := by
      intro j u hu
      rcases Nat.eq_zero_or_pos m with h0 | h0
      · subst h0
        have hn : news = [] := List.eq_nil_of_length_eq_zero (by simpa using hr.1)
        subst hn
        simp at hu
      · obtain ⟨ad', h, _, hc⟩ := hr.2 h0
        injection h with h
        subst h
        exact hc j u hu
    obtain ⟨v', w', hrun, h2, h3, _, h5⟩ := run_append_own_at (P := P) w base t ty e i z size bytes ht hi hz hsize hby hzs hsz v n xs hown ad m c news hr.1 hcells h1 h63 hbytes hbase
    exact ⟨v', w', hrun, h2, h3, h5⟩

theorem wp_append_any {o : Oper} {a : Act} {K : Act → World → Prop} {Q : Exit → Act → World → Prop} (s x : Operand) (t : TypeId)
    (ho : o.op = .call { callee := .builtin .append, args := #[s, x], argTypes := #[t, t] })
    (base : Nat) (e : TypeId) (i : TypeInfo) (z : Value) (size bytes : Nat) (ht : P.underlying t = some (.slice e)) (hi : P.info? e = some i) (hz : i.zero = some z)
    (hsize : i.size = size) (hby : i.bytes = bytes) (hzs : z.cells.size = size) (hsz : 0 < size)
    (v : Value) (n : Nat) (xs : List Value) (hs : a.eval s = v) (hown : w.ownsRow base e size v n xs)
    (B : Nat) (A : Option Addr) (m c : Nat) (news : List Value) (hx : a.eval x = .slice A m c) (hr : Reads w B size A m news) (h1 : ∀ u ∈ news, u.oneCell' = true)
    (h63 : n + m ≤ maxLen) (hbytes : (n + m) * bytes ≤ 140737488355328) (hbase : base ≤ w.heap.size)
    (h : ∀ v' w', w'.ownsRow base e size v' (n + m) (xs ++ news) → w.grownBy w' v.ownBlock → (v'.ownBlock = v.ownBlock ∨ v'.ownBlock = some w.heap.size) → K (a.put o.dst v') w') : o.wp P a w K Q := by
  obtain ⟨v', w', hrun, h2, h3, h4⟩ := run_append_any (P := P) w base t o.type e i z size bytes ht hi hz hsize hby hzs hsz v n xs hown B A m c news hr h1 h63 hbytes hbase
  unfold Oper.wp execOp
  simp only [ho, resolve, invoke, builtin, Sem.run_bind, Sem.run_pure, Result.andThen_ok, List.map_toArray, List.map_cons, List.map_nil, hs, hx, hrun]
  exact h v' w' h2 h3 h4

theorem wpList_append_any {ops : Array Oper} {rest : List Oper} {o : Oper} {a : Act} {Q : Exit → Act → World → Prop} (hgd : o.guard = none) (s x : Operand) (t : TypeId)
    (ho : o.op = .call { callee := .builtin .append, args := #[s, x], argTypes := #[t, t] })
    (base : Nat) (e : TypeId) (i : TypeInfo) (z : Value) (size bytes : Nat) (ht : P.underlying t = some (.slice e)) (hi : P.info? e = some i) (hz : i.zero = some z)
    (hsize : i.size = size) (hby : i.bytes = bytes) (hzs : z.cells.size = size) (hsz : 0 < size)
    (v : Value) (n : Nat) (xs : List Value) (hs : a.eval s = v) (hown : w.ownsRow base e size v n xs)
    (B : Nat) (A : Option Addr) (m c : Nat) (news : List Value) (hx : a.eval x = .slice A m c) (hr : Reads w B size A m news) (h1 : ∀ u ∈ news, u.oneCell' = true)
    (h63 : n + m ≤ maxLen) (hbytes : (n + m) * bytes ≤ 140737488355328) (hbase : base ≤ w.heap.size)
    (h : ∀ v' w', w'.ownsRow base e size v' (n + m) (xs ++ news) → w.grownBy w' v.ownBlock → (v'.ownBlock = v.ownBlock ∨ v'.ownBlock = some w.heap.size) → wpList P ops Q rest (a.put o.dst v') w') : wpList P ops Q (o :: rest) a w :=
  wpList_plain hgd fun _ hK => wp_append_any w s x t ho base e i z size bytes ht hi hz hsize hby hzs hsz v n xs hs hown B A m c news hx hr h1 h63 hbytes hbase fun v' w' h2 h3 h4 => hK _ _ (h v' w' h2 h3 h4)

theorem step_append_any {ops : Array Oper} {o : Oper} {a : Act} {K : Act → World → Prop} {Q : Exit → Act → World → Prop} {E : Prop} (hgd : o.guard = none) (s x : Operand) (t : TypeId)
    (ho : o.op = .call { callee := .builtin .append, args := #[s, x], argTypes := #[t, t] })
    (base : Nat) (e : TypeId) (i : TypeInfo) (z : Value) (size bytes : Nat) (ht : P.underlying t = some (.slice e)) (hi : P.info? e = some i) (hz : i.zero = some z)
    (hsize : i.size = size) (hby : i.bytes = bytes) (hzs : z.cells.size = size) (hsz : 0 < size)
    (v : Value) (n : Nat) (xs : List Value) (hs : a.eval s = v) (hown : w.ownsRow base e size v n xs)
    (B : Nat) (A : Option Addr) (m c : Nat) (news : List Value) (hx : a.eval x = .slice A m c) (hr : Reads w B size A m news) (h1 : ∀ u ∈ news, u.oneCell' = true)
    (h63 : n + m ≤ maxLen) (hbytes : (n + m) * bytes ≤ 140737488355328) (hbase : base ≤ w.heap.size)
    (h : ∀ v' w', w'.ownsRow base e size v' (n + m) (xs ++ news) → w.grownBy w' v.ownBlock → (v'.ownBlock = v.ownBlock ∨ v'.ownBlock = some w.heap.size) → K (a.put o.dst v') w') :
    if Region.wanted o (yielded ops a.tmps) = true then Oper.wp P o a w K Q else E := by
  have hw : Region.wanted o (yielded ops a.tmps) = true := by simp [Region.wanted, hgd]
  rw [if_pos hw]
  exact wp_append_any w s x t ho base e i z size bytes ht hi hz hsize hby hzs hsz v n xs hs hown B A m c news hx hr h1 h63 hbytes hbase h
end
end words
section structs
open Go.ChangeShapes Go.WideShapes Go.Deep
section
variable {H : Type} {enc : TypeId × Value → H} {P : Program} {w : World} {base : Nat} {spare : Nat → Bool} {held : Bool}
theorem open_slice_fields {t e : TypeId} {fs : Array Field} {fuel : Nat} {cs : List Value} {x : DataW H × List MemPlace} (ht : P.underlying t = some (.slice e)) (he : P.underlying e = some (.struct fs))
    (hone : oneCellFields P fs = true) (hC : P.cellsOf e = fs.size) (h : DataW.trod enc P w base spare held fuel t cs = some x) :
    (cs = [.slice none 0 0] ∧ x = (.nil, [])) ∨
    ∃ (a : Addr) (len cap m : Nat) (D : Nat → DataW H) (Pl : Nat → List MemPlace), cs = [.slice (some a) len cap] ∧ base ≤ a.block ∧ len ≤ cap ∧ cap ≤ maxLen ∧ m = (if spare a.block then cap else len) ∧
      x = (.slice ((List.range len).map D) ((List.range (m - len)).map fun j => D (len + j)), MemPlace.row a (m * fs.size) ++ (List.range m).flatMap Pl) ∧
      ∀ i, i < m → ∃ (ys : List (DataW H × List MemPlace)) (n : Nat), D i = .agg (ys.map (·.1)) ∧ Pl i = ys.flatMap (·.2) ∧ ys.length = fs.size ∧
        ∀ (j : Nat) (f : Field), fs[j]? = some f → ∃ (v : Value) (y : DataW H × List MemPlace), w.cell? (a.add (i * fs.size + j)) = some v ∧ ys[j]? = some y ∧ DataW.trod enc P w base spare held n f.type [v] = some y := by
  rcases open_slice ht h with h0 | ⟨a, len, cap, m, n, D, Pl, hcs, hb, hl, hm, hmm, hx, hi⟩
  · exact .inl h0
  · refine .inr ⟨a, len, cap, m, D, Pl, hcs, hb, hl, hm, hmm, by rw [hC] at hx; exact hx, fun i him => ?_⟩
    obtain ⟨cs', hc, ht'⟩ := hi i him
    rw [hC] at hc
    obtain ⟨ys, n', hn', hy, hlen, hyl, hf⟩ := DataW.trod_struct he ht'
    obtain ⟨_, hcl, hat⟩ := World.cells?_some hc
    simp only [Prod.mk.injEq] at hy
    refine ⟨ys, n', hy.1, hy.2, hyl, fun j f hj => ?_⟩
    obtain ⟨ho, hk⟩ := hone_of hone j f hj
    have hjl : j < fs.size := (Array.getElem?_eq_some_iff.1 hj).1
    have hcell := hat j hjl
    have hv : cs'[j]? = some (cs'[j]'(by omega)) := List.getElem?_eq_getElem (by omega)
    have h1 := hf j f hj
    rw [ho, hk] at h1
    have hone' : (cs'.drop j).take 1 = [cs'[j]'(by omega)] := by
      rw [List.drop_eq_getElem_cons (by omega)]
      rfl
    rw [hone'] at h1
    have hys : ys[j]? = some (ys[j]'(by omega)) := List.getElem?_eq_getElem (by omega)
    refine ⟨_, _, ?_, hys, h1.trans hys⟩
    rw [← Go.Deep.add_add, hcell, hv]
end
end structs
section aggs
open Go.Joins Go.ChangeShapes Go.WideShapes Go.RowKit Go.Deep
section
variable {H : Type} {enc : TypeId × Value → H} {P : Program} {w : World} {base : Nat} {spare : Nat → Bool} {held : Bool}
theorem open_agg5 {r : Reach} {b0 : Nat} {t : TypeId} {f0 f1 f2 f3 f4 : Field} {v : Value} {d : DataW H} {p : List MemPlace} (hs : P.underlying t = some (.struct #[f0, f1, f2, f3, f4])) (hone : oneCellFields P #[f0, f1, f2, f3, f4] = true) (hC : P.cellsOf t = 5)
    (hv : Value.okWide P w r b0 t v) (h : DataW.Trod enc P w base spare held t v d p) :
    ∃ (v0 v1 v2 v3 v4 : Value) (y0 y1 y2 y3 y4 : DataW H × List MemPlace) (n : Nat), v = .agg #[v0, v1, v2, v3, v4] ∧ d = .agg [y0.1, y1.1, y2.1, y3.1, y4.1] ∧ p = y0.2 ++ (y1.2 ++ (y2.2 ++ (y3.2 ++ y4.2))) ∧
      DataW.trod enc P w base spare held n f0.type [v0] = some y0 ∧ DataW.trod enc P w base spare held n f1.type [v1] = some y1 ∧ DataW.trod enc P w base spare held n f2.type [v2] = some y2 ∧ DataW.trod enc P w base spare held n f3.type [v3] = some y3 ∧ DataW.trod enc P w base spare held n f4.type [v4] = some y4 := by
  obtain ⟨cs, rfl, hsz⟩ := okWide_struct hs hv
  obtain ⟨l⟩ := cs
  match l, hsz.trans hC with
  | [c0, c1, c2, c3, c4], _ =>
    obtain ⟨fuel, hf⟩ := h
    obtain ⟨xs, n, _, hx, _, hlen, hg⟩ := DataW.trod_struct hs hf
    obtain ⟨o0, k0⟩ := hone_of hone 0 f0 rfl
    obtain ⟨o1, k1⟩ := hone_of hone 1 f1 rfl
    obtain ⟨o2, k2⟩ := hone_of hone 2 f2 rfl
    obtain ⟨o3, k3⟩ := hone_of hone 3 f3 rfl
    obtain ⟨o4, k4⟩ := hone_of hone 4 f4 rfl
    match xs, hlen with
    | [y0, y1, y2, y3, y4], _ =>
      simp only [Prod.mk.injEq] at hx
      exact ⟨c0, c1, c2, c3, c4, y0, y1, y2, y3, y4, n, rfl, by simpa using hx.1, by simpa using hx.2, by simpa [Value.cells, o0, k0] using hg 0 f0 rfl, by simpa [Value.cells, o1, k1] using hg 1 f1 rfl, by simpa [Value.cells, o2, k2] using hg 2 f2 rfl, by simpa [Value.cells, o3, k3] using hg 3 f3 rfl, by simpa [Value.cells, o4, k4] using hg 4 f4 rfl⟩

theorem open_agg6 {r : Reach} {b0 : Nat} {t : TypeId} {f0 f1 f2 f3 f4 f5 : Field} {v : Value} {d : DataW H} {p : List MemPlace} (hs : P.underlying t = some (.struct #[f0, f1, f2, f3, f4, f5])) (hone : oneCellFields P #[f0, f1, f2, f3, f4, f5] = true) (hC : P.cellsOf t = 6)
    (hv : Value.okWide P w r b0 t v) (h : DataW.Trod enc P w base spare held t v d p) :
    ∃ (v0 v1 v2 v3 v4 v5 : Value) (y0 y1 y2 y3 y4 y5 : DataW H × List MemPlace) (n : Nat), v = .agg #[v0, v1, v2, v3, v4, v5] ∧ d = .agg [y0.1, y1.1, y2.1, y3.1, y4.1, y5.1] ∧ p = y0.2 ++ (y1.2 ++ (y2.2 ++ (y3.2 ++ (y4.2 ++ y5.2)))) ∧
      DataW.trod enc P w base spare held n f0.type [v0] = some y0 ∧ DataW.trod enc P w base spare held n f1.type [v1] = some y1 ∧ DataW.trod enc P w base spare held n f2.type [v2] = some y2 ∧ DataW.trod enc P w base spare held n f3.type [v3] = some y3 ∧ DataW.trod enc P w base spare held n f4.type [v4] = some y4 ∧ DataW.trod enc P w base spare held n f5.type [v5] = some y5 := by
  obtain ⟨cs, rfl, hsz⟩ := okWide_struct hs hv
  obtain ⟨l⟩ := cs
  match l, hsz.trans hC with
  | [c0, c1, c2, c3, c4, c5], _ =>
    obtain ⟨fuel, hf⟩ := h
    obtain ⟨xs, n, _, hx, _, hlen, hg⟩ := DataW.trod_struct hs hf
    obtain ⟨o0, k0⟩ := hone_of hone 0 f0 rfl
    obtain ⟨o1, k1⟩ := hone_of hone 1 f1 rfl
    obtain ⟨o2, k2⟩ := hone_of hone 2 f2 rfl
    obtain ⟨o3, k3⟩ := hone_of hone 3 f3 rfl
    obtain ⟨o4, k4⟩ := hone_of hone 4 f4 rfl
    obtain ⟨o5, k5⟩ := hone_of hone 5 f5 rfl
    match xs, hlen with
    | [y0, y1, y2, y3, y4, y5], _ =>
      simp only [Prod.mk.injEq] at hx
      exact ⟨c0, c1, c2, c3, c4, c5, y0, y1, y2, y3, y4, y5, n, rfl, by simpa using hx.1, by simpa using hx.2, by simpa [Value.cells, o0, k0] using hg 0 f0 rfl, by simpa [Value.cells, o1, k1] using hg 1 f1 rfl, by simpa [Value.cells, o2, k2] using hg 2 f2 rfl, by simpa [Value.cells, o3, k3] using hg 3 f3 rfl, by simpa [Value.cells, o4, k4] using hg 4 f4 rfl, by simpa [Value.cells, o5, k5] using hg 5 f5 rfl⟩
end
end aggs
section small
open Go.RowKit
theorem hide {p : Prop} (h : p) : Hid p := h
theorem unhide {p : Prop} (h : Hid p) : p := h
theorem quiet_add {P : Program} {f : FuncId} {args : Array Value} {w : World} {a n : Nat} {v : Value}
    (h : Calls P f args (w.drewN (a + n)) fun e w' => e = .returned v ∧ ∃ m, w' = (w.drewN (a + n)).drewN m) :
    Calls P f args (w.drewN (a + n)) fun e w'' => e = .returned v ∧ ∃ m, w'' = w.drewN (a + m) :=
  h.mono fun _ _ ⟨he, m, hm⟩ => ⟨he, n + m, by rw [hm, World.drewN_drewN, Nat.add_assoc]⟩
theorem quiet_add_same {P : Program} {f : FuncId} {args : Array Value} {w : World} {a n : Nat} {v : Value}
    (h : Calls P f args (w.drewN (a + n)) fun e w' => e = .returned v ∧ w' = w.drewN (a + n)) :
    Calls P f args (w.drewN (a + n)) fun e w'' => e = .returned v ∧ ∃ m, w'' = w.drewN (a + m) :=
  h.mono fun _ _ ⟨he, hm⟩ => ⟨he, n, hm⟩
theorem quiet_add_left {P : Program} {f : FuncId} {args : Array Value} {w : World} {a n : Nat} {v : Value}
    (h : Calls P f args (w.drewN (a + n)) fun e w' => e = .returned v ∧ w.drewN (a + n) = w') :
    Calls P f args (w.drewN (a + n)) fun e w'' => e = .returned v ∧ ∃ m, w'' = w.drewN (a + m) :=
  h.mono fun _ _ ⟨he, hm⟩ => ⟨he, n, hm.symm⟩
theorem quiet_left {P : Program} {f : FuncId} {args : Array Value} {w : World} {n : Nat} {v : Value}
    (h : Calls P f args (w.drewN n) fun e w' => e = .returned v ∧ w.drewN n = w') : Calls P f args (w.drewN n) fun e w'' => e = .returned v ∧ ∃ m, w'' = w.drewN m :=
  h.mono fun _ _ ⟨he, hm⟩ => ⟨he, n, hm.symm⟩
theorem results_tmp4 {fn : Func} {t u v x : Tmp} (h : fn.results = #[.tmp t, .tmp u, .tmp v, .tmp x]) (tmps : Array Value) (P : Program) (w : World) :
    (results fn tmps).run P w = .ok (.tuple #[tmps.getD t undef, tmps.getD u undef, tmps.getD v undef, tmps.getD x undef]) w := by simp [results, h]
theorem results_tmp5 {fn : Func} {t u v x y : Tmp} (h : fn.results = #[.tmp t, .tmp u, .tmp v, .tmp x, .tmp y]) (tmps : Array Value) (P : Program) (w : World) :
    (results fn tmps).run P w = .ok (.tuple #[tmps.getD t undef, tmps.getD u undef, tmps.getD v undef, tmps.getD x undef, tmps.getD y undef]) w := by simp [results, h]
theorem below_drewN {B : Nat} {a w : World} (h : Below B a w) (n : Nat) : Below B a (w.drewN n) := ⟨h.os, h.tape, h.output, h.size, h.block⟩
theorem rowIs_drewN {w : World} {b : Nat} {t : TypeId} {n : Nat} {f : Nat → Value} (h : w.rowIs b t n f) (k : Nat) : (w.drewN k).rowIs b t n f := h
theorem grown_trans {a b c : World} (h : Grown a b) (k : Grown b c) : Grown a c :=
  ⟨World.keptBut_trans h.1 k.1, fun x => (k.2.1 x).trans (h.2.1 x), Nat.le_trans h.2.2 k.2.2⟩

theorem only_drewN {a w : World} {row : Option Nat} (h : a.grownBy w row) (n : Nat) : a.grownBy (w.drewN n) row := ⟨h.os, h.tape, h.output, h.size, h.block⟩
theorem only_drew {a w : World} {row : Option Nat} (h : a.grownBy w row) : a.grownBy w.drew row := ⟨h.os, h.tape, h.output, h.size, h.block⟩
theorem only_alloc {a w : World} {row : Option Nat} (h : a.grownBy w row) (o : Obj) : a.grownBy (w.alloc o) row :=
  ⟨h.os, h.tape, h.output, Nat.le_trans h.size (by simp), fun i hi hne => (Below.heap_alloc w o i (Nat.lt_of_lt_of_le hi h.size)).trans (h.block i hi hne)⟩
theorem only_setCell {a w : World} {g : Nat} (h : a.grownBy w (some g)) {p : Addr} (hp : p.block = g ∨ a.heap.size ≤ p.block) (u : Value) : a.grownBy (w.setCell p u) (some g) :=
  ⟨h.os, h.tape, h.output, by simpa [World.setCell] using h.size, fun i hi hne => (Below.heap_setCell w p u i (by
    rintro rfl
    rcases hp with hp | hp
    · exact hne (by rw [hp])
    · omega)).trans (h.block i hi hne)⟩
theorem only_of_below {a w : World} (h : Below a.heap.size a w) (row : Option Nat) : a.grownBy w row := ⟨h.os, h.tape, h.output, h.size, fun i hi _ => h.block i hi⟩
theorem run_make_rowN {P : Program} (t e : TypeId) (i : TypeInfo) (z : Value) (ht : P.underlying t = some (.slice e)) (hi : P.info? e = some i) (hz : i.zero = some z)
    (kl kc : IntKind) (n c : Nat) (hnc : n ≤ c) (hbytes : i.bytes * c ≤ 281474976710656) (h63 : c ≤ 9223372036854775807) (w : World) :
    (Instr.makeSlice t (.int kl (n : Int)) (.int kc (c : Int))).run P w = .ok (.slice (some ⟨w.heap.size, 0, none⟩) n c) (w.alloc (.cells (madeCells z.cells (c * i.size)) e)) := by
  have hb : (i.bytes : Int) * (c : Int) ≤ 281474976710656 := by
    have h : ((i.bytes * c : Nat) : Int) ≤ 281474976710656 := by omega
    rwa [Int.natCast_mul] at h
  have hr := run_make (P := P) w t e i z ht hi hz kl kc n c (by omega) (by omega) hb (by omega)
  simp only [Int.toNat_natCast] at hr
  exact hr
theorem run_makeMap_hint {P : Program} (t k e : TypeId) (kd : IntKind) (n : Int) (ht : P.underlying t = some (.map k e)) (w : World) :
    (Instr.makeMap t (some (.int kd n))).run P w = .ok (.map (some w.heap.size)) (w.alloc (.map #[] 0)) := by
  simp [Instr.makeMap, run_underlying ht]; rfl
theorem run_neq_ptr_other {P : Program} (w : World) {tp te : TypeId} {j : TypeInfo} {a b : Addr} {ca cb : Array Value} {ta tb : TypeId} (hp : P.underlying tp = some (.pointer te)) (hte : P.info? te = some j) (hsz : j.size ≠ 0)
    (hne : a ≠ b) (ha : w.heap[a.block]? = some (.cells ca ta (0, 0))) (hb : w.heap[b.block]? = some (.cells cb tb (0, 0))) :
    (binOp .neq tp (.pointer (some a)) (.pointer (some b))).run P w = .ok (.bool true) w := by
  have h : ∀ d : Nat, (Op.equalIn (d + 1) tp (.pointer (some a)) (.pointer (some b))).run P w = .ok false w := fun d => by
    simp [Op.equalIn, run_underlying hp, sizeOf, typeInfo, hte, hsz, run_sameAddr_other w hne ha hb]
  simp only [binOp]
  simp [Op.equal, Op.maxDepth, h 9999]
theorem ofInt_i64 (a : Nat) (ha : a < 9223372036854775808) : (BitVec.ofInt 64 (a : Int)).toNat = a := by
  rw [BitVec.ofInt_natCast, BitVec.toNat_ofNat]; exact Nat.mod_eq_of_lt (by omega)
theorem i64_and_nat (a b : Nat) (ha : a < 9223372036854775808) (hb : b < 9223372036854775808) : bits .and .i64 (a : Int) (b : Int) = ((a &&& b : Nat) : Int) := by
  have hx : a &&& b < 2 ^ 63 := Nat.and_lt_two_pow _ (by omega)
  show IntKind.i64.wrap ((BitVec.ofInt 64 (a : Int) &&& BitVec.ofInt 64 (b : Int)).toNat : Int) = _
  rw [BitVec.toNat_and, ofInt_i64 a ha, ofInt_i64 b hb, IntKind.wrap_i64]
  omega
theorem i64_or_nat (a b : Nat) (ha : a < 9223372036854775808) (hb : b < 9223372036854775808) : bits .or .i64 (a : Int) (b : Int) = ((a ||| b : Nat) : Int) := by
  have hx : a ||| b < 2 ^ 63 := Nat.or_lt_two_pow (by omega) (by omega)
  show IntKind.i64.wrap ((BitVec.ofInt 64 (a : Int) ||| BitVec.ofInt 64 (b : Int)).toNat : Int) = _
  rw [BitVec.toNat_or, ofInt_i64 a ha, ofInt_i64 b hb, IntKind.wrap_i64]
  omega
theorem i64_xor_nat (a b : Nat) (ha : a < 9223372036854775808) (hb : b < 9223372036854775808) : bits .xor .i64 (a : Int) (b : Int) = ((a ^^^ b : Nat) : Int) := by
  have hx : a ^^^ b < 2 ^ 63 := Nat.xor_lt_two_pow (by omega) (by omega)
  show IntKind.i64.wrap ((BitVec.ofInt 64 (a : Int) ^^^ BitVec.ofInt 64 (b : Int)).toNat : Int) = _
  rw [BitVec.toNat_xor, ofInt_i64 a ha, ofInt_i64 b hb, IntKind.wrap_i64]
  omega
end small
section last
open Go.RowKit Go.WideShapes Go.ChangeShapes
section
variable {H : Type} {enc : TypeId × Value → H} {P : Program}
theorem post_of_below {f : Func} {s : ChangeSpec} {apart fresh handsOn again : Bool} {W W' : World} {args : Array Value} {v : Value} {ds gs : List (DataW H)} {before pa pv : List MemPlace}
    (hW : DataW.Whole enc P f.params.toList s.vars apart W args.toList ds gs before)
    (hres : ∀ (b : Nat) (sp : Nat → Bool) (hd : Bool), DataW.TrodAll enc P W' b sp hd f.resultTypes.toList (v.resultList f.resultTypes.size) (s.fn H (ds ++ gs)).results [])
    (hargs : ∀ sp : Nat → Bool, (∀ p ∈ before, sp p.block = true) → DataW.TrodAll enc P W' 0 sp true f.params.toList args.toList (s.fn H (ds ++ gs)).args pa)
    (hvars : ∀ sp : Nat → Bool, (∀ p ∈ before, sp p.block = true) → DataW.TrodVars enc P W' sp s.vars (s.fn H (ds ++ gs)).vars pv)
    (hps : before = pa ++ pv) (hb : Below W.heap.size W W')
    (hok : ∀ (j : Nat) (t : TypeId) (r : Value), f.resultTypes[j]? = some t → (v.resultList f.resultTypes.size)[j]? = some r → Value.okWide P W' .any 0 t r) :
    s.post enc P f apart fresh handsOn again W args v W' := by
  have hlt : ∀ p ∈ before, p.block < W.heap.size := fun p hp => hW.lt p hp
  have hold : ∀ p ∈ before, (fun b => decide (b < W.heap.size)) p.block = true := fun p hp => by simpa using hlt p hp
  refine ⟨ds, gs, before, [], pa, pv, hW, hres _ _ _, hargs _ hold, hvars _ hold, World.keptBut_mono (fun p hp => ⟨hp, ?_⟩) (hb.frame (· ∈ before)), fun _ => ?_⟩
  · rw [hps, List.mem_append] at hp
    exact Or.inr hp
  · obtain ⟨_, _, _, _, _, hz, hn⟩ := hW
    refine ⟨hok, _, _, ([] ++ pa) ++ pv, ⟨[] ++ pa, pv, trodAll_append (hargs _ (fun _ _ => rfl)) (hres _ _ _), hvars _ (fun _ _ => rfl), rfl, ?_, ?_⟩, ?_⟩
    · intro b off hp
      have hin : MemPlace.cell b off ∈ before := by rw [hps]; simpa using hp
      rw [hb.frozen (hlt _ hin)]
      exact hz b off hin
    · intro ha
      have := hn ha
      rw [hps] at this
      simpa using this
    · intro p hp _
      rw [hps]
      simpa using hp
end
end last
end Go.Proofs.Ytcmnjoepadjioaa

/- Abstract values and abstract memory: what values and blocks of the model's memory stand for. Nothing of the program is named here. -/
namespace Go.Proofs.Ytcmnjoepadjioaa
open Go.RowKit

/-- what a value stands for -/
inductive AV where
  | any
  | p (v : Value)
  | agg (cs : List AV)
  | tup (cs : List AV)
  | dsl (sz : Nat) (xs : List (List AV))
  | dptr (sz : Nat) (xs : List (List AV)) (i j : Nat)
  | ptr (id off : Nat)
  | eptr (id sz i j : Nat)
  | osl (id sz off n : Nat)
  | mp (id : Nat)
  | fn (f : Fn) (first captured : List AV)
/-- what a block stands for -/
inductive AO where
  | box (t : TypeId) (cs : List AV)
  | row (t : TypeId) (sz : Nat) (es : List (List AV))
  | frz (sz : Nat) (es : List (List AV))
  | map (kt : TypeId) (n : Nat) (f : Value → Option AV)
  | siter (s : ByteArray) (pos : Nat)
  | dead
structure AH where
  nx : Nat
  l : List (Nat × AO)
def lget : List (Nat × AO) → Nat → Option AO
  | [], _ => none
  | (i, o) :: r, k => if i = k then some o else lget r k
def lput : List (Nat × AO) → Nat → AO → List (Nat × AO)
  | [], k, o => [(k, o)]
  | (i, x) :: r, k, o => if k < i then (k, o) :: (i, x) :: r else if k = i then (k, o) :: r else (i, x) :: lput r k o
def ldel : List (Nat × AO) → Nat → List (Nat × AO)
  | [], _ => []
  | (i, x) :: r, k => if i = k then ldel r k else (i, x) :: ldel r k
def AH.get (H : AH) (k : Nat) : Option AO := lget H.l k
def AH.put (H : AH) (k : Nat) (o : AO) : AH := ⟨H.nx, lput H.l k o⟩
def AH.del (H : AH) (k : Nat) : AH := ⟨H.nx, ldel H.l k⟩
def AH.kill (H : AH) (k : Nat) : AH := H.put k .dead
def AH.up (H : AH) (n : Nat) : AH := ⟨H.nx + n, H.l⟩

theorem lget_lput_ne {l : List (Nat × AO)} {k j : Nat} {o : AO} (h : j ≠ k) : lget (lput l k o) j = lget l j := by
  induction l with
  | nil => simp [lput, lget]; omega
  | cons a r ih =>
    obtain ⟨i, x⟩ := a
    unfold lput
    split
    · simp [lget]; omega
    · split
      · rename_i _ h2; subst h2; simp [lget]; rw [if_neg (by omega), if_neg (by omega)]
      · simp only [lget, ih]
theorem lget_ldel_ne {l : List (Nat × AO)} {k j : Nat} (h : j ≠ k) : lget (ldel l k) j = lget l j := by
  induction l with
  | nil => rfl
  | cons a r ih =>
    obtain ⟨i, x⟩ := a
    unfold ldel
    split
    · rename_i h2; subst h2; rw [ih]; simp only [lget]; rw [if_neg (fun e => h e.symm)]
    · simp only [lget, ih]
theorem lget_ldel_self {l : List (Nat × AO)} {k : Nat} : lget (ldel l k) k = none := by
  induction l with
  | nil => rfl
  | cons a r ih =>
    obtain ⟨i, x⟩ := a
    unfold ldel
    split
    · exact ih
    · rename_i h2; simp only [lget]; rw [if_neg h2]; exact ih
/-- each number stands below those behind it -/
def sortedL : List (Nat × AO) → Prop
  | [] => True
  | (i, _) :: r => (∀ k, k ≤ i → lget r k = none) ∧ sortedL r
theorem lget_lput_self {l : List (Nat × AO)} {k : Nat} {o : AO} : lget (lput l k o) k = some o := by
  induction l with
  | nil => simp [lput, lget]
  | cons a r ih =>
    obtain ⟨i, x⟩ := a
    unfold lput
    split
    · simp [lget]
    · split
      · simp [lget]
      · rename_i h1 h2; simp only [lget]; rw [if_neg (fun e => h2 e.symm), ih]
theorem lput_comm {l : List (Nat × AO)} {i j : Nat} {x y : AO} (h : i ≠ j) : lput (lput l i x) j y = lput (lput l j y) i x := by
  induction l with
  | nil => grind [lput]
  | cons a r ih =>
    obtain ⟨k, z⟩ := a
    grind [lput]

/-- data: no block of the call's own in it -/
inductive RpD (w : World) (S : Nat → Prop) : AV → Value → Prop
  | p (v : Value) : v.oneCell' = true → RpD w S (.p v) v
  | agg (cs : List AV) (vs : Array Value) : cs.length = vs.size → (∀ (i : Nat) (a : AV) (v : Value), cs[i]? = some a → vs[i]? = some v → RpD w S a v) → (∀ v ∈ vs, v.oneCell' = true) → RpD w S (.agg cs) (.agg vs)
  | dsl (sz : Nat) (xs : List (List AV)) (A : Option Addr) (c : Nat) (z : Nat → Nat → Value) : xs.length ≤ c → c ≤ maxLen → (∀ e ∈ xs, e.length = sz) →
      (∀ (i : Nat) (e : List AV) (j : Nat) (a : AV), xs[i]? = some e → e[j]? = some a → ∃ g o, A = some ⟨g, o, none⟩ ∧ S g ∧ w.cell? ⟨g, o + i * sz + j, none⟩ = some (z i j)) →
      (∀ (i : Nat) (e : List AV) (j : Nat) (a : AV), xs[i]? = some e → e[j]? = some a → RpD w S a (z i j)) → (∀ i j, (z i j).oneCell' = true) → RpD w S (.dsl sz xs) (.slice A xs.length c)
inductive Rp (w : World) (S : Nat → Prop) (σ : Nat → Option Value) : AV → Value → Prop
  | any (v : Value) : Rp w S σ .any v
  | data (a : AV) (v : Value) : RpD w S a v → Rp w S σ a v
  | agg (cs : List AV) (vs : Array Value) : cs.length = vs.size → (∀ (i : Nat) (a : AV) (v : Value), cs[i]? = some a → vs[i]? = some v → Rp w S σ a v) → (∀ v ∈ vs, v.oneCell' = true) → Rp w S σ (.agg cs) (.agg vs)
  | tup (cs : List AV) (vs : Array Value) : cs.length = vs.size → (∀ (i : Nat) (a : AV) (v : Value), cs[i]? = some a → vs[i]? = some v → Rp w S σ a v) → Rp w S σ (.tup cs) (.tuple vs)
  | dptr (sz : Nat) (xs : List (List AV)) (i j g o c : Nat) : RpD w S (.dsl sz xs) (.slice (some ⟨g, o, none⟩) xs.length c) → i < xs.length → Rp w S σ (.dptr sz xs i j) (.pointer (some ⟨g, o + i * sz + j, none⟩))
  | ptr (id off g : Nat) : σ id = some (.pointer (some ⟨g, 0, none⟩)) → Rp w S σ (.ptr id off) (.pointer (some ⟨g, off, none⟩))
  | eptr (id sz i j g o n c : Nat) : σ id = some (.slice (some ⟨g, o, none⟩) n c) → Rp w S σ (.eptr id sz i j) (.pointer (some ⟨g, o + i * sz + j, none⟩))
  | osl (id sz off n : Nat) (A B : Option Addr) (N c cc : Nat) : σ id = some (.slice A N c) → n ≤ cc → off + cc = c → (0 < cc → B = A.map (·.add (off * sz))) → Rp w S σ (.osl id sz off n) (.slice B n cc)
  | mp (id g : Nat) : σ id = some (.map (some g)) → Rp w S σ (.mp id) (.map (some g))
  | fn (f : Fn) (first captured : List AV) (fs cs : Array Value) : first.length = fs.size → captured.length = cs.size → (∀ (i : Nat) (a : AV) (v : Value), first[i]? = some a → fs[i]? = some v → Rp w S σ a v) →
      (∀ (i : Nat) (a : AV) (v : Value), captured[i]? = some a → cs[i]? = some v → Rp w S σ a v) → Rp w S σ (.fn f first captured) (.func f fs cs)

section
variable {w w' : World} {S S' : Nat → Prop} {σ σ' : Nat → Option Value} {a : AV} {v : Value}
theorem RpD.mono (h : RpD w S a v) (hs : ∀ b, S b → S' b) (hw : ∀ b, S b → w'.heap[b]? = w.heap[b]?) : RpD w' S' a v := by
  induction h with
  | p v h => exact .p v h
  | agg cs vs hl _ h1 ih => exact .agg cs vs hl (fun i a v ha hv => ih i a v ha hv) h1
  | dsl sz xs A c z h1 h2 h3 h4 _ h6 ih =>
    refine .dsl sz xs A c z h1 h2 h3 (fun i e j a he ha => ?_) (fun i e j a he ha => ih i e j a he ha) h6
    obtain ⟨g, o, rfl, hg, hc⟩ := h4 i e j a he ha
    exact ⟨g, o, rfl, hs g hg, (World.cell?_of_block (hw g hg)).trans hc⟩
theorem Rp.mono (h : Rp w S σ a v) (hs : ∀ b, S b → S' b) (hw : ∀ b, S b → w'.heap[b]? = w.heap[b]?) (hg : ∀ id u, σ id = some u → σ' id = some u) : Rp w' S' σ' a v := by
  induction h with
  | any v => exact .any v
  | data a v h => exact .data a v (h.mono hs hw)
  | agg cs vs hl _ h1 ih => exact .agg cs vs hl (fun i a v ha hv => ih i a v ha hv) h1
  | tup cs vs hl _ ih => exact .tup cs vs hl (fun i a v ha hv => ih i a v ha hv)
  | dptr sz xs i j g o c h hi => exact .dptr sz xs i j g o c (h.mono hs hw) hi
  | ptr id off g h => exact .ptr id off g (hg _ _ h)
  | eptr id sz i j g o n c h => exact .eptr id sz i j g o n c (hg _ _ h)
  | osl id sz off n A B N c cc h h1 h2 h3 => exact .osl id sz off n A B N c cc (hg _ _ h) h1 h2 h3
  | mp id g h => exact .mp id g (hg _ _ h)
  | fn f first captured fs cs h1 h2 _ _ ih1 ih2 => exact .fn f first captured fs cs h1 h2 (fun i a v ha hv => ih1 i a v ha hv) (fun i a v ha hv => ih2 i a v ha hv)
/-- list by array -/
def Rps (w : World) (S : Nat → Prop) (σ : Nat → Option Value) (ps : List AV) (vs : List Value) : Prop := ps.length = vs.length ∧ ∀ (i : Nat) (a : AV) (v : Value), ps[i]? = some a → vs[i]? = some v → Rp w S σ a v
theorem Rps.nil : Rps w S σ [] [] := ⟨rfl, by simp⟩
theorem Rps.cons {ps : List AV} {vs : List Value} (h : Rp w S σ a v) (hs : Rps w S σ ps vs) : Rps w S σ (a :: ps) (v :: vs) := by
  refine ⟨by simp [hs.1], fun i b u hb hu => ?_⟩
  cases i with
  | zero => simp at hb hu; subst hb; subst hu; exact h
  | succ i => exact hs.2 i b u (by simpa using hb) (by simpa using hu)
theorem Rps.uncons {ps : List AV} {vs : List Value} (h : Rps w S σ (a :: ps) vs) : ∃ v r, vs = v :: r ∧ Rp w S σ a v ∧ Rps w S σ ps r := by
  obtain ⟨hl, h⟩ := h
  match vs, hl with
  | v :: r, hl => exact ⟨v, r, rfl, h 0 a v rfl rfl, by simpa using hl, fun i b u hb hu => h (i + 1) b u (by simpa using hb) (by simpa using hu)⟩
theorem Rps.nil_inv {vs : List Value} (h : Rps w S σ [] vs) : vs = [] := List.eq_nil_of_length_eq_zero h.1.symm
theorem Rps.mono {ps : List AV} {vs : List Value} (h : Rps w S σ ps vs) (hs : ∀ b, S b → S' b) (hw : ∀ b, S b → w'.heap[b]? = w.heap[b]?) (hg : ∀ id u, σ id = some u → σ' id = some u) : Rps w' S' σ' ps vs :=
  ⟨h.1, fun i a v ha hv => (h.2 i a v ha hv).mono hs hw hg⟩
theorem Rps.append {ps bs : List AV} {vs us : List Value} (h : Rps w S σ ps vs) (h' : Rps w S σ bs us) : Rps w S σ (ps ++ bs) (vs ++ us) := by
  refine ⟨by simp [h.1, h'.1], fun i a v ha hv => ?_⟩
  by_cases hi : i < ps.length
  · rw [List.getElem?_append_left hi] at ha
    rw [List.getElem?_append_left (by rw [← h.1]; exact hi)] at hv
    exact h.2 i a v ha hv
  · rw [List.getElem?_append_right (by omega)] at ha
    rw [List.getElem?_append_right (by rw [← h.1]; omega), ← h.1] at hv
    exact h'.2 _ a v ha hv
theorem Rp.p_inv {u : Value} (h : Rp w S σ (.p u) v) : v = u ∧ u.oneCell' = true := by
  cases h with
  | data _ _ h => cases h with | p _ h => exact ⟨rfl, h⟩
theorem Rp.agg_inv {cs : List AV} (h : Rp w S σ (.agg cs) v) : ∃ vs : Array Value, v = .agg vs ∧ Rps w S σ cs vs.toList ∧ ∀ u ∈ vs, u.oneCell' = true := by
  cases h with
  | data _ _ h => cases h with
    | agg _ vs hl h h1 => exact ⟨vs, rfl, ⟨by simpa using hl, fun i a u ha hu => .data _ _ (h i a u ha (by simpa using hu))⟩, h1⟩
  | agg _ vs hl h h1 => exact ⟨vs, rfl, ⟨by simpa using hl, fun i a u ha hu => h i a u ha (by simpa using hu)⟩, h1⟩
theorem Rp.tup_inv {cs : List AV} (h : Rp w S σ (.tup cs) v) : ∃ vs : Array Value, v = .tuple vs ∧ Rps w S σ cs vs.toList := by
  cases h with
  | data _ _ h => cases h
  | tup _ vs hl h => exact ⟨vs, rfl, by simpa using hl, fun i a u ha hu => h i a u ha (by simpa using hu)⟩
theorem Rp.dsl_inv {sz : Nat} {xs : List (List AV)} (h : Rp w S σ (.dsl sz xs) v) : RpD w S (.dsl sz xs) v := by
  cases h with
  | data _ _ h => exact h
theorem RpD.dsl_inv {sz : Nat} {xs : List (List AV)} (h : RpD w S (.dsl sz xs) v) : ∃ (A : Option Addr) (c : Nat) (z : Nat → Nat → Value), v = .slice A xs.length c ∧ xs.length ≤ c ∧ c ≤ maxLen ∧ (∀ e ∈ xs, e.length = sz) ∧
      (∀ (i : Nat) (e : List AV) (j : Nat) (a : AV), xs[i]? = some e → e[j]? = some a → ∃ g o, A = some ⟨g, o, none⟩ ∧ S g ∧ w.cell? ⟨g, o + i * sz + j, none⟩ = some (z i j)) ∧
      (∀ (i : Nat) (e : List AV) (j : Nat) (a : AV), xs[i]? = some e → e[j]? = some a → RpD w S a (z i j)) ∧ (∀ i j, (z i j).oneCell' = true) := by
  cases h with
  | dsl _ _ A c z h1 h2 h3 h4 h5 h6 => exact ⟨A, c, z, rfl, h1, h2, h3, h4, h5, h6⟩
theorem Rp.dptr_inv {sz i j : Nat} {xs : List (List AV)} (h : Rp w S σ (.dptr sz xs i j) v) : ∃ g o c, v = .pointer (some ⟨g, o + i * sz + j, none⟩) ∧ RpD w S (.dsl sz xs) (.slice (some ⟨g, o, none⟩) xs.length c) ∧ i < xs.length := by
  cases h with
  | data _ _ h => cases h
  | dptr _ _ _ _ g o c h hi => exact ⟨g, o, c, rfl, h, hi⟩
theorem Rp.ptr_inv {id off : Nat} (h : Rp w S σ (.ptr id off) v) : ∃ g, v = .pointer (some ⟨g, off, none⟩) ∧ σ id = some (.pointer (some ⟨g, 0, none⟩)) := by
  cases h with
  | data _ _ h => cases h
  | ptr _ _ g h => exact ⟨g, rfl, h⟩
theorem Rp.eptr_inv {id sz i j : Nat} (h : Rp w S σ (.eptr id sz i j) v) : ∃ g o n c, v = .pointer (some ⟨g, o + i * sz + j, none⟩) ∧ σ id = some (.slice (some ⟨g, o, none⟩) n c) := by
  cases h with
  | data _ _ h => cases h
  | eptr _ _ _ _ g o n c h => exact ⟨g, o, n, c, rfl, h⟩
theorem Rp.osl_inv {id sz off n : Nat} (h : Rp w S σ (.osl id sz off n) v) : ∃ (A B : Option Addr) (N c cc : Nat), v = .slice B n cc ∧ σ id = some (.slice A N c) ∧ n ≤ cc ∧ off + cc = c ∧ (0 < cc → B = A.map (·.add (off * sz))) := by
  cases h with
  | data _ _ h => cases h
  | osl _ _ _ _ A B N c cc h h1 h2 h3 => exact ⟨A, B, N, c, cc, rfl, h, h1, h2, h3⟩
theorem Rp.mp_inv {id : Nat} (h : Rp w S σ (.mp id) v) : ∃ g, v = .map (some g) ∧ σ id = some (.map (some g)) := by
  cases h with
  | data _ _ h => cases h
  | mp _ g h => exact ⟨g, rfl, h⟩
theorem Rp.fn_inv {f : Fn} {first captured : List AV} (h : Rp w S σ (.fn f first captured) v) : ∃ fs cs : Array Value, v = .func f fs cs ∧ Rps w S σ first fs.toList ∧ Rps w S σ captured cs.toList := by
  cases h with
  | data _ _ h => cases h
  | fn _ _ _ fs cs h1 h2 h3 h4 => exact ⟨fs, cs, rfl, ⟨by simpa using h1, fun i a u ha hu => h3 i a u ha (by simpa using hu)⟩, by simpa using h2, fun i a u ha hu => h4 i a u ha (by simpa using hu)⟩
theorem Rps.agg {cs : List AV} {vs : Array Value} (h : Rps w S σ cs vs.toList) (h1 : ∀ u ∈ vs, u.oneCell' = true) : Rp w S σ (.agg cs) (.agg vs) :=
  .agg cs vs (by simpa using h.1) (fun i a v ha hv => h.2 i a v ha (by simpa using hv)) h1
theorem Rps.tup {cs : List AV} {vs : Array Value} (h : Rps w S σ cs vs.toList) : Rp w S σ (.tup cs) (.tuple vs) :=
  .tup cs vs (by simpa using h.1) (fun i a v ha hv => h.2 i a v ha (by simpa using hv))
end
/-- one cell's worth -/
def AV.one : AV → Bool
  | .any | .agg _ | .tup _ => false
  | _ => true
theorem Rp.one_cell {w : World} {S : Nat → Prop} {σ : Nat → Option Value} {a : AV} {v : Value} (h : Rp w S σ a v) (h1 : a.one = true) : v.oneCell' = true := by
  cases h with
  | data _ _ h => cases h with
    | p _ h => exact h
    | agg _ _ _ _ => cases h1
    | dsl => rfl
  | any | agg | tup => cases h1
  | dptr | ptr | eptr | osl | mp | fn => rfl
end Go.Proofs.Ytcmnjoepadjioaa

/- The last step of every law: where the call returns true and turns nothing that was there, the row's claim is met. Nothing of the program is named here. -/
namespace Go.Proofs.Ytcmnjoepadjioaa
open Go.ChangeShapes Go.WideShapes Go.ChangeAt Go.RowKit

theorem own : ownKnob Try.prog.godebug = none := by kernel_rfl
theorem laidOut : laidOutB Try.prog = true := by kernel_rfl

section
variable {H : Type} {enc : TypeId × Value → H} {P : Program}
theorem trodAll_stays (hl : laidOutB P = true) {W W' : World} {sp' : Nat → Bool} : ∀ {ts : List TypeId} {vs : List Value} {ds : List (DataW H)} {ps : List MemPlace},
    (ts.all fun t => P.readableRec t && decide (t < P.types.size)) = true → DataW.TrodAll enc P W 0 (fun _ => true) true ts vs ds ps → (∀ p ∈ ps, W.sameAt W' p) → (∀ p ∈ ps, sp' p.block = true) →
    DataW.TrodAll enc P W' 0 sp' true ts vs ds ps
  | [], vs, ds, ps, _, h, _, _ => by
    obtain ⟨rfl, rfl, rfl⟩ := trodAll_nil h
    exact trodAll_mk0
  | t :: ts, vs, ds, ps, hr, h, hs, hp => by
    obtain ⟨v, vs', d, ds', p, q, rfl, rfl, rfl, h0, h1⟩ := trodAll_cons h
    simp only [List.all_cons, Bool.and_eq_true, decide_eq_true_eq] at hr
    exact trodAll_cons_mk (WideElems.Trod_stays hl hr.1.1 hr.1.2 h0 (fun x hx => hs x (by simp [hx])) (fun x hx => hp x (by simp [hx])))
      (trodAll_stays hl (by simpa using hr.2) h1 (fun x hx => hs x (by simp [hx])) (fun x hx => hp x (by simp [hx])))

theorem post_true {f : Func} {s : ChangeSpec} {apart fresh handsOn again : Bool} {W W' : World} {args : Array Value} {ds gs : List (DataW H)} {before : List MemPlace} {tb : TypeId}
    (hrt : f.resultTypes = #[tb]) (hb : P.underlying tb = some .bool) (hvars : s.vars = []) (hl : laidOutB P = true)
    (hr : (f.params.toList.all fun t => P.readableRec t && decide (t < P.types.size)) = true)
    (hW : DataW.Whole enc P f.params.toList s.vars apart W args.toList ds gs before) (hfn : s.fn H (ds ++ gs) = { results := [.lit (.bool true)], args := ds })
    (hbelow : Below W.heap.size W W') : s.post enc P f apart fresh handsOn again W args (.bool true) W' := by
  have hW' := hW
  obtain ⟨p, q, hA, hV, rfl, hfz, hnd⟩ := hW
  rw [hvars] at hV
  obtain ⟨rfl, rfl⟩ := trodVars_none hV
  have hlt : ∀ x ∈ p ++ [], x.block < W.heap.size := fun x hx => hW'.lt x hx
  refine post_of_below (pa := p) (pv := []) hW' (fun b sp hd => ?_) (fun sp hsp => ?_) (fun sp _ => ?_) rfl hbelow (ok_one hrt rfl (okWide_bool_mk hb _))
  · rw [hfn, hrt]; exact trodAll_mk1 (shut_bool hb _)
  · rw [hfn]; exact trodAll_stays hl hr hA (fun x hx => hbelow.same (hlt x (by simp [hx]))) (fun x hx => hsp x (by simp [hx]))
  · rw [hfn, hvars]; exact rfl
end
end Go.Proofs.Ytcmnjoepadjioaa

/- Small facts of use in many walks: returns, a string's iterator anywhere in memory, new cells. Nothing of the program is named here. -/
namespace Go.Proofs.Ytcmnjoepadjioaa
open Go.RowKit

theorem ret_tup2 {k l : IntKind} {a b c d : Int} (h : a = b) (h' : c = d) : Ending.returned (.tuple #[.int k a, .int l c]) = .returned (.tuple #[.int k b, .int l d]) := by rw [h, h']
theorem ret_tup3 {k l m : IntKind} {a b c d e f : Int} (h : a = b) (h' : c = d) (h'' : e = f) : Ending.returned (.tuple #[.int k a, .int l c, .int m e]) = .returned (.tuple #[.int k b, .int l d, .int m f]) := by rw [h, h', h'']
theorem ret_bool {a b : Bool} (h : a = b) : Ending.returned (.bool a) = .returned (.bool b) := by rw [h]
theorem ret_int {k : IntKind} {a b : Int} (h : a = b) : Ending.returned (.int k a) = .returned (.int k b) := by rw [h]

theorem cells_new (w : World) (xs : List Value) (t : TypeId) : ∀ (j : Nat) (u : Value), xs[j]? = some u → (w.alloc (.cells xs.toArray t)).cell? (Addr.add ⟨w.heap.size, 0, none⟩ j) = some u := by
  intro j u hu
  have hb := (Blk.new w t xs.toArray).cell j
  have : Addr.add ⟨w.heap.size, 0, none⟩ j = ⟨w.heap.size, j, none⟩ := by
    unfold Addr.add; split
    · rename_i h; simp
    · simp
  rw [this, hb]; simpa using hu
theorem one3 (k1 k2 k3 : IntKind) (a b c : Int) : ∀ u ∈ [Value.int k1 a, .int k2 b, .int k3 c], u.oneCell' = true := by
  intro u hu; simp at hu; rcases hu with rfl | rfl | rfl <;> rfl
theorem own_ge {w : World} {base : Nat} {e : TypeId} {size n : Nat} {v : Value} {xs : List Value} (h : w.ownsRow base e size v n xs) : ∀ k, v.ownBlock = some k → base ≤ k := by
  intro k hk
  rcases h.2 with ⟨rfl, _⟩ | ⟨g, cap, cur, rfl, hg, _⟩
  · simp [Value.ownBlock] at hk
  · simp [Value.ownBlock] at hk; omega
theorem ownsRow_none (w : World) (base : Nat) (e : TypeId) (size : Nat) : w.ownsRow base e size (.slice none 0 0) 0 [] := ⟨by simp, .inl ⟨rfl, rfl⟩⟩

theorem own_drewN {w : World} {base : Nat} {e : TypeId} {size n : Nat} {v : Value} {xs : List Value} (h : w.ownsRow base e size v n xs) (k : Nat) : (w.drewN k).ownsRow base e size v n xs := h

/-- the iterator in block g moves to p -/
def setIter (w : World) (g : Nat) (s : ByteArray) (p : Nat) : World := { w with heap := w.heap.setIfInBounds g (.stringIter s p) }
section
variable {P : Program} {w : World} {g : Nat} {s : ByteArray} {p : Nat}
theorem run_next_at (ty : TypeId) (hg : w.heap[g]? = some (.stringIter s p)) (h : p < s.size) :
    (Instr.next (.pointer (some ⟨g, 0, none⟩)) true ty).run P w =
      .ok (.tuple #[.bool true, .int .i64 p, .int .i32 (Utf8.decode s p).1]) (setIter w g s (p + (Utf8.decode s p).2)) := by
  simp only [Instr.next, getObj, setObj, Sem.run_bind, Sem.run, hg, Result.andThen, h, if_true]
  simp [goInt, setIter]
theorem run_next_over (ty : TypeId) (hg : w.heap[g]? = some (.stringIter s p)) (h : ¬ p < s.size) :
    (Instr.next (.pointer (some ⟨g, 0, none⟩)) true ty).run P w = .ok (.tuple #[.bool false]) w := by
  simp [Instr.next, getObj, Sem.run, hg, h]
theorem setIter_get (q : Nat) (hg : w.heap[g]? = some (.stringIter s p)) : (setIter w g s q).heap[g]? = some (.stringIter s q) := by
  have : g < w.heap.size := (Array.getElem?_eq_some_iff.1 hg).1
  simp [setIter, this]
theorem setIter_size (q : Nat) : (setIter w g s q).heap.size = w.heap.size := by simp [setIter]
theorem setIter_far (q k : Nat) (h : k ≠ g) : (setIter w g s q).heap[k]? = w.heap[k]? := by
  simp [setIter, Array.getElem?_setIfInBounds]; intro e; exact absurd e.symm h
theorem below_setIter {B : Nat} {a : World} (h : Below B a w) (hB : B ≤ g) (q : Nat) : Below B a (setIter w g s q) :=
  h.trans ⟨rfl, rfl, rfl, by simp [setIter], fun k hk => setIter_far q k (by omega)⟩
theorem own_setIter {base : Nat} {e : TypeId} {size n : Nat} {v : Value} {xs : List Value} (h : w.ownsRow base e size v n xs) (hg : w.heap[g]? = some (.stringIter s p)) (q : Nat) :
    (setIter w g s q).ownsRow base e size v n xs := by
  refine ⟨h.1, ?_⟩
  rcases h.2 with h2 | ⟨g', cap, cur, hv, hb, hh, hr⟩
  · exact .inl h2
  · refine .inr ⟨g', cap, cur, hv, hb, ?_, hr⟩
    rw [setIter_far]
    · exact hh
    · rintro rfl; rw [hh] at hg; cases hg
theorem own_ne_iter {base : Nat} {e : TypeId} {size n : Nat} {v : Value} {xs : List Value} (h : w.ownsRow base e size v n xs) (hg : w.heap[g]? = some (.stringIter s p)) : some g ≠ v.ownBlock := by
  rcases h.2 with ⟨rfl, _⟩ | ⟨g', cap, cur, rfl, _, hh, _⟩
  · simp [Value.ownBlock]
  · intro he
    have : g = g' := by simpa [Value.ownBlock] using he
    subst this; rw [hh] at hg; cases hg
theorem iter_new (w : World) (s : ByteArray) (p : Nat) : (w.iter s p).heap[w.heap.size]? = some (.stringIter s p) := World.iter_heap w s p
theorem below_iter {B : Nat} {a : World} (h : Below B a w) (hB : B ≤ w.heap.size) (s : ByteArray) (q : Nat) : Below B a (w.iter s q) := h.alloc hB _
end

/-- two drawn strings -/
theorem decode_width (s : ByteArray) (a : Nat) (ha : a < s.size) : 1 ≤ (Utf8.decode s a).2 ∧ a + (Utf8.decode s a).2 ≤ s.size := by
  simp only [Utf8.decode]
  repeat' split
  all_goals (first | (constructor <;> simp_all <;> omega) | (simp_all; omega) | skip)
end Go.Proofs.Ytcmnjoepadjioaa

/- Rows of structs of three integers: elements read, rows kept. Nothing of the program is named here. -/
namespace Go.Proofs.Ytcmnjoepadjioaa
open Go.RowKit

/-- the cells of rows of three integers -/
def unitCells (l : List (Int × Int × Int)) : List Value := l.flatMap fun u => [.int .i64 u.1, .int .i64 u.2.1, .int .i64 u.2.2]
theorem unitCells_len (l : List (Int × Int × Int)) : (unitCells l).length = l.length * 3 := by
  induction l with
  | nil => rfl
  | cons u l ih =>
    have e : unitCells (u :: l) = [.int .i64 u.1, .int .i64 u.2.1, .int .i64 u.2.2] ++ unitCells l := rfl
    rw [e, List.length_append, ih]; simp; omega
theorem unitCells_get (l : List (Int × Int × Int)) (k : Nat) (hk : k < l.length) :
    (unitCells l)[k * 3]? = some (.int .i64 (l[k]'hk).1) ∧ (unitCells l)[k * 3 + 1]? = some (.int .i64 (l[k]'hk).2.1) ∧ (unitCells l)[k * 3 + 2]? = some (.int .i64 (l[k]'hk).2.2) := by
  induction l generalizing k with
  | nil => simp at hk
  | cons u l ih =>
    match k with
    | 0 => simp [unitCells]
    | k + 1 =>
      have h := ih k (by simpa using hk)
      have e : unitCells (u :: l) = [.int .i64 u.1, .int .i64 u.2.1, .int .i64 u.2.2] ++ unitCells l := rfl
      rw [e]
      have q : ∀ j, ([Value.int .i64 u.1, .int .i64 u.2.1, .int .i64 u.2.2] ++ unitCells l)[(k + 1) * 3 + j]? = (unitCells l)[k * 3 + j]? := by
        intro j
        rw [List.getElem?_append_right (by simp; omega)]
        congr 1; simp; omega
      have q0 := q 0; simp only [Nat.add_zero] at q0
      rw [q0, q 1, q 2]
      exact h
/-- an element of an owned row -/
theorem row3_at {w : World} {B e n c k : Nat} {A : Option Addr} {l : List (Int × Int × Int)} (h : w.ownsRow B e 3 (.slice A n c) l.length (unitCells l)) (hk : k < l.length) :
    ∃ g, A = some ⟨g, 0, none⟩ ∧ n = l.length ∧ B ≤ g ∧ g < w.heap.size ∧ w.cell? ⟨g, k * 3, none⟩ = some (.int .i64 (l[k]'hk).1) ∧ w.cell? ⟨g, k * 3 + 1, none⟩ = some (.int .i64 (l[k]'hk).2.1) ∧ w.cell? ⟨g, k * 3 + 2, none⟩ = some (.int .i64 (l[k]'hk).2.2) := by
  rcases h.2 with ⟨_, h0⟩ | ⟨g, cap, cur, hv, hB, hh, hn, hc, hs, ht⟩
  · omega
  · simp only [Value.slice.injEq] at hv
    obtain ⟨rfl, rfl, rfl⟩ := hv
    obtain ⟨u0, u1, u2⟩ := unitCells_get l k hk
    have hb : Blk w g e cur := hh
    have get : ∀ j v, (unitCells l)[j]? = some v → w.cell? ⟨g, j, none⟩ = some v := by
      intro j v hj
      rw [hb.cell]
      rw [← ht] at hj
      rw [List.getElem?_take] at hj
      split at hj
      · rw [← hj, Array.getElem?_toList]
      · cases hj
    exact ⟨g, rfl, rfl, hB, hb.lt, get _ _ u0, get _ _ u1, get _ _ u2⟩
theorem own_slice {w : World} {B e s n : Nat} {v : Value} {xs : List Value} (h : w.ownsRow B e s v n xs) : ∃ A c, v = .slice A n c := by
  rcases h.2 with ⟨hv, h0⟩ | ⟨g, cap, cur, hv, _⟩
  · exact ⟨none, 0, by rw [hv, h0]⟩
  · exact ⟨_, _, hv⟩
/-- a row of another type is kept -/
theorem own_others {w w' : World} {B e e' b s n : Nat} {v : Value} {xs : List Value} (h : w.ownsRow B e s v n xs) (hk : Lib.OthersKept e' (some b) w w') (hne : e ≠ e') (hb : v.ownBlock ≠ some b) : w'.ownsRow B e s v n xs := by
  refine ⟨h.1, ?_⟩
  rcases h.2 with h2 | ⟨g, cap, cur, hv, hB, hh, hr⟩
  · exact .inl h2
  · exact .inr ⟨g, cap, cur, hv, hB, hk g _ hh (by rw [hv] at hb; simpa [Value.ownBlock] using hb) (by intro c fz hc; simp only [Obj.cells.injEq] at hc; exact hne hc.2.1), hr⟩
theorem own_below {w w' : World} {B e s n K : Nat} {v : Value} {xs : List Value} (h : w.ownsRow B e s v n xs) (hb : Below K w w') (hlt : ∀ g, v.ownBlock = some g → g < K) : w'.ownsRow B e s v n xs := by
  refine ⟨h.1, ?_⟩
  rcases h.2 with h2 | ⟨g, cap, cur, hv, hB, hh, hr⟩
  · exact .inl h2
  · exact .inr ⟨g, cap, cur, hv, hB, (hb.block g (hlt g (by rw [hv]; rfl))).trans hh, hr⟩
theorem own_lt {w : World} {B e s n : Nat} {v : Value} {xs : List Value} (h : w.ownsRow B e s v n xs) : ∀ g, v.ownBlock = some g → g < w.heap.size := by
  intro g hg
  rcases h.2 with ⟨rfl, _⟩ | ⟨g', cap, cur, rfl, _, hh, _⟩
  · simp [Value.ownBlock] at hg
  · simp [Value.ownBlock] at hg; subst hg; exact (Array.getElem?_eq_some_iff.1 hh).1
theorem own_below_all {w w' : World} {B e s n : Nat} {v : Value} {xs : List Value} (h : w.ownsRow B e s v n xs) (hb : Below w.heap.size w w') : w'.ownsRow B e s v n xs :=
  own_below h hb (own_lt h)
theorem unitCells_append (l r : List (Int × Int × Int)) : unitCells (l ++ r) = unitCells l ++ unitCells r := by simp [unitCells]
theorem unitCells_set (o : List (Int × Int × Int)) (a b c x : Int) : (unitCells (o ++ [(a, b, c)])).set (o.length * 3 + 2) (.int .i64 x) = unitCells (o ++ [(a, b, x)]) := by
  rw [unitCells_append, unitCells_append, List.set_append, if_neg (by rw [unitCells_len]; omega)]
  congr 1
  rw [unitCells_len]
  have : o.length * 3 + 2 - o.length * 3 = 2 := by omega
  rw [this]; rfl
/-- rows of two types lie in two blocks -/
theorem own_ne {w : World} {B B' e e' s s' n n' g g' c c' : Nat} {xs xs' : List Value} (h : w.ownsRow B e s (.slice (some ⟨g, 0, none⟩) n c) n xs) (h' : w.ownsRow B' e' s' (.slice (some ⟨g', 0, none⟩) n' c') n' xs') (hne : e ≠ e') : g ≠ g' := by
  rintro rfl
  obtain ⟨c1, f1, h1⟩ := (show ∃ c fz, w.heap[g]? = some (.cells c e fz) from by
    rcases h.2 with ⟨hv, _⟩ | ⟨g1, cap, cur, hv, _, hh, _⟩
    · simp at hv
    · simp only [Value.slice.injEq, Option.some.injEq, Addr.mk.injEq] at hv; obtain ⟨⟨rfl, _⟩, _⟩ := hv; exact ⟨_, _, hh⟩)
  obtain ⟨c2, f2, h2⟩ := (show ∃ c fz, w.heap[g]? = some (.cells c e' fz) from by
    rcases h'.2 with ⟨hv, _⟩ | ⟨g1, cap, cur, hv, _, hh, _⟩
    · simp at hv
    · simp only [Value.slice.injEq, Option.some.injEq, Addr.mk.injEq] at hv; obtain ⟨⟨rfl, _⟩, _⟩ := hv; exact ⟨_, _, hh⟩)
  rw [h1] at h2; simp only [Option.some.injEq, Obj.cells.injEq] at h2; exact hne h2.2.1
end Go.Proofs.Ytcmnjoepadjioaa

/- Readings: what a list of cells stands for: integers, bools, texts, slices of these, one in the other; kept by whatever leaves their blocks alone. Nothing of the program is named here. -/
namespace Go.Proofs.Ytcmnjoepadjioaa
open Go.RowKit

/-- what cells stand for; S: the blocks that are read -/
structure Rep (α : Type) where
  size : Nat
  bulk : α → Nat
  R : World → (Nat → Prop) → List Value → α → Prop
  len : ∀ {w S cs x}, R w S cs x → cs.length = size
  one : ∀ {w S cs x}, R w S cs x → ∀ u ∈ cs, u.oneCell' = true
  keep : ∀ {w w' : World} {S cs x}, R w S cs x → (∀ p : Addr, S p.block → w'.cell? p = w.cell? p) → R w' S cs x
  more : ∀ {w : World} {S S' : Nat → Prop} {cs x}, R w S cs x → (∀ b, S b → S' b) → R w S' cs x

def I64 (x : Int) : Prop := -9223372036854775808 ≤ x ∧ x ≤ 9223372036854775807
theorem i64_of {x : Int} (h : -9223372036854775808 ≤ x) (h' : x ≤ 9223372036854775807) : I64 x := ⟨h, h'⟩
theorem I64.lo {x : Int} (h : I64 x) : -9223372036854775808 ≤ x := h.1
theorem I64.hi {x : Int} (h : I64 x) : x ≤ 9223372036854775807 := h.2
theorem I64.wf {x : Int} (h : I64 x) : (Lit.int .i64 x).wf = true := WalkArith.wf_i64 ⟨h.1, h.2⟩

def rInt : Rep Int where
  size := 1
  bulk _ := 1
  R _ _ cs x := cs = [.int .i64 x] ∧ I64 x
  len h := by rw [h.1]; rfl
  one h := by rw [h.1]; intro u hu; simp at hu; subst hu; rfl
  keep h _ := h
  more h _ := h
def rBool : Rep Bool where
  size := 1
  bulk _ := 1
  R _ _ cs x := cs = [.bool x]
  len h := by rw [h]; rfl
  one h := by rw [h]; intro u hu; simp at hu; subst hu; rfl
  keep h _ := h
  more h _ := h
def rStr : Rep ByteArray where
  size := 1
  bulk s := s.size + 1
  R _ _ cs x := cs = [.string x] ∧ x.size ≤ maxLen
  len h := by rw [h.1]; rfl
  one h := by rw [h.1]; intro u hu; simp at hu; subst hu; rfl
  keep h _ := h
  more h _ := h

section
variable {α : Type} {ρ : Rep α} {w w' : World} {S S' : Nat → Prop} {A : Option Addr} {c : Nat} {xs : List α}

/-- a slice's elements -/
def Sl (ρ : Rep α) (w : World) (S : Nat → Prop) (A : Option Addr) (c : Nat) (xs : List α) : Prop :=
  xs.length ≤ c ∧ c ≤ maxLen ∧ ∀ i x, xs[i]? = some x → ∃ ad u, A = some ad ∧ S ad.block ∧ ρ.R w S u x ∧ ∀ j z, u[j]? = some z → w.cell? (ad.add (i * ρ.size + j)) = some z

theorem Sl.keep (h : Sl ρ w S A c xs) (hk : ∀ p : Addr, S p.block → w'.cell? p = w.cell? p) : Sl ρ w' S A c xs :=
  ⟨h.1, h.2.1, fun i x hx => by
    obtain ⟨ad, u, e, hs, hr, hc⟩ := h.2.2 i x hx
    exact ⟨ad, u, e, hs, ρ.keep hr hk, fun j z hz => (hk _ (by rw [block_of_add]; exact hs)).trans (hc j z hz)⟩⟩
theorem Sl.more (h : Sl ρ w S A c xs) (hm : ∀ b, S b → S' b) : Sl ρ w S' A c xs :=
  ⟨h.1, h.2.1, fun i x hx => by
    obtain ⟨ad, u, e, hs, hr, hc⟩ := h.2.2 i x hx
    exact ⟨ad, u, e, hm _ hs, ρ.more hr hm, hc⟩⟩
theorem Sl.below (h : Sl ρ w S A c xs) (hS : ∀ b, S b → b < w.heap.size) (hb : Below w.heap.size w w') : Sl ρ w' S A c xs := h.keep fun p hp => hb.cell (hS _ hp)
theorem in_below (hS : ∀ b, S b → b < w.heap.size) (hb : Below w.heap.size w w') : ∀ b, S b → b < w'.heap.size := fun b h => Nat.lt_of_lt_of_le (hS b h) hb.size
theorem Sl.nil_ : Sl ρ w S none 0 [] := ⟨by simp, by simp [maxLen], by simp⟩
theorem Sl.le (h : Sl ρ w S A c xs) : xs.length ≤ c := h.1
theorem Sl.max (h : Sl ρ w S A c xs) : c ≤ maxLen := h.2.1
theorem Sl.at_ (h : Sl ρ w S A c xs) {k : Nat} (hk : k < xs.length) : ∃ ad u, A = some ad ∧ S ad.block ∧ ρ.R w S u (xs[k]'hk) ∧ ∀ j z, u[j]? = some z → w.cell? (ad.add (k * ρ.size + j)) = some z :=
  h.2.2 k _ (List.getElem?_eq_getElem hk)
/-- an element of several cells, as the walk spells them -/
theorem Sl.fields (h : Sl ρ w S A c xs) {k : Nat} (hk : k < xs.length) : ∃ ad u, A = some ad ∧ S ad.block ∧ ρ.R w S u (xs[k]'hk) ∧ (∀ z, u[0]? = some z → w.cell? (ad.add (k * ρ.size)) = some z) ∧
    ∀ j z, u[j + 1]? = some z → w.cell? ⟨(ad.add (k * ρ.size)).block, (ad.add (k * ρ.size)).off + (j + 1), none⟩ = some z := by
  obtain ⟨ad, u, e, hs, hr, hc⟩ := h.at_ hk
  refine ⟨ad, u, e, hs, hr, fun z hz => hc 0 z hz, fun j z hz => ?_⟩
  have := hc (j + 1) z hz
  rw [← add_of_add] at this
  exact this
/-- s[k:] -/
theorem Sl.cut (h : Sl ρ w S A c xs) (k : Nat) : Sl ρ w S (if c = k then A else A.map (·.add (k * ρ.size))) (c - k) (xs.drop k) := by
  obtain ⟨h1, h2, h3⟩ := h
  refine ⟨by rw [List.length_drop]; omega, by omega, fun i x hx => ?_⟩
  rw [List.getElem?_drop] at hx
  have hlt : k + i < xs.length := (List.getElem?_eq_some_iff.1 hx).1
  obtain ⟨ad, u, e, hs, hr, hc⟩ := h3 (k + i) x hx
  rw [if_neg (by omega), e]
  refine ⟨_, u, rfl, by rw [block_of_add]; exact hs, hr, fun j z hz => ?_⟩
  rw [add_of_add]
  have := hc j z hz
  rwa [show k * ρ.size + (i * ρ.size + j) = (k + i) * ρ.size + j from by rw [Nat.add_mul]; omega]
/-- s[:k] -/
theorem Sl.top (h : Sl ρ w S A c xs) (k : Nat) : Sl ρ w S A c (xs.take k) := by
  obtain ⟨h1, h2, h3⟩ := h
  refine ⟨by rw [List.length_take]; omega, h2, fun i x hx => h3 i x ?_⟩
  rw [List.getElem?_take] at hx
  split at hx
  · exact hx
  · cases hx

def rList (ρ : Rep α) : Rep (List α) where
  size := 1
  bulk xs := (xs.map ρ.bulk).sum + 1
  R w S cs xs := ∃ A c, cs = [.slice A xs.length c] ∧ Sl ρ w S A c xs
  len := fun ⟨_, _, e, _⟩ => by rw [e]; rfl
  one := fun ⟨_, _, e, _⟩ => by rw [e]; intro u hu; simp at hu; subst hu; rfl
  keep := fun ⟨A, c, e, h⟩ hk => ⟨A, c, e, h.keep hk⟩
  more := fun ⟨A, c, e, h⟩ hm => ⟨A, c, e, h.more hm⟩

/-- cells that stand for a list, one behind the other -/
def Elems (ρ : Rep α) (w : World) (S : Nat → Prop) (cs : List Value) (xs : List α) : Prop :=
  cs.length = xs.length * ρ.size ∧ (∀ u ∈ cs, u.oneCell' = true) ∧ ∀ i x, xs[i]? = some x → ∃ u, ρ.R w S u x ∧ ∀ j z, u[j]? = some z → cs[i * ρ.size + j]? = some z
theorem Elems.nil_ : Elems ρ w S [] [] := ⟨by simp, by simp, by simp⟩
theorem Elems.keep {cs : List Value} (h : Elems ρ w S cs xs) (hk : ∀ p : Addr, S p.block → w'.cell? p = w.cell? p) : Elems ρ w' S cs xs :=
  ⟨h.1, h.2.1, fun i x hx => by obtain ⟨u, hr, hc⟩ := h.2.2 i x hx; exact ⟨u, ρ.keep hr hk, hc⟩⟩
theorem Elems.more {cs : List Value} (h : Elems ρ w S cs xs) (hm : ∀ b, S b → S' b) : Elems ρ w S' cs xs :=
  ⟨h.1, h.2.1, fun i x hx => by obtain ⟨u, hr, hc⟩ := h.2.2 i x hx; exact ⟨u, ρ.more hr hm, hc⟩⟩
theorem Elems.below_ {cs : List Value} (h : Elems ρ w S cs xs) (hS : ∀ b, S b → b < w.heap.size) (hb : Below w.heap.size w w') : Elems ρ w' S cs xs := h.keep fun p hp => hb.cell (hS _ hp)
theorem Elems.app {cs ds : List Value} {ys : List α} (h : Elems ρ w S cs xs) (h' : Elems ρ w S ds ys) : Elems ρ w S (cs ++ ds) (xs ++ ys) := by
  obtain ⟨h1, h2, h3⟩ := h
  obtain ⟨g1, g2, g3⟩ := h'
  refine ⟨by rw [List.length_append, List.length_append, h1, g1, Nat.add_mul], fun u hu => ?_, fun i x hx => ?_⟩
  · rcases List.mem_append.1 hu with hu | hu
    · exact h2 u hu
    · exact g2 u hu
  · by_cases hi : i < xs.length
    · rw [List.getElem?_append_left hi] at hx
      obtain ⟨u, hr, hc⟩ := h3 i x hx
      refine ⟨u, hr, fun j z hz => ?_⟩
      have := hc j z hz
      rw [List.getElem?_append_left (List.getElem?_eq_some_iff.1 this).1]; exact this
    · rw [List.getElem?_append_right (by omega)] at hx
      obtain ⟨u, hr, hc⟩ := g3 _ x hx
      refine ⟨u, hr, fun j z hz => ?_⟩
      have := hc j z hz
      have he : i * ρ.size = (i - xs.length) * ρ.size + cs.length := by rw [h1, ← Nat.add_mul]; congr 1; omega
      rw [he, List.getElem?_append_right (by omega), ← this]
      congr 1; omega
theorem Elems.single {u : List Value} {x : α} (h : ρ.R w S u x) : Elems ρ w S u [x] :=
  ⟨by rw [ρ.len h]; simp, ρ.one h, fun i y hy => by
    have : i = 0 := by have := (List.getElem?_eq_some_iff.1 hy).1; simpa using this
    subst this
    simp at hy; subst hy
    exact ⟨u, h, fun j z hz => by simpa using hz⟩⟩
theorem Elems.snoc {cs u : List Value} {x : α} (h : Elems ρ w S cs xs) (hu : ρ.R w S u x) : Elems ρ w S (cs ++ u) (xs ++ [x]) := h.app (.single hu)
/-- a row of the call's own stands for a list -/
theorem Sl.of_own {base : Nat} {e : TypeId} {cs : List Value} (h : w.ownsRow base e (ρ.size) (.slice A xs.length c) xs.length cs) (he : Elems ρ w S cs xs) (hS : ∀ g, (Value.slice A xs.length c).ownBlock = some g → S g) : Sl ρ w S A c xs := by
  obtain ⟨h1, h2⟩ := h
  rcases h2 with ⟨hv, h0⟩ | ⟨g, cap, cur, hv, hB, hh, hn, hc, hs, ht⟩
  · have : xs = [] := List.eq_nil_of_length_eq_zero h0
    subst this
    simp only [Value.slice.injEq] at hv
    obtain ⟨rfl, _, rfl⟩ := hv
    exact Sl.nil_
  · simp only [Value.slice.injEq] at hv
    obtain ⟨rfl, _, rfl⟩ := hv
    refine ⟨hn, hc, fun i x hx => ?_⟩
    obtain ⟨u, hr, hcs⟩ := he.2.2 i x hx
    refine ⟨_, u, rfl, hS g rfl, hr, fun j z hz => ?_⟩
    have hz2 := hcs j z hz
    have hb : Blk w g e cur := hh
    have e1 : Addr.add ⟨g, 0, none⟩ (i * ρ.size + j) = ⟨g, i * ρ.size + j, none⟩ := by
      unfold Addr.add; split
      · rename_i h; rw [h]
      · simp
    rw [e1, hb.cell]
    rw [← ht, List.getElem?_take] at hz2
    split at hz2
    · rw [← hz2, Array.getElem?_toList]
    · cases hz2
/-- the cells of a slice, for an append -/
theorem Sl.flat (h : Sl ρ w S A c xs) : ∃ cs, Elems ρ w S cs xs ∧ ∀ ad, A = some ad → ∀ j z, cs[j]? = some z → w.cell? (ad.add j) = some z := by
  obtain ⟨_, _, h3⟩ := h
  have key : ∀ n, n ≤ xs.length → ∃ cs, Elems ρ w S cs (xs.take n) ∧ ∀ ad, A = some ad → ∀ j z, cs[j]? = some z → w.cell? (ad.add j) = some z := by
    intro n
    induction n with
    | zero => intro _; exact ⟨[], by simpa using Elems.nil_, by simp⟩
    | succ n ih =>
      intro hn
      obtain ⟨cs, he, hc⟩ := ih (by omega)
      obtain ⟨ad, u, ea, hs, hr, hu⟩ := h3 n _ (List.getElem?_eq_getElem (by omega))
      refine ⟨cs ++ u, ?_, fun ad' ea' j z hz => ?_⟩
      · rw [List.take_succ_eq_append_getElem (by omega)]
        exact he.snoc hr
      · rw [ea] at ea'; injection ea' with ea'; subst ea'
        by_cases hj : j < cs.length
        · rw [List.getElem?_append_left hj] at hz
          exact hc _ ea j z hz
        · rw [List.getElem?_append_right (by omega)] at hz
          have := hu _ z hz
          rwa [show n * ρ.size + (j - cs.length) = j from by have := he.1; rw [List.length_take, Nat.min_eq_left (by omega)] at this; omega] at this
  obtain ⟨cs, he, hc⟩ := key xs.length (Nat.le_refl _)
  exact ⟨cs, by simpa using he, hc⟩
theorem Sl.reads (h : Sl ρ w S A c xs) {B : Nat} (hB : ∀ b, S b → b < B) : ∃ cs, Elems ρ w S cs xs ∧ Reads w B (ρ.size) A xs.length cs := by
  obtain ⟨cs, he, hc⟩ := h.flat
  refine ⟨cs, he, he.1, fun hn => ?_⟩
  obtain ⟨ad, u, ea, hs, _, _⟩ := h.at_ hn
  exact ⟨ad, ea, hB _ hs, hc ad ea⟩
end

/-- two things side by side -/
def rPair {α β : Type} (ρ : Rep α) (σ : Rep β) : Rep (α × β) where
  size := ρ.size + σ.size
  bulk x := ρ.bulk x.1 + σ.bulk x.2
  R w S cs x := ∃ c d, cs = c ++ d ∧ ρ.R w S c x.1 ∧ σ.R w S d x.2
  len := fun ⟨c, d, e, h, h'⟩ => by rw [e, List.length_append, ρ.len h, σ.len h']
  one := fun ⟨c, d, e, h, h'⟩ => by
    rw [e]; intro u hu
    rcases List.mem_append.1 hu with hu | hu
    · exact ρ.one h u hu
    · exact σ.one h' u hu
  keep := fun ⟨c, d, e, h, h'⟩ hk => ⟨c, d, e, ρ.keep h hk, σ.keep h' hk⟩
  more := fun ⟨c, d, e, h, h'⟩ hm => ⟨c, d, e, ρ.more h hm, σ.more h' hm⟩

/-- integers -/
def ints (xs : List Int) : List Value := xs.map (Value.int .i64)
theorem elems_ints {w : World} {S : Nat → Prop} {xs : List Int} (h : ∀ x ∈ xs, I64 x) : Elems rInt w S (ints xs) xs := by
  refine ⟨by simp [ints, rInt], fun u hu => ?_, fun i x hx => ?_⟩
  · simp [ints] at hu; obtain ⟨x, _, rfl⟩ := hu; rfl
  · refine ⟨[.int .i64 x], ⟨rfl, h x (List.mem_of_getElem? hx)⟩, fun j z hz => ?_⟩
    have : j = 0 := by have := (List.getElem?_eq_some_iff.1 hz).1; simpa using this
    subst this
    simp at hz; subst hz
    simp [ints, rInt, hx]
theorem ints_of_elems {w : World} {S : Nat → Prop} {cs : List Value} {xs : List Int} (h : Elems rInt w S cs xs) : cs = ints xs ∧ ∀ x ∈ xs, I64 x := by
  obtain ⟨h1, _, h3⟩ := h
  have hs : rInt.size = 1 := rfl
  simp only [hs, Nat.mul_one] at h1 h3
  refine ⟨List.ext_getElem? fun i => ?_, fun x hx => ?_⟩
  · by_cases hi : i < xs.length
    · obtain ⟨u, ⟨rfl, _⟩, hc⟩ := h3 i _ (List.getElem?_eq_getElem hi)
      have := hc 0 _ rfl
      rw [Nat.add_zero] at this
      rw [this]; simp [ints, hi]
    · rw [List.getElem?_eq_none (by omega), List.getElem?_eq_none (by simp [ints]; omega)]
  · obtain ⟨i, hi⟩ := List.getElem?_of_mem hx
    obtain ⟨u, ⟨_, h⟩, _⟩ := h3 i x hi
    exact h
theorem Sl.int_at {w : World} {S : Nat → Prop} {A : Option Addr} {c : Nat} {xs : List Int} (h : Sl rInt w S A c xs) {k : Nat} (hk : k < xs.length) : ∃ ad, A = some ad ∧ S ad.block ∧ I64 (xs[k]'hk) ∧ w.cell? (ad.add k) = some (.int .i64 (xs[k]'hk)) := by
  obtain ⟨ad, u, e, hs, ⟨rfl, hi⟩, hc⟩ := h.at_ hk
  have := hc 0 _ rfl
  exact ⟨ad, e, hs, hi, by simpa [rInt] using this⟩
theorem Sl.int_reads {w : World} {S : Nat → Prop} {A : Option Addr} {c : Nat} {xs : List Int} (h : Sl rInt w S A c xs) {B : Nat} (hB : ∀ b, S b → b < B) : Reads w B 1 A xs.length (ints xs) := by
  obtain ⟨cs, he, hr⟩ := h.reads hB
  rw [(ints_of_elems he).1] at hr; exact hr
theorem Sl.int_mem {w : World} {S : Nat → Prop} {A : Option Addr} {c : Nat} {xs : List Int} (h : Sl rInt w S A c xs) : ∀ x ∈ xs, I64 x := by
  obtain ⟨cs, he, _⟩ := h.flat
  exact (ints_of_elems he).2
/-- what lies below -/
theorem keep_below {w w' : World} {B : Nat} (h : Below B w w') : ∀ p : Addr, p.block < B → w'.cell? p = w.cell? p := fun _ hp => h.cell hp
end Go.Proofs.Ytcmnjoepadjioaa

/- A map of the call's own, as a function from keys to what is there: made, looked up (with ok, too), written, ranged over. Nothing of the program is named here. -/
namespace Go.Proofs.Ytcmnjoepadjioaa
open Go.RowKit Go.Maps

def rHeld (v : Value) : Option (DataW Value × List MemPlace) := some (.held v, [])
theorem rHeld_inv {v : Value} {y : DataW Value × List MemPlace} (h : rHeld v = some y) : y = (.held v, []) := by unfold rHeld at h; injection h with h; exact h.symm
/-- a datum reads as a function -/
def Reads1 (P : Program) (k : TypeId) (D : DataW Value) (f : Value → Option Value) : Prop :=
  ∀ (key : Value) (l : Lit), keyOf P k key = some l → ∀ zd, D.atKey l zd = match f key with
    | some v => .held v
    | none => zd
/-- block b is a map of at most n entries; what is there is f's -/
def MapOf (P : Program) (k : TypeId) (w : World) (b n : Nat) (f : Value → Option Value) : Prop :=
  ∃ D : DataW Value, w.ownsMap P k rHeld b n D ∧ Reads1 P k D f
open Classical in
noncomputable def putO (f : Value → Option Value) (key v : Value) : Value → Option Value := fun x => if x = key then some v else f x
theorem putO_same (f : Value → Option Value) (key v : Value) : putO f key v key = some v := by simp [putO]
theorem putO_other (f : Value → Option Value) {key x : Value} (v : Value) (h : x ≠ key) : putO f key v x = f x := by simp [putO, h]
section
variable {P : Program} {k : TypeId} {w w' : World} {b n : Nat} {f : Value → Option Value}
theorem MapOf.made (w : World) (P : Program) (k : TypeId) : MapOf P k (w.alloc (.map #[] 0)) w.heap.size 0 (fun _ => none) :=
  ⟨_, World.ownsMap_made w P k rHeld, fun _ _ _ _ => rfl⟩
theorem MapOf.lt (h : MapOf P k w b n f) : b < w.heap.size := by obtain ⟨D, h, _⟩ := h; exact h.lt
theorem MapOf.mono (h : MapOf P k w b n f) {n' : Nat} (hn : n ≤ n') : MapOf P k w b n' f := by obtain ⟨D, h, hf⟩ := h; exact ⟨D, h.mono hn, hf⟩
theorem MapOf.grown {row : Option Nat} (h : MapOf P k w b n f) (hg : w.grownBy w' row) (hne : some b ≠ row) : MapOf P k w' b n f := by
  obtain ⟨D, h, hf⟩ := h; exact ⟨D, h.kept hg hne, hf⟩
theorem MapOf.alloc (h : MapOf P k w b n f) (o : Obj) : MapOf P k (w.alloc o) b n f := h.grown (World.grownBy_alloc w o none) (by simp)
theorem MapOf.drew (h : MapOf P k w b n f) : MapOf P k w.drew b n f := h
theorem MapOf.drewN (h : MapOf P k w b n f) (m : Nat) : MapOf P k (w.drewN m) b n f := h
theorem MapOf.below {B : Nat} (h : MapOf P k w b n f) (hb : Below B w w') (hlt : b < B) : MapOf P k w' b n f := by
  obtain ⟨D, ⟨es, clock, hm, h1, h2, h3⟩, hf⟩ := h
  exact ⟨D, ⟨es, clock, (hb.block b hlt).trans hm, h1, h2, h3⟩, hf⟩
theorem MapOf.notBlk {t : TypeId} {cs : Array Value} (h : MapOf P k w b n f) {g : Nat} (hb : Blk w g t cs) : b ≠ g := by
  obtain ⟨D, ⟨es, clock, hm, _⟩, _⟩ := h
  intro e; subst e; unfold Blk at hb; rw [hb] at hm; cases hm
theorem MapOf.setFar (h : MapOf P k w b n f) {p : Addr} (hp : b ≠ p.block) (u : Value) : MapOf P k (w.setCell p u) b n f := by
  obtain ⟨D, ⟨es, clock, hm, h1, h2, h3⟩, hf⟩ := h
  exact ⟨D, ⟨es, clock, (Below.heap_setCell w p u b hp).trans hm, h1, h2, h3⟩, hf⟩
theorem MapOf.notOwn {base : Nat} {e : TypeId} {size m : Nat} {v : Value} {xs : List Value} (h : MapOf P k w b n f) (ho : w.ownsRow base e size v m xs) : some b ≠ v.ownBlock := by
  obtain ⟨D, ⟨es, clock, hm, _⟩, _⟩ := h
  rcases ho.2 with ⟨rfl, _⟩ | ⟨g, cap, cur, rfl, _, hh, _⟩
  · simp [Value.ownBlock]
  · intro e; simp [Value.ownBlock] at e; subst e; rw [hm] at hh; cases hh
theorem MapOf.lookAny {t e : TypeId} (c : Bool) (h : MapOf P k w b n f) (K : Keyed P k) (ht : P.underlying t = some (.map k e)) {z : Value} (hz : (zeroValue e).run P w = .ok z w) {key : Value} (hk : (keyOf P k key).isSome = true) :
    (Instr.lookup t (.map (some b)) key c).run P w = .ok (if c then .tuple #[(f key).getD z, .bool (f key).isSome] else (f key).getD z) w := by
  obtain ⟨D, ⟨es, clock, hb, F, hs, rfl⟩, hf⟩ := h
  obtain ⟨l, hl⟩ := Option.isSome_iff_exists.1 hk
  have hfl := hf key l hl
  rcases Maps.fit_look c K ht hz hb F hl with ⟨h1, _, h3⟩ | ⟨e0, y, _, _, h1, h2, h3, _⟩
  · have hn : f key = none := by
      have a1 := hfl (.held z)
      have a2 := hfl (.lit (.int .i64 0))
      rw [h3] at a1 a2
      cases hk : f key with
      | none => rfl
      | some v => rw [hk] at a1 a2; simp only at a1 a2; rw [← a1] at a2; cases a2
    rw [h1, hn]; cases c <;> rfl
  · have hv := rHeld_inv h2
    subst hv
    have hs : f key = some e0.val := by
      cases hk : f key with
      | none =>
        have a1 := hfl (.lit (.int .i64 0))
        rw [h3, hk] at a1; simp only at a1; cases a1
      | some v =>
        have a1 := hfl (.held z)
        rw [h3, hk] at a1; simp only at a1; injection a1 with a1; rw [a1]
    rw [h1, hs]; cases c <;> rfl
theorem MapOf.look {t e : TypeId} (h : MapOf P k w b n f) (K : Keyed P k) (ht : P.underlying t = some (.map k e)) {z : Value} (hz : (zeroValue e).run P w = .ok z w) {key : Value} (hk : (keyOf P k key).isSome = true) :
    (Instr.lookup t (.map (some b)) key false).run P w = .ok ((f key).getD z) w := h.lookAny false K ht hz hk
theorem MapOf.lookOk {t e : TypeId} (h : MapOf P k w b n f) (K : Keyed P k) (ht : P.underlying t = some (.map k e)) {z : Value} (hz : (zeroValue e).run P w = .ok z w) {key : Value} (hk : (keyOf P k key).isSome = true) :
    (Instr.lookup t (.map (some b)) key true).run P w = .ok (.tuple #[(f key).getD z, .bool (f key).isSome]) w := h.lookAny true K ht hz hk
theorem Reads1.put {D : DataW Value} {key v : Value} {l : Lit} (h : Reads1 P k D f) (K : Keyed P k) (hD : IsMap D) (hl : keyOf P k key = some l) : Reads1 P k (D.put l (.held v)) (putO f key v) := by
  intro x l' hl' zd
  by_cases hx : x = key
  · subst hx
    rw [hl] at hl'; injection hl' with hl'; subst hl'
    rw [putO_same, atKey_put_same hD (K.key hl)]
  · have hll : l' ≠ l := fun e => hx (K.inj hl' (by rw [e]; exact hl))
    rw [putO_other _ _ hx, atKey_put_other hll]
    exact h x l' hl' zd
theorem MapOf.store {t e : TypeId} (h : MapOf P k w b n f) (K : Keyed P k) (ht : P.underlying t = some (.map k e)) (hn : n < maxLen) {key : Value} (hk : (keyOf P k key).isSome = true) (v : Value) :
    ∃ w', (Instr.mapUpdate t (.map (some b)) key v).run P w = .ok () w' ∧ MapOf P k w' b (n + 1) (putO f key v) ∧ w.grownBy w' (some b) := by
  obtain ⟨D, h, hf⟩ := h
  obtain ⟨l, hl⟩ := Option.isSome_iff_exists.1 hk
  obtain ⟨w', h1, h2, h3⟩ := h.update K ht hn hl (val := v) (d := .held v) (ps := []) rfl
  obtain ⟨es, clock, _, _, _, hD⟩ := h
  exact ⟨w', h1, ⟨_, h2, hf.put K ⟨_, hD⟩ hl⟩, h3⟩

/-- a range under way: which keys are still to come -/
def RangeOf (P : Program) (k : TypeId) (w : World) (b r n : Nat) (f : Value → Option Value) (left : Value → Bool) (cnt : Nat) : Prop :=
  ∃ (D : DataW Value) (lf : Lit → Bool), w.ranges P k rHeld b r n D lf cnt ∧ Reads1 P k D f ∧ ∀ key l, keyOf P k key = some l → lf l = left key
theorem RangeOf.map {r cnt : Nat} {left : Value → Bool} (h : RangeOf P k w b r n f left cnt) : MapOf P k w b n f := by obtain ⟨D, lf, h, hf, _⟩ := h; exact ⟨D, h.owns, hf⟩
theorem RangeOf.kept {row : Option Nat} {r cnt : Nat} {left : Value → Bool} (h : RangeOf P k w b r n f left cnt) (hg : w.grownBy w' row) (hb : some b ≠ row) (hr : some r ≠ row) : RangeOf P k w' b r n f left cnt := by
  obtain ⟨D, lf, h, hf, hl⟩ := h; exact ⟨D, lf, h.kept hg hb hr, hf, hl⟩
theorem RangeOf.rlt {r cnt : Nat} {left : Value → Bool} (h : RangeOf P k w b r n f left cnt) : r < w.heap.size := by obtain ⟨D, lf, h, _, _⟩ := h; exact h.lt
theorem MapOf.range {t e : TypeId} (h : MapOf P k w b n f) (K : Keyed P k) (ht : P.underlying t = some (.map k e)) :
    ∃ w' cnt, (Instr.range t (.map (some b))).run P w = .ok (.pointer (some ⟨w.heap.size, 0, none⟩)) w' ∧ RangeOf P k w' b w.heap.size n f (fun key => (f key).isSome) cnt ∧ w.grownBy w' none ∧ w'.heap.size = w.heap.size + 1 := by
  obtain ⟨D, h, hf⟩ := h
  obtain ⟨w', h1, h2, h3, h4⟩ := h.range K ht
  refine ⟨w', _, h1, ⟨D, _, h2, hf, fun key l hl => ?_⟩, h3, h4⟩
  cases hk : f key with
  | some v => simp only [hk, Option.isSome]; exact has_true_of_atKey (y := .held v) (fun z => by rw [hf key l hl z, hk])
  | none => simp only [hk, Option.isSome]; exact has_false_of_atKey (fun z => by rw [hf key l hl z, hk])
theorem RangeOf.next {r cnt : Nat} {left : Value → Bool} (h : RangeOf P k w b r n f left cnt) (K : Keyed P k) (ty : TypeId) :
    ((∀ key, (keyOf P k key).isSome = true → left key = false) ∧ (Instr.next (.pointer (some ⟨r, 0, none⟩)) false ty).run P w = .ok (.tuple #[.bool false]) w) ∨
    ∃ key v w' cnt', (keyOf P k key).isSome = true ∧ left key = true ∧ f key = some v ∧ (Instr.next (.pointer (some ⟨r, 0, none⟩)) false ty).run P w = .ok (.tuple #[.bool true, key, v]) w' ∧
      (∀ left' : Value → Bool, (∀ x, (keyOf P k x).isSome = true → (x = key → left' x = false) ∧ (x ≠ key → left' x = left x)) → RangeOf P k w' b r n f left' cnt') ∧ cnt' < cnt ∧ w.grownBy w' (some r) ∧ w'.heap.size = w.heap.size ∧ (Instr.entry (.pointer (some ⟨r, 0, none⟩))).run P w' = .ok (.tuple #[key, v]) w' := by
  obtain ⟨D, lf, h, hf, hl⟩ := h
  rcases h.next K ty with ⟨_, h2, h3⟩ | ⟨key, v, kl, y, w', cnt', hk, hleft, hy, hat, hrun, hrg, hlt, hg, hs, hen⟩
  · refine Or.inl ⟨fun key hk => ?_, h3⟩
    obtain ⟨l, hkl⟩ := Option.isSome_iff_exists.1 hk
    rw [← hl key l hkl]; exact h2 l
  · have hv := rHeld_inv hy
    subst hv
    refine Or.inr ⟨key, v, w', cnt', by rw [hk]; rfl, by rw [← hl key kl hk]; exact hleft, ?_, hrun, fun left' hleft' => ⟨D, _, hrg, hf, fun x l hx => ?_⟩, hlt, hg, hs, hen⟩
    · have a1 := hf key kl hk (.lit (.int .i64 0))
      rw [hat] at a1
      cases hfk : f key with
      | none => rw [hfk] at a1; simp only at a1; cases a1
      | some u => rw [hfk] at a1; simp only at a1; injection a1 with a1; rw [a1]
    · obtain ⟨q1, q2⟩ := hleft' x (by rw [hx]; rfl)
      by_cases hxk : x = key
      · rw [q1 hxk]
        subst hxk
        rw [hk] at hx; injection hx with hx; subst hx
        simp [WideAt.sameKey_self (K.key hk)]
      · have hll : l ≠ kl := fun e => hxk (K.inj hx (by rw [e]; exact hk))
        rw [q2 hxk, hl x l hx, sameKey_ne hll]; simp
end
theorem keyOf_int {P : Program} {k : TypeId} (hk : P.underlying k = some (.int .i64)) {x : Int} (h : I64 x) : (keyOf P k (.int .i64 x)).isSome = true := by rw [keyOf_int_mk hk h.wf]; rfl
end Go.Proofs.Ytcmnjoepadjioaa

/- Abstract memory against the model's memory: when it stands, what keeps it, what changes it. Nothing of the program is named here. -/
namespace Go.Proofs.Ytcmnjoepadjioaa
open Go.RowKit

def blkOf : Value → Option Nat
  | .pointer (some a) => some a.block
  | .slice (some a) _ _ => some a.block
  | .map (some g) => some g
  | _ => none
def AO.owned : AO → Bool
  | .frz .. => false
  | .dead => false
  | _ => true
def ObjOk (P : Program) (w : World) (S : Nat → Prop) (σ : Nat → Option Value) (id : Nat) : AO → Prop
  | .box t cs => ∃ g arr, σ id = some (.pointer (some ⟨g, 0, none⟩)) ∧ Blk w g t arr ∧ Rps w S σ cs arr.toList ∧ ∀ u ∈ arr, u.oneCell' = true
  | .row t sz es => ∃ A c, σ id = some (.slice A es.length c) ∧ (∀ e ∈ es, e.length = sz) ∧ es.length ≤ c ∧ c ≤ maxLen ∧ ((A = none ∧ c = 0) ∨
      ∃ g o arr, A = some ⟨g, o, none⟩ ∧ Blk w g t arr ∧ o + c * sz ≤ arr.size ∧ (∀ u ∈ arr, u.oneCell' = true) ∧
        ∀ (i : Nat) (e : List AV) (j : Nat) (a : AV), es[i]? = some e → e[j]? = some a → ∃ v, arr[o + i * sz + j]? = some v ∧ Rp w S σ a v)
  | .frz sz es => ∃ A c, σ id = some (.slice A es.length c) ∧ RpD w S (.dsl sz es) (.slice A es.length c)
  | .map kt n f => ∃ g f', σ id = some (.map (some g)) ∧ MapOf P kt w g n f' ∧ ∀ k, (f k = none ∧ f' k = none) ∨ ∃ a v, f k = some a ∧ f' k = some v ∧ Rp w S σ a v
  | .siter s pos => ∃ g, σ id = some (.pointer (some ⟨g, 0, none⟩)) ∧ w.heap[g]? = some (.stringIter s pos)
  | .dead => (σ id).isSome = true
theorem MapOf.keep {P : Program} {k : TypeId} {w w' : World} {b n : Nat} {f : Value → Option Value} (h : MapOf P k w b n f) (hb : w'.heap[b]? = w.heap[b]?) : MapOf P k w' b n f := by
  obtain ⟨D, ⟨es, clock, hm, h1, h2, h3⟩, hf⟩ := h
  exact ⟨D, ⟨es, clock, hb.trans hm, h1, h2, h3⟩, hf⟩

section
variable {P : Program} {w w' : World} {S S' : Nat → Prop} {σ σ' : Nat → Option Value} {id : Nat} {o : AO} {H H' : AH}
theorem ObjOk.mono (h : ObjOk P w S σ id o) (hs : ∀ b, S b → S' b) (hw : ∀ b, S b → w'.heap[b]? = w.heap[b]?) (hg : ∀ id u, σ id = some u → σ' id = some u)
    (hb : o.owned = true → ∀ b, (σ id).bind blkOf = some b → w'.heap[b]? = w.heap[b]?) : ObjOk P w' S' σ' id o := by
  cases o with
  | box t cs =>
    obtain ⟨g, arr, h1, h2, h3, h4⟩ := h
    exact ⟨g, arr, hg _ _ h1, (hb rfl g (by rw [h1]; rfl)).trans h2, h3.mono hs hw hg, h4⟩
  | row t sz es =>
    obtain ⟨A, c, h1, h2, h3, h4, h5⟩ := h
    refine ⟨A, c, hg _ _ h1, h2, h3, h4, ?_⟩
    rcases h5 with h5 | ⟨g, o, arr, rfl, k1, k2, k3, k4⟩
    · exact .inl h5
    · refine .inr ⟨g, o, arr, rfl, (hb rfl g (by rw [h1]; rfl)).trans k1, k2, k3, fun i e j a he ha => ?_⟩
      obtain ⟨v, hv, hr⟩ := k4 i e j a he ha
      exact ⟨v, hv, hr.mono hs hw hg⟩
  | frz sz es =>
    obtain ⟨A, c, h1, h2⟩ := h
    exact ⟨A, c, hg _ _ h1, h2.mono hs hw⟩
  | map kt n f =>
    obtain ⟨g, f', h1, h2, h3⟩ := h
    refine ⟨g, f', hg _ _ h1, h2.keep (hb rfl g (by rw [h1]; rfl)), fun k => ?_⟩
    rcases h3 k with h3 | ⟨a, v, q1, q2, q3⟩
    · exact .inl h3
    · exact .inr ⟨a, v, q1, q2, q3.mono hs hw hg⟩
  | siter s pos =>
    obtain ⟨g, h1, h2⟩ := h
    exact ⟨g, hg _ _ h1, (hb rfl g (by rw [h1]; rfl)).trans h2⟩
  | dead =>
    obtain ⟨u, hu⟩ := Option.isSome_iff_exists.1 h
    show (σ' id).isSome = true
    rw [hg _ _ hu]; rfl
structure Sat (P : Program) (w : World) (S : Nat → Prop) (σ : Nat → Option Value) (H : AH) : Prop where
  sb : ∀ b, S b → b < w.heap.size
  dom : ∀ id u, σ id = some u → id < H.nx
  obj : ∀ id o, H.get id = some o → ObjOk P w S σ id o
  dj : ∀ i j o o' b, H.get i = some o → H.get j = some o' → o.owned = true → o'.owned = true → (σ i).bind blkOf = some b → (σ j).bind blkOf = some b → i = j
  sep : ∀ i o b, H.get i = some o → o.owned = true → (σ i).bind blkOf = some b → ¬ S b
  sl : ∀ i A n c, σ i = some (.slice A n c) → n ≤ c ∧ (0 < c → ∃ g o, A = some ⟨g, o, none⟩) ∧ c ≤ maxLen
def Foot (σ : Nat → Option Value) (H : AH) (b : Nat) : Prop := ∃ id o, H.get id = some o ∧ o.owned = true ∧ (σ id).bind blkOf = some b
structure Ext (w : World) (S : Nat → Prop) (σ : Nat → Option Value) (H : AH) (w' : World) (S' : Nat → Prop) (σ' : Nat → Option Value) (H' : AH) : Prop where
  os : w'.os = w.os
  tape : w'.tape = w.tape
  output : w'.output = w.output
  size : w.heap.size ≤ w'.heap.size
  keep : ∀ b, b < w.heap.size → ¬ Foot σ H b → w'.heap[b]? = w.heap[b]?
  sup : ∀ b, S b → S' b
  sub : ∀ b, S' b → S b ∨ Foot σ H b ∨ w.heap.size ≤ b
  foot : ∀ b, Foot σ' H' b → Foot σ H b ∨ w.heap.size ≤ b
  sig : ∀ id u, σ id = some u → σ' id = some u
theorem Sat.notS (h : Sat P w S σ H) {b : Nat} (hb : S b) : ¬ Foot σ H b := fun ⟨i, o, h1, h2, h3⟩ => h.sep i o b h1 h2 h3 hb
theorem Ext.S_keep (e : Ext w S σ H w' S' σ' H') (h : Sat P w S σ H) : ∀ b, S b → w'.heap[b]? = w.heap[b]? := fun b hb => e.keep b (h.sb b hb) (h.notS hb)
theorem Ext.rp (e : Ext w S σ H w' S' σ' H') (h : Sat P w S σ H) {a : AV} {v : Value} (hr : Rp w S σ a v) : Rp w' S' σ' a v := hr.mono e.sup (e.S_keep h) e.sig
theorem Ext.rps (e : Ext w S σ H w' S' σ' H') (h : Sat P w S σ H) {a : List AV} {v : List Value} (hr : Rps w S σ a v) : Rps w' S' σ' a v := hr.mono e.sup (e.S_keep h) e.sig
theorem Ext.refl (w : World) (S : Nat → Prop) (σ : Nat → Option Value) (H : AH) : Ext w S σ H w S σ H :=
  ⟨rfl, rfl, rfl, Nat.le_refl _, fun _ _ _ => rfl, fun _ h => h, fun _ h => .inl h, fun _ h => .inl h, fun _ _ h => h⟩
theorem Ext.trans {w2 : World} {S2 : Nat → Prop} {σ2 : Nat → Option Value} {H2 : AH} (e : Ext w S σ H w' S' σ' H') (f : Ext w' S' σ' H' w2 S2 σ2 H2) : Ext w S σ H w2 S2 σ2 H2 where
  os := f.os.trans e.os
  tape := f.tape.trans e.tape
  output := f.output.trans e.output
  size := Nat.le_trans e.size f.size
  keep b hb hn := by
    refine (f.keep b (Nat.lt_of_lt_of_le hb e.size) (fun hf => ?_)).trans (e.keep b hb hn)
    rcases e.foot b hf with h | h
    · exact hn h
    · omega
  sup b hb := f.sup b (e.sup b hb)
  sub b hb := by
    rcases f.sub b hb with h | h | h
    · exact e.sub b h
    · exact .inr (e.foot b h)
    · exact .inr (.inr (Nat.le_trans e.size h))
  foot b hb := by
    rcases f.foot b hb with h | h
    · exact e.foot b h
    · exact .inr (Nat.le_trans e.size h)
  sig id u h := f.sig id u (e.sig id u h)
theorem Sat.congr (h : Sat P w S σ H) (hg : ∀ id, H'.get id = H.get id) (hn : H.nx ≤ H'.nx) : Sat P w S σ H' where
  sb := h.sb
  dom id u hu := Nat.lt_of_lt_of_le (h.dom id u hu) hn
  obj id o ho := h.obj id o (by rw [← hg]; exact ho)
  dj i j o o' b h1 h2 := h.dj i j o o' b (by rw [← hg]; exact h1) (by rw [← hg]; exact h2)
  sep i o b h1 := h.sep i o b (by rw [← hg]; exact h1)
  sl := h.sl
/-- some of it is let go -/
theorem Sat.less (h : Sat P w S σ H) (hg : ∀ id o, H'.get id = some o → H.get id = some o) (hn : H.nx ≤ H'.nx) : Sat P w S σ H' where
  sb := h.sb
  dom id u hu := Nat.lt_of_lt_of_le (h.dom id u hu) hn
  obj id o ho := h.obj id o (hg _ _ ho)
  dj i j o o' b h1 h2 := h.dj i j o o' b (hg _ _ h1) (hg _ _ h2)
  sep i o b h1 := h.sep i o b (hg _ _ h1)
  sl := h.sl
theorem Foot.less (hg : ∀ id o, H'.get id = some o → H.get id = some o) {b : Nat} (h : Foot σ H' b) : Foot σ H b := by
  obtain ⟨i, o, h1, h2, h3⟩ := h; exact ⟨i, o, hg _ _ h1, h2, h3⟩
theorem AH.get_put_self {H : AH} {k : Nat} {o : AO} : (H.put k o).get k = some o := lget_lput_self
theorem AH.get_put_ne {H : AH} {k j : Nat} {o : AO} (h : j ≠ k) : (H.put k o).get j = H.get j := lget_lput_ne h
theorem AH.get_del_self {H : AH} {k : Nat} : (H.del k).get k = none := lget_ldel_self
theorem AH.get_del_ne {H : AH} {k j : Nat} (h : j ≠ k) : (H.del k).get j = H.get j := lget_ldel_ne h
theorem AH.get_del {H : AH} {k j : Nat} {o : AO} (h : (H.del k).get j = some o) : H.get j = some o ∧ j ≠ k := by
  by_cases e : j = k
  · subst e; rw [AH.get_del_self] at h; cases h
  · rw [AH.get_del_ne e] at h; exact ⟨h, e⟩
theorem AH.kill_get {H : AH} {k j : Nat} {o : AO} (h : (H.kill k).get j = some o) (ho : o.owned = true) : H.get j = some o ∧ j ≠ k := by
  by_cases e : j = k
  · subst e; unfold AH.kill at h; rw [AH.get_put_self] at h; injection h with h; subst h; cases ho
  · unfold AH.kill at h; rw [AH.get_put_ne e] at h; exact ⟨h, e⟩
theorem Sat.kill (h : Sat P w S σ H) {k : Nat} {o : AO} (hk : H.get k = some o) : Sat P w S σ (H.kill k) where
  sb := h.sb
  dom := h.dom
  obj id o2 ho := by
    by_cases e : id = k
    · subst e
      unfold AH.kill at ho; rw [AH.get_put_self] at ho; injection ho with ho; subst ho
      show (σ id).isSome = true
      have := h.obj id o hk
      cases o with
      | box t cs => obtain ⟨g, arr, h1, _⟩ := this; rw [h1]; rfl
      | row t sz es => obtain ⟨A, c, h1, _⟩ := this; rw [h1]; rfl
      | frz sz es => obtain ⟨A, c, h1, _⟩ := this; rw [h1]; rfl
      | map kt m f => obtain ⟨g, f', h1, _⟩ := this; rw [h1]; rfl
      | siter s p => obtain ⟨g, h1, _⟩ := this; rw [h1]; rfl
      | dead => exact this
    · unfold AH.kill at ho; rw [AH.get_put_ne e] at ho; exact h.obj id o2 ho
  dj i j o o' b h1 h2 k1 k2 := h.dj i j o o' b (AH.kill_get h1 k1).1 (AH.kill_get h2 k2).1 k1 k2
  sep i o b h1 k1 := h.sep i o b (AH.kill_get h1 k1).1 k1
  sl := h.sl
theorem Foot.kill {k b : Nat} (h : Foot σ (H.kill k) b) : Foot σ H b := by
  obtain ⟨i, o, h1, h2, h3⟩ := h; exact ⟨i, o, (AH.kill_get h1 h2).1, h2, h3⟩
def sput (σ : Nat → Option Value) (k : Nat) (u : Value) : Nat → Option Value := fun i => if i = k then some u else σ i
theorem sput_ext {k : Nat} {u : Value} (h : ∀ x, σ k = some x → x = u) : ∀ id x, σ id = some x → sput σ k u id = some x := by
  intro id x hx
  unfold sput
  by_cases e : id = k
  · subst e; rw [if_pos rfl, h x hx]
  · rw [if_neg e]; exact hx
theorem sput_self {k : Nat} {u : Value} : sput σ k u k = some u := by unfold sput; rw [if_pos rfl]
theorem sput_ne {k j : Nat} {u : Value} (h : j ≠ k) : sput σ k u j = σ j := by unfold sput; rw [if_neg h]
/-- one thing is laid, or changed -/
theorem Sat.upd (h : Sat P w S σ H) {k : Nat} {o' : AO} {u : Value} (hk : k < H.nx) (hσ : ∀ x, σ k = some x → x = u)
    (hsz : w.heap.size ≤ w'.heap.size) (hkeep : ∀ b, b < w.heap.size → blkOf u ≠ some b → w'.heap[b]? = w.heap[b]?)
    (hfree : ∀ b, blkOf u = some b → ¬ S b ∧ ∀ j o, j ≠ k → H.get j = some o → o.owned = true → (σ j).bind blkOf ≠ some b)
    (hobj : ObjOk P w' S (sput σ k u) k o') (hlt : ∀ j o b, H.get j = some o → o.owned = true → (σ j).bind blkOf = some b → b < w.heap.size) (hsl : ∀ A n c, u = .slice A n c → n ≤ c ∧ (0 < c → ∃ g o, A = some ⟨g, o, none⟩) ∧ c ≤ maxLen) : Sat P w' S (sput σ k u) (H.put k o') := by
  have hS : ∀ b, S b → w'.heap[b]? = w.heap[b]? := fun b hb => hkeep b (h.sb b hb) (fun e => (hfree b e).1 hb)
  refine ⟨fun b hb => Nat.lt_of_lt_of_le (h.sb b hb) hsz, fun id x hx => ?_, fun id o ho => ?_, fun i j o o2 b h1 h2 k1 k2 q1 q2 => ?_, fun i o b h1 k1 q1 => ?_, fun i A n c hi => ?_⟩
  · by_cases e : id = k
    · subst e; exact hk
    · rw [sput_ne e] at hx; exact h.dom id x hx
  · by_cases e : id = k
    · subst e; rw [AH.get_put_self] at ho; injection ho with ho; subst ho; exact hobj
    · rw [AH.get_put_ne e] at ho
      refine (h.obj id o ho).mono (fun _ hb => hb) hS (sput_ext hσ) (fun how b hb => hkeep b (hlt id o b ho how hb) (fun e2 => ?_))
      exact (hfree b e2).2 id o e ho how hb
  · by_cases e : i = k <;> by_cases e' : j = k
    · rw [e, e']
    · subst e
      rw [sput_self] at q1
      rw [AH.get_put_ne e'] at h2
      rw [sput_ne e'] at q2
      exact absurd q2 ((hfree b q1).2 j o2 e' h2 k2)
    · subst e'
      rw [sput_self] at q2
      rw [AH.get_put_ne e] at h1
      rw [sput_ne e] at q1
      exact absurd q1 ((hfree b q2).2 i o e h1 k1)
    · rw [AH.get_put_ne e] at h1
      rw [AH.get_put_ne e'] at h2
      rw [sput_ne e] at q1
      rw [sput_ne e'] at q2
      exact h.dj i j o o2 b h1 h2 k1 k2 q1 q2
  · by_cases e : i = k
    · subst e
      rw [sput_self] at q1
      exact (hfree b q1).1
    · rw [AH.get_put_ne e] at h1
      rw [sput_ne e] at q1
      exact h.sep i o b h1 k1 q1
  · by_cases e : i = k
    · subst e; rw [sput_self] at hi; injection hi with hi; exact hsl A n c hi
    · rw [sput_ne e] at hi; exact h.sl i A n c hi
theorem heap_lt {w : World} {b : Nat} {o : Obj} (h : w.heap[b]? = some o) : b < w.heap.size := by
  rcases Nat.lt_or_ge b w.heap.size with h1 | h1
  · exact h1
  · rw [Array.getElem?_eq_none h1] at h; cases h
theorem ObjOk.lt (h : ObjOk P w S σ id o) (ho : o.owned = true) {b : Nat} (hb : (σ id).bind blkOf = some b) : b < w.heap.size := by
  cases o with
  | box t cs =>
    obtain ⟨g, arr, h1, h2, _⟩ := h
    rw [h1] at hb; simp [blkOf] at hb; subst hb; exact h2.lt
  | row t sz es =>
    obtain ⟨A, c, h1, h2, h3, h4, h5⟩ := h
    rw [h1] at hb
    rcases h5 with ⟨rfl, _⟩ | ⟨g, o, arr, rfl, k1, _⟩
    · simp [blkOf] at hb
    · simp [blkOf] at hb; subst hb; exact k1.lt
  | frz sz es => cases ho
  | map kt n f =>
    obtain ⟨g, f', h1, h2, _⟩ := h
    rw [h1] at hb; simp [blkOf] at hb; subst hb; exact h2.lt
  | siter s pos =>
    obtain ⟨g, h1, h2⟩ := h
    rw [h1] at hb; simp [blkOf] at hb; subst hb; exact heap_lt h2
  | dead => cases ho
theorem Sat.lt (h : Sat P w S σ H) {j : Nat} {b : Nat} {o : AO} (h1 : H.get j = some o) (h2 : o.owned = true) (h3 : (σ j).bind blkOf = some b) : b < w.heap.size := (h.obj j o h1).lt h2 h3
theorem Foot.lt (h : Foot σ H id) (hs : Sat P w S σ H) : id < w.heap.size := by obtain ⟨j, o, h1, h2, h3⟩ := h; exact hs.lt h1 h2 h3
/-- the world's memory alone counts -/
theorem Rp.world {w w' : World} {a : AV} {v : Value} (h : Rp w S σ a v) (hw : w'.heap = w.heap) : Rp w' S σ a v := h.mono (fun _ h => h) (fun b _ => by rw [hw]) (fun _ _ h => h)
theorem Sat.world (h : Sat P w S σ H) (hw : w'.heap = w.heap) : Sat P w' S σ H where
  sb b hb := by rw [hw]; exact h.sb b hb
  dom := h.dom
  obj id o ho := (h.obj id o ho).mono (fun _ h => h) (fun b _ => by rw [hw]) (fun _ _ h => h) (fun _ b _ => by rw [hw])
  dj := h.dj
  sep := h.sep
  sl := h.sl
theorem Ext.draw (w : World) (S : Nat → Prop) (σ : Nat → Option Value) (H : AH) (n : Nat) : Ext w S σ H (w.drewN n) S σ H :=
  ⟨rfl, rfl, rfl, Nat.le_refl _, fun _ _ _ => rfl, fun _ h => h, fun _ h => .inl h, fun _ h => .inl h, fun _ _ h => h⟩
/-- one thing is laid, or changed: what is gained -/
theorem Ext.upd (h : Sat P w S σ H) {k : Nat} {o' : AO} {u : Value} (hσ : ∀ x, σ k = some x → x = u) (hos : w'.os = w.os) (htape : w'.tape = w.tape) (hout : w'.output = w.output)
    (hsz : w.heap.size ≤ w'.heap.size) (hkeep : ∀ b, b < w.heap.size → blkOf u ≠ some b → w'.heap[b]? = w.heap[b]?)
    (hb : ∀ b, blkOf u = some b → Foot σ H b ∨ w.heap.size ≤ b) : Ext w S σ H w' S (sput σ k u) (H.put k o') where
  os := hos
  tape := htape
  output := hout
  size := hsz
  keep b hlt hn := hkeep b hlt (fun e => by
    rcases hb b e with h | h
    · exact hn h
    · omega)
  sup _ h := h
  sub _ h := .inl h
  foot b := by
    rintro ⟨i, o, h1, h2, h3⟩
    by_cases e : i = k
    · subst e; rw [sput_self] at h3; exact hb b h3
    · rw [AH.get_put_ne e] at h1; rw [sput_ne e] at h3; exact .inl ⟨i, o, h1, h2, h3⟩
  sig := sput_ext hσ
end
end Go.Proofs.Ytcmnjoepadjioaa

/- Operations that touch no memory, on abstract values. Nothing of the program is named here. -/
namespace Go.Proofs.Ytcmnjoepadjioaa
open Go.RowKit

inductive PO where
  | mv | pick | nilck | addOff (n : Nat) | idx (sz : Nat) | aidx (len sz : Nat) | fld (off n : Nat) (agg : Bool) | ext (i : Nat)
  | bin (op : BinOp) (t : TypeId) | un (op : UnOp) | conv (k : IntKind) | same | len | slen | slc (sz : Nat) (lo hi : Bool) | ssl (lo hi : Bool) | sidx
  | cap | mn | mx | mkfn (f : Fn) (nf : Nat) | bld (z : List AV) (pl : List (Nat × Nat))
def AV.part (a : AV) : Bool := a.one || match a with
  | .agg _ => true
  | _ => false
def AV.cells : AV → List AV
  | .agg cs => cs
  | a => [a]
def vals : List AV → Option (List Value)
  | [] => some []
  | .p v :: r => match vals r with
    | some l => some (v :: l)
    | none => none
  | _ :: _ => none
def AV.val : AV → Option Value
  | .p v => some v
  | .agg cs => match vals cs with
    | some l => some (.agg l.toArray)
    | none => none
  | _ => none
/-- parts laid over cells -/
def fillA : List AV → List (Nat × Nat) → List AV → Option (List AV)
  | cs, [], [] => some cs
  | cs, (off, n) :: pl, a :: ps =>
    match a with
    | .agg ds => if ds.length = n ∧ off + n ≤ cs.length then fillA (cs.take off ++ ds ++ cs.drop (off + n)) pl ps else none
    | a => if n = 1 ∧ off + 1 ≤ cs.length then fillA (cs.set off a) pl ps else none
  | _, _, _ => none
def loV : Bool → Int → Int
  | true, i => i
  | false, _ => 0
inductive PuR (P : Program) : PO → List AV → AV → Prop
  | mv (a : AV) : PuR P .mv [a] a
  | pick (c : Bool) (a b : AV) : PuR P .pick [.p (.bool c), a, b] (if c then a else b)
  | nil_ptr (id off : Nat) : PuR P .nilck [.ptr id off] (.ptr id off)
  | nil_eptr (id sz i j : Nat) : PuR P .nilck [.eptr id sz i j] (.eptr id sz i j)
  | nil_dptr (sz : Nat) (xs : List (List AV)) (i j : Nat) : PuR P .nilck [.dptr sz xs i j] (.dptr sz xs i j)
  | nil_fn (f : Nat) (xs ys : List AV) : PuR P .nilck [.fn (.func f) xs ys] (.fn (.func f) xs ys)
  | add_ptr (n id off : Nat) : PuR P (.addOff n) [.ptr id off] (.ptr id (off + n))
  | add_eptr (n id sz i j : Nat) : PuR P (.addOff n) [.eptr id sz i j] (.eptr id sz i (j + n))
  | add_dptr (n sz : Nat) (xs : List (List AV)) (i j : Nat) : PuR P (.addOff n) [.dptr sz xs i j] (.dptr sz xs i (j + n))
  | idx_dsl (sz : Nat) (xs : List (List AV)) (k : IntKind) (i : Int) : 0 < sz → 0 ≤ i → i < xs.length → PuR P (.idx sz) [.dsl sz xs, .p (.int k i)] (.dptr sz xs i.toNat 0)
  | idx_osl (sz id off n : Nat) (k : IntKind) (i : Int) : 0 ≤ i → i < n → PuR P (.idx sz) [.osl id sz off n, .p (.int k i)] (.eptr id sz (off + i.toNat) 0)
  | aidx_ptr (len sz id off : Nat) (k : IntKind) (i : Int) : 0 ≤ i → i < len → PuR P (.aidx len sz) [.ptr id off, .p (.int k i)] (.ptr id (off + i.toNat * sz))
  | aidx_eptr (len sz id sz' i' j : Nat) (k : IntKind) (i : Int) : 0 ≤ i → i < len → PuR P (.aidx len sz) [.eptr id sz' i' j, .p (.int k i)] (.eptr id sz' i' (j + i.toNat * sz))
  | aidx_dptr (len sz sz' i' j : Nat) (xs : List (List AV)) (k : IntKind) (i : Int) : 0 ≤ i → i < len → PuR P (.aidx len sz) [.dptr sz' xs i' j, .p (.int k i)] (.dptr sz' xs i' (j + i.toNat * sz))
  | fld_agg (off n : Nat) (cs : List AV) : off + n ≤ cs.length → PuR P (.fld off n true) [.agg cs] (.agg ((cs.drop off).take n))
  | fld_one (off n : Nat) (cs : List AV) (a : AV) : cs[off]? = some a → PuR P (.fld off n false) [.agg cs] a
  | ext (i : Nat) (cs : List AV) (a : AV) : cs[i]? = some a → PuR P (.ext i) [.tup cs] a
  | add_i (t : TypeId) (k : IntKind) (x y z : Int) : k.wrap (x + y) = z → PuR P (.bin .add t) [.p (.int k x), .p (.int k y)] (.p (.int k z))
  | sub_i (t : TypeId) (k : IntKind) (x y z : Int) : k.wrap (x - y) = z → PuR P (.bin .sub t) [.p (.int k x), .p (.int k y)] (.p (.int k z))
  | mul_i (t : TypeId) (k : IntKind) (x y z : Int) : k.wrap (x * y) = z → PuR P (.bin .mul t) [.p (.int k x), .p (.int k y)] (.p (.int k z))
  | quo_i (t : TypeId) (k : IntKind) (x y z : Int) : y ≠ 0 → k.wrap (x.tdiv y) = z → PuR P (.bin .quo t) [.p (.int k x), .p (.int k y)] (.p (.int k z))
  | rem_i (t : TypeId) (k : IntKind) (x y z : Int) : y ≠ 0 → x.tmod y = z → PuR P (.bin .rem t) [.p (.int k x), .p (.int k y)] (.p (.int k z))
  | and_i (t : TypeId) (k : IntKind) (x y z : Int) : k.wrap (BitVec.ofInt k.bits x &&& BitVec.ofInt k.bits y).toNat = z → PuR P (.bin .and t) [.p (.int k x), .p (.int k y)] (.p (.int k z))
  | or_i (t : TypeId) (k : IntKind) (x y z : Int) : k.wrap (BitVec.ofInt k.bits x ||| BitVec.ofInt k.bits y).toNat = z → PuR P (.bin .or t) [.p (.int k x), .p (.int k y)] (.p (.int k z))
  | xor_i (t : TypeId) (k : IntKind) (x y z : Int) : k.wrap (BitVec.ofInt k.bits x ^^^ BitVec.ofInt k.bits y).toNat = z → PuR P (.bin .xor t) [.p (.int k x), .p (.int k y)] (.p (.int k z))
  | eql_i (t : TypeId) (k : IntKind) (x y : Int) : PuR P (.bin .eql t) [.p (.int k x), .p (.int k y)] (.p (.bool (decide (x = y))))
  | neq_i (t : TypeId) (k : IntKind) (x y : Int) : PuR P (.bin .neq t) [.p (.int k x), .p (.int k y)] (.p (.bool (decide (x ≠ y))))
  | lss_i (t : TypeId) (k : IntKind) (x y : Int) : PuR P (.bin .lss t) [.p (.int k x), .p (.int k y)] (.p (.bool (decide (x < y))))
  | leq_i (t : TypeId) (k : IntKind) (x y : Int) : PuR P (.bin .leq t) [.p (.int k x), .p (.int k y)] (.p (.bool (decide (x ≤ y))))
  | gtr_i (t : TypeId) (k : IntKind) (x y : Int) : PuR P (.bin .gtr t) [.p (.int k x), .p (.int k y)] (.p (.bool (decide (x > y))))
  | geq_i (t : TypeId) (k : IntKind) (x y : Int) : PuR P (.bin .geq t) [.p (.int k x), .p (.int k y)] (.p (.bool (decide (x ≥ y))))
  | shl_i (t : TypeId) (k k' : IntKind) (x y z : Int) : 0 ≤ y → k.wrap (x * 2 ^ (min y.toNat k.bits)) = z → PuR P (.bin .shl t) [.p (.int k x), .p (.int k' y)] (.p (.int k z))
  | shr_i (t : TypeId) (k k' : IntKind) (x y z : Int) : 0 ≤ y → x.fdiv (2 ^ (min y.toNat k.bits)) = z → PuR P (.bin .shr t) [.p (.int k x), .p (.int k' y)] (.p (.int k z))
  | eql_b (t : TypeId) (x y : Bool) : P.underlying t = some .bool → PuR P (.bin .eql t) [.p (.bool x), .p (.bool y)] (.p (.bool (x == y)))
  | neq_b (t : TypeId) (x y : Bool) : P.underlying t = some .bool → PuR P (.bin .neq t) [.p (.bool x), .p (.bool y)] (.p (.bool (!(x == y))))
  | eql_v (t : TypeId) (a b : AV) (us vs : Array Value) (r : Bool) : a.val = some (.agg us) → b.val = some (.agg vs) → P.eqGuardType P.depth t = false → (∀ w, (Op.equal t (.agg us) (.agg vs)).run P w = .ok r w) → PuR P (.bin .eql t) [a, b] (.p (.bool r))
  | neq_v (t : TypeId) (a b : AV) (us vs : Array Value) (r : Bool) : a.val = some (.agg us) → b.val = some (.agg vs) → P.eqGuardType P.depth t = false → (∀ w, (Op.equal t (.agg us) (.agg vs)).run P w = .ok r w) → PuR P (.bin .neq t) [a, b] (.p (.bool (!r)))
  | eqnil_dsl (t e : TypeId) (sz : Nat) (xs : List (List AV)) : P.underlying t = some (.slice e) → 0 < sz → 0 < xs.length → PuR P (.bin .eql t) [.dsl sz xs, .p (.slice none 0 0)] (.p (.bool false))
  | eqnil_osl (t e : TypeId) (id sz off n : Nat) : P.underlying t = some (.slice e) → 0 < n → PuR P (.bin .eql t) [.osl id sz off n, .p (.slice none 0 0)] (.p (.bool false))
  | eqnil_p (t e : TypeId) (A : Option Addr) (n c : Nat) : P.underlying t = some (.slice e) → PuR P (.bin .eql t) [.p (.slice A n c), .p (.slice none 0 0)] (.p (.bool A.isNone))
  | nenil_dsl (t e : TypeId) (sz : Nat) (xs : List (List AV)) : P.underlying t = some (.slice e) → 0 < sz → 0 < xs.length → PuR P (.bin .neq t) [.dsl sz xs, .p (.slice none 0 0)] (.p (.bool true))
  | nenil_osl (t e : TypeId) (id sz off n : Nat) : P.underlying t = some (.slice e) → 0 < n → PuR P (.bin .neq t) [.osl id sz off n, .p (.slice none 0 0)] (.p (.bool true))
  | nenil_p (t e : TypeId) (A : Option Addr) (n c : Nat) : P.underlying t = some (.slice e) → PuR P (.bin .neq t) [.p (.slice A n c), .p (.slice none 0 0)] (.p (.bool (!A.isNone)))
  | eql_s (t : TypeId) (x y : ByteArray) : PuR P (.bin .eql t) [.p (.string x), .p (.string y)] (.p (.bool (x.toList == y.toList)))
  | neq_s (t : TypeId) (x y : ByteArray) : PuR P (.bin .neq t) [.p (.string x), .p (.string y)] (.p (.bool (!(x.toList == y.toList))))
  | add_s (t : TypeId) (x y : ByteArray) : x.size + y.size ≤ maxLen → PuR P (.bin .add t) [.p (.string x), .p (.string y)] (.p (.string (x ++ y)))
  | lss_s (t : TypeId) (x y : ByteArray) : PuR P (.bin .lss t) [.p (.string x), .p (.string y)] (.p (.bool (Op.bytesLess x.toList y.toList)))
  | neg_i (k : IntKind) (x z : Int) : k.wrap (0 - x) = z → PuR P (.un .neg) [.p (.int k x)] (.p (.int k z))
  | not_b (x : Bool) : PuR P (.un .not) [.p (.bool x)] (.p (.bool (!x)))
  | conv_i (k j : IntKind) (x z : Int) : k.wrap x = z → PuR P (.conv k) [.p (.int j x)] (.p (.int k z))
  | same_s (x : ByteArray) : PuR P .same [.p (.string x)] (.p (.string x))
  | len_dsl (sz : Nat) (xs : List (List AV)) : PuR P .len [.dsl sz xs] (.p (.int .i64 xs.length))
  | len_osl (id sz off n : Nat) : PuR P .len [.osl id sz off n] (.p (.int .i64 n))
  | len_nil (A : Option Addr) (c : Nat) : PuR P .len [.p (.slice A 0 c)] (.p (.int .i64 0))
  | len_s (x : ByteArray) : PuR P .slen [.p (.string x)] (.p (.int .i64 x.size))
  | slc_00 (sz : Nat) (xs : List (List AV)) : PuR P (.slc sz false false) [.dsl sz xs] (.dsl sz xs)
  | slc_10 (sz : Nat) (xs : List (List AV)) (k : IntKind) (lo : Int) : 0 ≤ lo → lo ≤ xs.length → PuR P (.slc sz true false) [.dsl sz xs, .p (.int k lo)] (.dsl sz (xs.drop lo.toNat))
  | slc_01 (sz : Nat) (xs : List (List AV)) (k : IntKind) (hi : Int) : 0 ≤ hi → hi ≤ xs.length → PuR P (.slc sz false true) [.dsl sz xs, .p (.int k hi)] (.dsl sz (xs.take hi.toNat))
  | slc_11 (sz : Nat) (xs : List (List AV)) (k k' : IntKind) (lo hi : Int) : 0 ≤ lo → lo ≤ hi → hi ≤ xs.length → PuR P (.slc sz true true) [.dsl sz xs, .p (.int k lo), .p (.int k' hi)] (.dsl sz ((xs.drop lo.toNat).take (hi.toNat - lo.toNat)))
  | slo_00 (sz id off n : Nat) : PuR P (.slc sz false false) [.osl id sz off n] (.osl id sz off n)
  | slo_10 (sz id off n : Nat) (k : IntKind) (lo : Int) : 0 ≤ lo → lo ≤ n → PuR P (.slc sz true false) [.osl id sz off n, .p (.int k lo)] (.osl id sz (off + lo.toNat) (n - lo.toNat))
  | slo_01 (sz id off n : Nat) (k : IntKind) (hi : Int) : 0 ≤ hi → hi ≤ n → PuR P (.slc sz false true) [.osl id sz off n, .p (.int k hi)] (.osl id sz off hi.toNat)
  | slo_11 (sz id off n : Nat) (k k' : IntKind) (lo hi : Int) : 0 ≤ lo → lo ≤ hi → hi ≤ n → PuR P (.slc sz true true) [.osl id sz off n, .p (.int k lo), .p (.int k' hi)] (.osl id sz (off + lo.toNat) (hi.toNat - lo.toNat))
  | ssl_00 (s : ByteArray) : PuR P (.ssl false false) [.p (.string s)] (.p (.string (s.extract 0 s.size)))
  | ssl_10 (s : ByteArray) (k : IntKind) (lo : Int) : 0 ≤ lo → lo ≤ s.size → PuR P (.ssl true false) [.p (.string s), .p (.int k lo)] (.p (.string (s.extract lo.toNat s.size)))
  | ssl_01 (s : ByteArray) (k : IntKind) (hi : Int) : 0 ≤ hi → hi ≤ s.size → PuR P (.ssl false true) [.p (.string s), .p (.int k hi)] (.p (.string (s.extract 0 hi.toNat)))
  | ssl_11 (s : ByteArray) (k k' : IntKind) (lo hi : Int) : 0 ≤ lo → lo ≤ hi → hi ≤ s.size → PuR P (.ssl true true) [.p (.string s), .p (.int k lo), .p (.int k' hi)] (.p (.string (s.extract lo.toNat hi.toNat)))
  | sidx (s : ByteArray) (k : IntKind) (i : Int) (b : UInt8) : 0 ≤ i → s[i.toNat]? = some b → PuR P .sidx [.p (.string s), .p (.int k i)] (.p (.int .u8 b.toNat))
  | cap_nil (c : Nat) : PuR P .cap [.p (.slice none 0 c)] (.p (.int .i64 c))
  | slc_nil (sz : Nat) (k : IntKind) : PuR P (.slc sz false true) [.p (.slice none 0 0), .p (.int k 0)] (.p (.slice none 0 0))
  | mn_i (k : IntKind) (x y : Int) : PuR P .mn [.p (.int k x), .p (.int k y)] (.p (.int k (if y < x then y else x)))
  | mx_i (k : IntKind) (x y : Int) : PuR P .mx [.p (.int k x), .p (.int k y)] (.p (.int k (if y > x then y else x)))
  | mkfn (f : Fn) (nf : Nat) (xs : List AV) : nf ≤ xs.length → PuR P (.mkfn f nf) xs (.fn f (xs.take nf) (xs.drop nf))
  | bld (z : List AV) (pl : List (Nat × Nat)) (xs : List AV) (cs : List AV) : xs.all AV.part = true → fillA z pl xs = some cs → PuR P (.bld z pl) xs (.agg cs)

/-- which operation it is; the operands in order -/
def optL : Option Operand → List Operand
  | none => []
  | some x => [x]
def aggB (P : Program) (t : TypeId) : Option Bool :=
  match P.underlying t with
  | some (.struct _) => some true
  | some (.array _ _) => some true
  | some _ => some false
  | none => none
def avOf : Value → AV
  | v => .p v
def zeroA (P : Program) (t : TypeId) : Option (List AV) :=
  match P.info? t with
  | some i => match i.zero with
    | some z => if z.cells.all (·.oneCell') then some (z.cells.toList.map .p) else none
    | none => none
  | none => none
def clsP (P : Program) (o : Op) : Option (PO × List Operand) :=
  match o with
  | .move x | .assign x => some (.mv, [x])
  | .pick c a b => some (.pick, [c, a, b])
  | .nilCheck x => some (.nilck, [x])
  | .fieldAddr t x f => match P.underlying t with
    | some (.struct fields) => match fields[f]? with
      | some fd => match P.info? fd.type with
        | some i => if i.size = 0 then none else some (.addOff fd.offset, [x])
        | none => none
      | none => none
    | _ => none
  | .indexAddr t x i => match P.underlying t with
    | some (.slice e) => (P.info? e).map fun j => (.idx j.size, [x, i])
    | some (.array n e) => (P.info? e).map fun j => (.aidx n j.size, [x, i])
    | _ => none
  | .field t x f => match P.underlying t with
    | some (.struct fields) => match fields[f]? with
      | some fd => match aggB P fd.type, P.info? fd.type with
        | some b, some j => some (.fld fd.offset j.size b, [x])
        | _, _ => none
      | none => none
    | _ => none
  | .extract x i => some (.ext i, [x])
  | .binOp op t x y _ => some (.bin op t, [x, y])
  | .unOp op _ x => some (.un op, [x])
  | .convert s d x => match P.underlying s, P.underlying d with
    | some (.int _), some (.int k) => some (.conv k, [x])
    | some .string, some .string => some (.same, [x])
    | _, _ => none
  | .slice t x lo hi none => match P.underlying t with
    | some (.slice e) => (P.info? e).map fun j => (.slc j.size lo.isSome hi.isSome, x :: optL lo ++ optL hi)
    | some .string => some (.ssl lo.isSome hi.isSome, x :: optL lo ++ optL hi)
    | _ => none
  | .index t x i => match P.underlying t with
    | some .string => some (.sidx, [x, i])
    | _ => none
  | .makeFunc f xs ys => some (.mkfn f xs.size, xs.toList ++ ys.toList)
  | .build t parts => match P.underlying t, zeroA P t with
    | some (.struct fields), some z => match fields.toList.mapM (fun f => (P.info? f.type).map fun i => (f.offset, i.size)) with
      | some places => match parts.toList.mapM (fun x => places[x.1]?) with
        | some pl => some (.bld z pl, parts.toList.map (·.2))
        | none => none
      | none => none
    | some (.array _ e), some z => match P.info? e with
      | some j => some (.bld z (parts.toList.map fun x => (x.1 * j.size, j.size)), parts.toList.map (·.2))
      | none => none
    | _, _ => none
  | .call c => match c.callee with
    | .builtin .len => match (c.argTypes[0]?).bind P.underlying with
      | some .string => match c.args.toList with | [x] => some (.slen, [x]) | _ => none
      | some (.slice _) => match c.args.toList with | [x] => some (.len, [x]) | _ => none
      | _ => none
    | .builtin .cap => match (c.argTypes[0]?).bind P.underlying with
      | some (.slice _) => match c.args.toList with | [x] => some (.cap, [x]) | _ => none
      | _ => none
    | .builtin .min => match c.args.toList with | [x, y] => some (.mn, [x, y]) | _ => none
    | .builtin .max => match c.args.toList with | [x, y] => some (.mx, [x, y]) | _ => none
    | _ => none
  | _ => none
end Go.Proofs.Ytcmnjoepadjioaa

/- Operations that touch no memory: what the model does is what the abstract rules say. Nothing of the program is named here. -/
namespace Go.Proofs.Ytcmnjoepadjioaa
open Go.RowKit

section
variable {P : Program} {w : World} {S : Nat → Prop} {σ : Nat → Option Value} {ev : Operand → Value}
theorem Rps.one_inv {a : AV} {vs : List Value} (h : Rps w S σ [a] vs) : ∃ v, vs = [v] ∧ Rp w S σ a v := by
  obtain ⟨v, r, rfl, h1, h2⟩ := h.uncons
  obtain rfl := h2.nil_inv
  exact ⟨v, rfl, h1⟩
theorem Rps.two_inv {a b : AV} {vs : List Value} (h : Rps w S σ [a, b] vs) : ∃ v u, vs = [v, u] ∧ Rp w S σ a v ∧ Rp w S σ b u := by
  obtain ⟨v, r, rfl, h1, h2⟩ := h.uncons
  obtain ⟨u, rfl, h3⟩ := h2.one_inv
  exact ⟨v, u, rfl, h1, h3⟩
theorem Rps.three_inv {a b c : AV} {vs : List Value} (h : Rps w S σ [a, b, c] vs) : ∃ v u x, vs = [v, u, x] ∧ Rp w S σ a v ∧ Rp w S σ b u ∧ Rp w S σ c x := by
  obtain ⟨v, r, rfl, h1, h2⟩ := h.uncons
  obtain ⟨u, x, rfl, h3, h4⟩ := h2.two_inv
  exact ⟨v, u, x, rfl, h1, h3, h4⟩
theorem Rps.drop {cs : List AV} {vs : List Value} (h : Rps w S σ cs vs) (n : Nat) : Rps w S σ (cs.drop n) (vs.drop n) :=
  ⟨by rw [List.length_drop, List.length_drop, h.1], fun i a v ha hv => h.2 (n + i) a v (by rw [List.getElem?_drop] at ha; exact ha) (by rw [List.getElem?_drop] at hv; exact hv)⟩
theorem Rps.take {cs : List AV} {vs : List Value} (h : Rps w S σ cs vs) (n : Nat) : Rps w S σ (cs.take n) (vs.take n) := by
  refine ⟨by rw [List.length_take, List.length_take, h.1], fun i a v ha hv => ?_⟩
  rw [List.getElem?_take] at ha hv
  split at ha
  · rename_i hi; rw [if_pos hi] at hv; exact h.2 i a v ha hv
  · cases ha
theorem Rps.set {cs : List AV} {vs : List Value} (h : Rps w S σ cs vs) {a : AV} {v : Value} (ha : Rp w S σ a v) (n : Nat) : Rps w S σ (cs.set n a) (vs.set n v) := by
  refine ⟨by rw [List.length_set, List.length_set, h.1], fun i b u hb hu => ?_⟩
  by_cases hi : n = i
  · subst hi
    rw [List.getElem?_set] at hb hu
    rw [if_pos rfl] at hb hu
    split at hb
    · split at hu
      · injection hb with hb; injection hu with hu; subst hb; subst hu; exact ha
      · cases hu
    · cases hb
  · rw [List.getElem?_set_ne hi] at hb hu; exact h.2 i b u hb hu
theorem Rps.at_ {cs : List AV} {vs : List Value} (h : Rps w S σ cs vs) {i : Nat} {a : AV} (ha : cs[i]? = some a) : ∃ v, vs[i]? = some v ∧ Rp w S σ a v := by
  have hi : i < vs.length := by rw [← h.1]; exact (List.getElem?_eq_some_iff.1 ha).1
  exact ⟨_, List.getElem?_eq_getElem hi, h.2 i a _ ha (List.getElem?_eq_getElem hi)⟩
theorem addr_add (g o n : Nat) : Addr.add ⟨g, o, none⟩ n = ⟨g, o + n, none⟩ := by
  unfold Addr.add
  split
  · rename_i h; subst h; rfl
  · rfl
theorem mem_drop {vs : List Value} {n : Nat} (h : ∀ u ∈ vs, u.oneCell' = true) : ∀ u ∈ vs.drop n, u.oneCell' = true := fun u hu => h u (List.mem_of_mem_drop hu)
theorem mem_take {vs : List Value} {n : Nat} (h : ∀ u ∈ vs, u.oneCell' = true) : ∀ u ∈ vs.take n, u.oneCell' = true := fun u hu => h u (List.mem_of_mem_take hu)

def Val1 (P : Program) (w : World) (S : Nat → Prop) (σ : Nat → Option Value) (ev : Operand → Value) (o : Oper) (a : AV) : Prop := ∃ v, (execOp ev o).run P w = .ok (.value v) w ∧ Rp w S σ a v

theorem pu_mv {o : Oper} {x : Operand} {a : AV} {args : List AV} (ho : o.op = .move x ∨ o.op = .assign x) (hp : PuR P .mv args a) (hr : Rps w S σ args [ev x]) : Val1 P w S σ ev o a := by
  cases hp
  obtain ⟨v, e, h⟩ := hr.one_inv
  injection e with e; subst e
  refine ⟨_, ?_, h⟩
  rcases ho with ho | ho <;> simp [execOp, ho, pure, Sem.run]
theorem pu_pick {o : Oper} {x y z : Operand} {a : AV} {args : List AV} (ho : o.op = .pick x y z) (hp : PuR P .pick args a) (hr : Rps w S σ args [ev x, ev y, ev z]) : Val1 P w S σ ev o a := by
  cases hp with
  | pick c a b =>
    obtain ⟨v, u, r, e, h1, h2, h3⟩ := hr.three_inv
    simp only [List.cons.injEq, and_true] at e
    obtain ⟨rfl, rfl, rfl⟩ := e
    obtain ⟨hx, _⟩ := h1.p_inv
    refine ⟨if c then ev y else ev z, ?_, by cases c; exact h3; exact h2⟩
    cases c <;> go_simp <;> simp [execOp, ho, hx, asBool, pure, Sem.run, bind, Sem.bind]
theorem pu_nilck {o : Oper} {x : Operand} {a : AV} {args : List AV} (ho : o.op = .nilCheck x) (hp : PuR P .nilck args a) (hr : Rps w S σ args [ev x]) : Val1 P w S σ ev o a := by
  cases hp
  all_goals
    obtain ⟨v, e, h⟩ := hr.one_inv
    injection e with e; subst e
    refine ⟨ev x, ?_, h⟩
  · obtain ⟨g, hx, _⟩ := h.ptr_inv
    simp [execOp, ho, hx, pure, Sem.run]
  · obtain ⟨g, o1, n, c, hx, _⟩ := h.eptr_inv
    simp [execOp, ho, hx, pure, Sem.run]
  · obtain ⟨g, o1, c, hx, _⟩ := h.dptr_inv
    simp [execOp, ho, hx, pure, Sem.run]
  · obtain ⟨fs, cs, hx, _⟩ := h.fn_inv
    simp [execOp, ho, hx, pure, Sem.run]
theorem pu_addOff {o : Oper} {t : TypeId} {x : Operand} {f : Nat} {fields : Array Field} {fd : Field} {i : TypeInfo} {a : AV} {args : List AV} (ho : o.op = .fieldAddr t x f)
    (h1 : P.underlying t = some (.struct fields)) (h2 : fields[f]? = some fd) (h3 : P.info? fd.type = some i) (h4 : i.size ≠ 0) (hp : PuR P (.addOff fd.offset) args a) (hr : Rps w S σ args [ev x]) : Val1 P w S σ ev o a := by
  have run : ∀ g off, ev x = .pointer (some ⟨g, off, none⟩) → (execOp ev o).run P w = .ok (.value (.pointer (some ⟨g, off + fd.offset, none⟩))) w := by
    intro g off hx
    simp [execOp, ho, Instr.fieldAt, run_underlying h1, h2, hx, Instr.sureAddr, fieldPlace, sizeOf, typeInfo, h3, h4, addr_add]
  cases hp
  all_goals
    obtain ⟨v, e, h⟩ := hr.one_inv
    injection e with e; subst e
  · obtain ⟨g, hx, hs⟩ := h.ptr_inv
    exact ⟨_, run _ _ hx, .ptr _ _ g hs⟩
  · obtain ⟨g, o1, n, c, hx, hs⟩ := h.eptr_inv
    refine ⟨_, run _ _ hx, ?_⟩
    rw [Nat.add_assoc]
    exact .eptr _ _ _ _ g o1 n c hs
  · obtain ⟨g, o1, c, hx, hs, hi⟩ := h.dptr_inv
    refine ⟨_, run _ _ hx, ?_⟩
    rw [Nat.add_assoc]
    exact .dptr _ _ _ _ g o1 c hs hi
theorem pu_idx {o : Oper} {t e : TypeId} {x y : Operand} {j : TypeInfo} {a : AV} {args : List AV} (ho : o.op = .indexAddr t x y)
    (h1 : P.underlying t = some (.slice e)) (h3 : P.info? e = some j) (hp : PuR P (.idx j.size) args a) (hr : Rps w S σ args [ev x, ev y]) (hsz : ∀ id A n c, σ id = some (.slice A n c) → n ≤ c ∧ (0 < c → ∃ g o, A = some ⟨g, o, none⟩)) : Val1 P w S σ ev o a := by
  cases hp with
  | idx_dsl sz xs k i hpos hi0 hi1 =>
    obtain ⟨v, u, e, q1, q2⟩ := hr.two_inv
    simp only [List.cons.injEq, and_true] at e
    obtain ⟨rfl, rfl⟩ := e
    obtain ⟨hy, _⟩ := q2.p_inv
    have hD := q1.dsl_inv
    obtain ⟨A, c, z, hx, r1, r2, r3, r4, r5, r6⟩ := hD.dsl_inv
    have hlt : i.toNat < xs.length := by omega
    have hel := r3 _ (List.getElem_mem hlt)
    obtain ⟨g, off, rfl, _, _⟩ := r4 i.toNat _ 0 _ (List.getElem?_eq_getElem hlt) (List.getElem?_eq_getElem (by omega))
    refine ⟨.pointer (some ⟨g, off + i.toNat * j.size + 0, none⟩), ?_, .dptr _ _ _ _ g off c (by rw [← hx]; exact hD) hlt⟩
    have hlt' : i < (xs.length : Int) := hi1
    simp [execOp, ho, Instr.indexAt, run_underlying h1, hx, hy, asIntOf, hi0, hlt', sizeOf, typeInfo, h3, addr_add]
  | idx_osl sz id off n k i hi0 hi1 =>
    obtain ⟨v, u, e, q1, q2⟩ := hr.two_inv
    simp only [List.cons.injEq, and_true] at e
    obtain ⟨rfl, rfl⟩ := e
    obtain ⟨hy, _⟩ := q2.p_inv
    obtain ⟨A, B, N, c, cc, hx, hs, hle, hoc, hB⟩ := q1.osl_inv
    obtain ⟨hN, hNc⟩ := hsz id A N c hs
    obtain ⟨g, o1, rfl⟩ := hNc (by omega)
    obtain rfl := hB (by omega)
    rw [Option.map_some, addr_add] at hx
    refine ⟨.pointer (some ⟨g, o1 + (off + i.toNat) * j.size + 0, none⟩), ?_, .eptr _ _ _ _ g o1 N c hs⟩
    have hlt' : i < (n : Int) := hi1
    simp [execOp, ho, Instr.indexAt, run_underlying h1, hx, hy, asIntOf, hi0, hlt', sizeOf, typeInfo, h3, addr_add, Nat.add_mul, Nat.add_assoc]
theorem pu_aidx {o : Oper} {t e : TypeId} {m : Nat} {x y : Operand} {j : TypeInfo} {a : AV} {args : List AV} (ho : o.op = .indexAddr t x y)
    (h1 : P.underlying t = some (.array m e)) (h3 : P.info? e = some j) (hp : PuR P (.aidx m j.size) args a) (hr : Rps w S σ args [ev x, ev y]) : Val1 P w S σ ev o a := by
  have run : ∀ g off k (i : Int), ev x = .pointer (some ⟨g, off, none⟩) → ev y = .int k i → 0 ≤ i → i < (m : Int) → (execOp ev o).run P w = .ok (.value (.pointer (some ⟨g, off + i.toNat * j.size, none⟩))) w := by
    intro g off k i hx hy h0 h2
    simp [execOp, ho, Instr.indexAt, run_underlying h1, hx, hy, asIntOf, h0, h2, sizeOf, typeInfo, h3, addr_add, Instr.sureAddr]
  cases hp
  all_goals
    obtain ⟨v, u, e, q1, q2⟩ := hr.two_inv
    simp only [List.cons.injEq, and_true] at e
    obtain ⟨rfl, rfl⟩ := e
    obtain ⟨hy, _⟩ := q2.p_inv
  · obtain ⟨g, hx, hs⟩ := q1.ptr_inv
    exact ⟨_, run _ _ _ _ hx hy ‹_› ‹_›, .ptr _ _ g hs⟩
  · obtain ⟨g, o1, n, c, hx, hs⟩ := q1.eptr_inv
    refine ⟨_, run _ _ _ _ hx hy ‹_› ‹_›, ?_⟩
    rw [Nat.add_assoc]
    exact .eptr _ _ _ _ g o1 n c hs
  · obtain ⟨g, o1, c, hx, hs, hi⟩ := q1.dptr_inv
    refine ⟨_, run _ _ _ _ hx hy ‹_› ‹_›, ?_⟩
    rw [Nat.add_assoc]
    exact .dptr _ _ _ _ g o1 c hs hi
theorem run_isAggB {t : TypeId} {b : Bool} (h : aggB P t = some b) : (isAgg t).run P w = .ok b w := by
  unfold aggB at h
  cases hu : P.underlying t with
  | none => rw [hu] at h; cases h
  | some d =>
    rw [hu] at h
    cases d <;> simp only [Option.some.injEq] at h <;> subst h <;> simp [isAgg, run_underlying hu]
theorem pu_fld {o : Oper} {t : TypeId} {x : Operand} {f : Nat} {fields : Array Field} {fd : Field} {j : TypeInfo} {b : Bool} {a : AV} {args : List AV} (ho : o.op = .field t x f)
    (h1 : P.underlying t = some (.struct fields)) (h2 : fields[f]? = some fd) (h3 : aggB P fd.type = some b) (h4 : P.info? fd.type = some j) (hp : PuR P (.fld fd.offset j.size b) args a) (hr : Rps w S σ args [ev x]) : Val1 P w S σ ev o a := by
  have hag := run_isAggB (w := w) h3
  cases hp with
  | fld_agg off n cs hle =>
    obtain ⟨v, e, h⟩ := hr.one_inv
    injection e with e; subst e
    obtain ⟨vs, hx, hv, hv1⟩ := h.agg_inv
    refine ⟨.agg (vs.extract fd.offset (fd.offset + j.size)), ?_, ?_⟩
    · simp [execOp, ho, Instr.field, run_underlying h1, h2, hx, asAgg, part, hag, sizeOf, typeInfo, h4]
    · refine Rps.agg ?_ (fun u hu => hv1 u (by have h1 := Array.mem_toList_iff.2 hu; rw [Array.toList_extract] at h1; simp only [List.extract] at h1; exact Array.mem_toList_iff.1 (List.mem_of_mem_drop (List.mem_of_mem_take h1))))
      have : (vs.extract fd.offset (fd.offset + j.size)).toList = (vs.toList.drop fd.offset).take j.size := by
        rw [Array.toList_extract]; simp [List.extract]
      rw [this]
      exact (hv.drop _).take _
  | fld_one off n cs a ha =>
    obtain ⟨v, e, h⟩ := hr.one_inv
    injection e with e; subst e
    obtain ⟨vs, hx, hv, hv1⟩ := h.agg_inv
    obtain ⟨u, hu, hau⟩ := hv.at_ ha
    refine ⟨u, ?_, hau⟩
    rw [Array.getElem?_toList] at hu
    simp [execOp, ho, Instr.field, run_underlying h1, h2, hx, asAgg, part, hag, hu]
theorem pu_ext {o : Oper} {x : Operand} {i : Nat} {a : AV} {args : List AV} (ho : o.op = .extract x i) (hp : PuR P (.ext i) args a) (hr : Rps w S σ args [ev x]) : Val1 P w S σ ev o a := by
  cases hp with
  | ext _ cs a ha =>
    obtain ⟨v, e, h⟩ := hr.one_inv
    injection e with e; subst e
    obtain ⟨vs, hx, hv⟩ := h.tup_inv
    obtain ⟨u, hu, hau⟩ := hv.at_ ha
    refine ⟨u, ?_, hau⟩
    rw [Array.getElem?_toList] at hu
    simp [execOp, ho, Instr.extract, hx, hu]
theorem int_beq (a b : Int) : (a == b) = decide (a = b) := by by_cases h : a = b <;> simp [h]
theorem run_equal_bool {t : TypeId} (h : P.underlying t = some .bool) (x y : Bool) : (Op.equal t (.bool x) (.bool y)).run P w = .ok (x == y) w := by
  rw [Op.equal, Op.maxDepth, show (10000 : Nat) = 9999 + 1 from rfl, Op.equalIn]
  simp [run_underlying h]
theorem run_equal_nil {t e : TypeId} (h : P.underlying t = some (.slice e)) (A : Option Addr) (n c : Nat) : (Op.equal t (.slice A n c) (.slice none 0 0)).run P w = .ok A.isNone w := by
  rw [Op.equal, Op.maxDepth, show (10000 : Nat) = 9999 + 1 from rfl, Op.equalIn]
  cases A <;> simp [run_underlying h]
theorem eqGuard_agg {op : BinOp} {t : TypeId} {x y : Operand} {us vs : Array Value} (h : P.eqGuardType P.depth t = false) : (eqGuard op t x y (.agg us) (.agg vs)).run P w = .ok () w := by
  unfold eqGuard
  split <;> simp [h]
theorem vals_sound : ∀ {cs : List AV} {l vs : List Value}, vals cs = some l → Rps w S σ cs vs → vs = l
  | [], l, vs, h, hr => by simp only [vals, Option.some.injEq] at h; subst h; exact hr.nil_inv
  | a :: r, l, vs, h, hr => by
    cases a <;> simp only [vals] at h <;> try (cases h; done)
    rename_i v
    cases h1 : vals r with
    | none => rw [h1] at h; cases h
    | some l' =>
      rw [h1] at h
      simp only [Option.some.injEq] at h
      subst h
      obtain ⟨u, us, rfl, q1, q2⟩ := hr.uncons
      rw [q1.p_inv.1, vals_sound h1 q2]
theorem AV.val_sound {a : AV} {u v : Value} (h : a.val = some u) (hr : Rp w S σ a v) : v = u := by
  cases a <;> simp only [AV.val] at h <;> try (cases h; done)
  · injection h with h; subst h; exact hr.p_inv.1
  · rename_i cs
    cases h1 : vals cs with
    | none => rw [h1] at h; cases h
    | some l =>
      rw [h1] at h
      simp only [Option.some.injEq] at h
      subst h
      obtain ⟨vs, rfl, q, _⟩ := hr.agg_inv
      rw [← vals_sound h1 q, Array.toArray_toList]
theorem pu_bin {o : Oper} {op : BinOp} {t ty : TypeId} {x y : Operand} {a : AV} {args : List AV} (ho : o.op = .binOp op t x y ty) (hp : PuR P (.bin op t) args a) (hr : Rps w S σ args [ev x, ev y]) (hsz : ∀ id A n c, σ id = some (.slice A n c) → n ≤ c ∧ (0 < c → ∃ g o, A = some ⟨g, o, none⟩)) : Val1 P w S σ ev o a := by
  have key : ∀ v u r, ev x = v → ev y = u → (eqGuard op t x y v u).run P w = .ok () w → (binOp op t v u).run P w = .ok r w → (execOp ev o).run P w = .ok (.value r) w := by
    intro v u r hx hy h1 h2
    simp [execOp, ho, hx, hy, h1, h2]
  cases hp
  all_goals
    obtain ⟨v, u, e, q1, q2⟩ := hr.two_inv
    simp only [List.cons.injEq, and_true] at e
    obtain ⟨rfl, rfl⟩ := e
  case eql_v us vs r hu hv hg he => exact ⟨_, key _ _ _ (AV.val_sound hu q1) (AV.val_sound hv q2) (eqGuard_agg hg) (by simp [binOp, he]), .data _ _ (.p _ rfl)⟩
  case neq_v us vs r hu hv hg he => exact ⟨_, key _ _ _ (AV.val_sound hu q1) (AV.val_sound hv q2) (eqGuard_agg hg) (by simp [binOp, he]), .data _ _ (.p _ rfl)⟩
  case eqnil_dsl =>
    rename_i e sz xs hn' hsz0' hu'
    have hu : P.underlying t = some (.slice e) := by assumption
    have hn : 0 < xs.length := by assumption
    have hsz0 : 0 < sz := by assumption
    obtain ⟨A, c, z, hv, r1, r2, r3, r4, _⟩ := q1.dsl_inv.dsl_inv
    obtain ⟨e0, he0⟩ : ∃ e0, xs[0]? = some e0 := ⟨_, List.getElem?_eq_getElem hn⟩
    have hl0 := r3 e0 (List.mem_of_getElem? he0)
    obtain ⟨a0, ha0⟩ : ∃ a0, e0[0]? = some a0 := ⟨_, List.getElem?_eq_getElem (by omega)⟩
    obtain ⟨g, o', hA, _⟩ := r4 0 e0 0 a0 he0 ha0
    subst hA
    exact ⟨_, key _ _ _ hv q2.p_inv.1 (by simp [eqGuard]) (by simp [binOp, run_equal_nil hu]), .data _ _ (.p _ rfl)⟩
  case nenil_dsl =>
    rename_i e sz xs hn' hsz0' hu'
    have hu : P.underlying t = some (.slice e) := by assumption
    have hn : 0 < xs.length := by assumption
    have hsz0 : 0 < sz := by assumption
    obtain ⟨A, c, z, hv, r1, r2, r3, r4, _⟩ := q1.dsl_inv.dsl_inv
    obtain ⟨e0, he0⟩ : ∃ e0, xs[0]? = some e0 := ⟨_, List.getElem?_eq_getElem hn⟩
    have hl0 := r3 e0 (List.mem_of_getElem? he0)
    obtain ⟨a0, ha0⟩ : ∃ a0, e0[0]? = some a0 := ⟨_, List.getElem?_eq_getElem (by omega)⟩
    obtain ⟨g, o', hA, _⟩ := r4 0 e0 0 a0 he0 ha0
    subst hA
    exact ⟨_, key _ _ _ hv q2.p_inv.1 (by simp [eqGuard]) (by simp [binOp, run_equal_nil hu]), .data _ _ (.p _ rfl)⟩
  case eqnil_osl =>
    rename_i e id sz off n hn' hu'
    have hu : P.underlying t = some (.slice e) := by assumption
    have hn : 0 < n := by assumption
    obtain ⟨A, B, N, c, cc, hv, hsg, hle, hoc, hB⟩ := q1.osl_inv
    obtain ⟨g, o', hA⟩ := (hsz _ _ _ _ hsg).2 (by omega)
    subst hA
    have hBs := hB (by omega)
    rw [Option.map_some] at hBs
    subst hBs
    exact ⟨_, key _ _ _ hv q2.p_inv.1 (by simp [eqGuard]) (by simp [binOp, run_equal_nil hu]), .data _ _ (.p _ rfl)⟩
  case nenil_osl =>
    rename_i e id sz off n hn' hu'
    have hu : P.underlying t = some (.slice e) := by assumption
    have hn : 0 < n := by assumption
    obtain ⟨A, B, N, c, cc, hv, hsg, hle, hoc, hB⟩ := q1.osl_inv
    obtain ⟨g, o', hA⟩ := (hsz _ _ _ _ hsg).2 (by omega)
    subst hA
    have hBs := hB (by omega)
    rw [Option.map_some] at hBs
    subst hBs
    exact ⟨_, key _ _ _ hv q2.p_inv.1 (by simp [eqGuard]) (by simp [binOp, run_equal_nil hu]), .data _ _ (.p _ rfl)⟩
  all_goals
    have hx := q1.p_inv.1
    have hy := q2.p_inv.1
    refine ⟨_, key _ _ _ hx hy (by simp [eqGuard]) ?_, .data _ _ (.p _ rfl)⟩
    clear hr q1 q2 key hx hy
  case add_s hm =>
    simp only [binOp, Op.stringOp]
    rw [if_neg (by unfold maxLen at hm; simp [IntKind.max, IntKind.signed, IntKind.bits]; omega)]
    rfl
  case eqnil_p h => simp [binOp, run_equal_nil h]
  case nenil_p h => simp [binOp, run_equal_nil h]
  case eql_b _ _ h => simp [binOp, run_equal_bool h]
  case neq_b _ _ h => simp [binOp, run_equal_bool h]
  case eql_i a b => simp only [binOp, ne_eq, not_true_eq_false, if_false, Op.intCmp, int_beq]; rfl
  case neq_i a b => simp only [binOp, ne_eq, not_true_eq_false, if_false, Op.intCmp, bne, int_beq, decide_not]; rfl
  case shl_i h e => subst e; simp [binOp, Op.shift, Int.not_lt.2 h]
  case shr_i h e => subst e; simp [binOp, Op.shift, Int.not_lt.2 h]
  all_goals
    subst_vars
    first
    | rfl
    | (simp [binOp, Op.intArith, Op.intDiv, Op.intBits, Op.intCmp, Op.shift, Op.stringOp, *]; done)
    | skip
theorem pu_un {o : Oper} {op : UnOp} {t : TypeId} {x : Operand} {a : AV} {args : List AV} (ho : o.op = .unOp op t x) (hp : PuR P (.un op) args a) (hr : Rps w S σ args [ev x]) : Val1 P w S σ ev o a := by
  cases hp
  all_goals
    obtain ⟨v, e, h⟩ := hr.one_inv
    injection e with e; subst e
    have hx := h.p_inv.1
    refine ⟨_, ?_, .data _ _ (.p _ rfl)⟩
    subst_vars
    simp [execOp, ho, hx, Op.unary, Op.intArith]
theorem pu_conv {o : Oper} {s d : TypeId} {x : Operand} {k k0 : IntKind} {a : AV} {args : List AV} (ho : o.op = .convert s d x) (h1 : P.underlying s = some (.int k0)) (h2 : P.underlying d = some (.int k)) (hp : PuR P (.conv k) args a) (hr : Rps w S σ args [ev x]) : Val1 P w S σ ev o a := by
  cases hp
  obtain ⟨v, e, h⟩ := hr.one_inv
  injection e with e; subst e
  have hx := h.p_inv.1
  refine ⟨_, ?_, .data _ _ (.p _ rfl)⟩
  subst_vars
  simp [execOp, ho, hx, convert, run_underlying h1, run_underlying h2, Conv.intToInt]
theorem pu_same {o : Oper} {s d : TypeId} {x : Operand} {a : AV} {args : List AV} (ho : o.op = .convert s d x) (h1 : P.underlying s = some .string) (h2 : P.underlying d = some .string) (hp : PuR P .same args a) (hr : Rps w S σ args [ev x]) : Val1 P w S σ ev o a := by
  cases hp
  obtain ⟨v, e, h⟩ := hr.one_inv
  injection e with e; subst e
  have hx := h.p_inv.1
  refine ⟨_, ?_, .data _ _ (.p _ rfl)⟩
  subst_vars
  simp [execOp, ho, hx, convert, run_underlying h1, run_underlying h2]
theorem pu_len {o : Oper} {c : Call} {e : TypeId} {x : Operand} {ty : TypeId} {a : AV} {args : List AV} (ho : o.op = .call c) (hc : c.callee = .builtin .len) (h0 : c.argTypes[0]? = some ty) (h1 : P.underlying ty = some (.slice e)) (h2 : c.args.toList = [x])
    (hp : PuR P .len args a) (hr : Rps w S σ args [ev x]) : Val1 P w S σ ev o a := by
  have hx : c.args = #[x] := Array.toList_inj.1 h2
  have run : ∀ A n cc, ev x = .slice A n cc → (execOp ev o).run P w = .ok (.value (.int .i64 n)) w := by
    intro A n cc h
    simp [execOp, ho, resolve, hc, hx, invoke, builtin, Builtin.len_, h0, run_underlying h1, h, goInt]
  cases hp
  all_goals
    obtain ⟨v, e, h⟩ := hr.one_inv
    injection e with e; subst e
  · obtain ⟨A, cc, z, hv, _⟩ := h.dsl_inv.dsl_inv
    exact ⟨_, run _ _ _ hv, .data _ _ (.p _ rfl)⟩
  · obtain ⟨A, B, N, c, cc, hv, _⟩ := h.osl_inv
    exact ⟨_, run _ _ _ hv, .data _ _ (.p _ rfl)⟩
  · exact ⟨_, run _ _ _ h.p_inv.1, .data _ _ (.p _ rfl)⟩
theorem pu_cap {o : Oper} {c : Call} {e : TypeId} {x : Operand} {ty : TypeId} {a : AV} {args : List AV} (ho : o.op = .call c) (hc : c.callee = .builtin .cap) (h0 : c.argTypes[0]? = some ty) (h1 : P.underlying ty = some (.slice e)) (h2 : c.args.toList = [x])
    (hp : PuR P .cap args a) (hr : Rps w S σ args [ev x]) : Val1 P w S σ ev o a := by
  have hx : c.args = #[x] := Array.toList_inj.1 h2
  cases hp
  obtain ⟨v, e, h⟩ := hr.one_inv
  injection e with e; subst e
  refine ⟨_, ?_, .data _ _ (.p _ rfl)⟩
  simp [execOp, ho, resolve, hc, hx, invoke, builtin, Builtin.cap_, h0, run_underlying h1, h.p_inv.1, goInt]
theorem pu_mn {o : Oper} {c : Call} {x y : Operand} {a : AV} {args : List AV} (ho : o.op = .call c) (hc : c.callee = .builtin .min) (h2 : c.args.toList = [x, y])
    (hp : PuR P .mn args a) (hr : Rps w S σ args [ev x, ev y]) : Val1 P w S σ ev o a := by
  have hx : c.args = #[x, y] := Array.toList_inj.1 h2
  cases hp
  obtain ⟨v, u, e, h, k⟩ := hr.two_inv
  simp only [List.cons.injEq, and_true] at e
  obtain ⟨rfl, rfl⟩ := e
  refine ⟨_, ?_, .data _ _ (.p _ rfl)⟩
  simp [execOp, ho, resolve, hc, hx, invoke, builtin, Builtin.min_, Builtin.min2, h.p_inv.1, k.p_inv.1]
theorem pu_mx {o : Oper} {c : Call} {x y : Operand} {a : AV} {args : List AV} (ho : o.op = .call c) (hc : c.callee = .builtin .max) (h2 : c.args.toList = [x, y])
    (hp : PuR P .mx args a) (hr : Rps w S σ args [ev x, ev y]) : Val1 P w S σ ev o a := by
  have hx : c.args = #[x, y] := Array.toList_inj.1 h2
  cases hp
  obtain ⟨v, u, e, h, k⟩ := hr.two_inv
  simp only [List.cons.injEq, and_true] at e
  obtain ⟨rfl, rfl⟩ := e
  refine ⟨_, ?_, .data _ _ (.p _ rfl)⟩
  simp [execOp, ho, resolve, hc, hx, invoke, builtin, Builtin.max_, Builtin.max2, h.p_inv.1, k.p_inv.1]
theorem pu_slen {o : Oper} {c : Call} {x : Operand} {ty : TypeId} {a : AV} {args : List AV} (ho : o.op = .call c) (hc : c.callee = .builtin .len) (h0 : c.argTypes[0]? = some ty) (h1 : P.underlying ty = some .string) (h2 : c.args.toList = [x])
    (hp : PuR P .slen args a) (hr : Rps w S σ args [ev x]) : Val1 P w S σ ev o a := by
  have hx : c.args = #[x] := Array.toList_inj.1 h2
  cases hp
  obtain ⟨v, e, h⟩ := hr.one_inv
  injection e with e; subst e
  refine ⟨_, ?_, .data _ _ (.p _ rfl)⟩
  simp [execOp, ho, resolve, hc, hx, invoke, builtin, Builtin.len_, h0, run_underlying h1, h.p_inv.1, goInt]
theorem RpD.dsl_cut {sz : Nat} {xs : List (List AV)} {A : Option Addr} {n c : Nat} (h : RpD w S (.dsl sz xs) (.slice A n c)) (lo hi : Nat) (h1 : lo ≤ hi) (h2 : hi ≤ xs.length) :
    RpD w S (.dsl sz ((xs.drop lo).take (hi - lo))) (.slice (if c = lo then A else A.map (·.add (lo * sz))) (hi - lo) (c - lo)) := by
  obtain ⟨A', c', z, e, r1, r2, r3, r4, r5, r6⟩ := h.dsl_inv
  injection e with e1 e2 e3
  subst e1; subst e2; subst e3
  have hl : ((xs.drop lo).take (hi - lo)).length = hi - lo := by rw [List.length_take, List.length_drop]; omega
  have hel : ∀ (i : Nat) (e : List AV), ((xs.drop lo).take (hi - lo))[i]? = some e → i < hi - lo ∧ xs[lo + i]? = some e := by
    intro i e he
    rw [List.getElem?_take] at he
    split at he
    · rw [List.getElem?_drop] at he; exact ⟨‹_›, he⟩
    · cases he
  have := RpD.dsl (w := w) (S := S) sz ((xs.drop lo).take (hi - lo)) (if c = lo then A else A.map (·.add (lo * sz))) (c - lo) (fun i j => z (lo + i) j) (by rw [hl]; omega) (by omega) (fun e he => r3 e (List.mem_of_mem_drop (List.mem_of_mem_take he)))
    (fun i e j a he ha => by
      obtain ⟨hi', he'⟩ := hel i e he
      obtain ⟨g, o, rfl, hg, hc⟩ := r4 (lo + i) e j a he' ha
      rw [if_neg (by omega)]
      refine ⟨g, o + lo * sz, by simp [addr_add], hg, ?_⟩
      rw [show o + lo * sz + i * sz + j = o + (lo + i) * sz + j by rw [Nat.add_mul]; omega]
      exact hc)
    (fun i e j a he ha => r5 (lo + i) e j a (hel i e he).2 ha) (fun i j => r6 _ _)
  rwa [hl] at this
theorem run_slc {t e : TypeId} {j : TypeInfo} (h1 : P.underlying t = some (.slice e)) (h2 : P.info? e = some j) {A : Option Addr} {n c : Nat} (lo hi : Option Value) (l h : Nat) (hl : match lo with | none => l = 0 | some v => ∃ k, v = .int k l) (hh : match hi with | none => h = n | some v => ∃ k, v = .int k h) (hlh : l ≤ h) (hhc : h ≤ c) :
    (Instr.sliceAt t (.slice A n c) lo hi none).run P w = .ok (.slice (if c = l then A else A.map (·.add (l * j.size))) (h - l) (c - l)) w := by
  cases lo <;> cases hi <;> simp only at hl hh
  · subst hl; subst hh; simp [Instr.sliceAt, Instr.slice, Instr.sliceBounds, run_underlying h1, sizeOf, typeInfo, h2]
  · subst hl; obtain ⟨k, rfl⟩ := hh
    have : (h : Int) ≤ (c : Int) := by omega
    simp [Instr.sliceAt, Instr.slice, Instr.sliceBounds, Instr.sliceBound, asIntOf, run_underlying h1, sizeOf, typeInfo, h2, this, hlh, hhc]
  · obtain ⟨k, rfl⟩ := hl
    have : (l : Int) ≤ (h : Int) := by omega
    subst hh
    simp [Instr.sliceAt, Instr.slice, Instr.sliceBounds, Instr.sliceBound, asIntOf, run_underlying h1, sizeOf, typeInfo, h2, this, hlh, hhc]
  · obtain ⟨k, rfl⟩ := hl; obtain ⟨k', rfl⟩ := hh
    have a1 : (l : Int) ≤ (h : Int) := by omega
    have a2 : (h : Int) ≤ (c : Int) := by omega
    simp [Instr.sliceAt, Instr.slice, Instr.sliceBounds, Instr.sliceBound, asIntOf, run_underlying h1, sizeOf, typeInfo, h2, a1, a2, hlh, hhc]
theorem pu_slc {o : Oper} {t e : TypeId} {x : Operand} {lo hi : Option Operand} {j : TypeInfo} {a : AV} {args : List AV} (ho : o.op = .slice t x lo hi none) (h1 : P.underlying t = some (.slice e)) (h2 : P.info? e = some j) (hp : PuR P (.slc j.size lo.isSome hi.isSome) args a) (hr : Rps w S σ args ((x :: optL lo ++ optL hi).map ev)) : Val1 P w S σ ev o a := by
  have run : ∀ (xs : List (List AV)) (l h : Nat) (v : Value), ev x = v → RpD w S (.dsl j.size xs) v → (match lo.map ev with | none => l = 0 | some v => ∃ k, v = .int k l) → (match hi.map ev with | none => h = xs.length | some v => ∃ k, v = .int k h) → l ≤ h → h ≤ xs.length → Val1 P w S σ ev o (.dsl j.size ((xs.drop l).take (h - l))) := by
    intro xs l h v hx hD hl hh hlh hhx
    obtain ⟨A, c, z, rfl, r1, _⟩ := hD.dsl_inv
    refine ⟨_, ?_, .data _ _ (hD.dsl_cut l h hlh hhx)⟩
    have := run_slc (P := P) (w := w) h1 h2 (A := A) (n := xs.length) (c := c) (lo.map ev) (hi.map ev) l h hl hh hlh (by omega)
    simp [execOp, ho, hx, this]
  have own : ∀ (id off n l h : Nat) (v : Value), ev x = v → Rp w S σ (.osl id j.size off n) v → (match lo.map ev with | none => l = 0 | some v => ∃ k, v = .int k l) → (match hi.map ev with | none => h = n | some v => ∃ k, v = .int k h) → l ≤ h → h ≤ n → Val1 P w S σ ev o (.osl id j.size (off + l) (h - l)) := by
    intro id off n l h v hx hD hl hh hlh hhx
    obtain ⟨A, B, N, c, cc, rfl, hs, hle, hoc, hB⟩ := hD.osl_inv
    have := run_slc (P := P) (w := w) h1 h2 (A := B) (n := n) (c := cc) (lo.map ev) (hi.map ev) l h hl hh hlh (by omega)
    refine ⟨.slice (if cc = l then B else B.map (·.add (l * j.size))) (h - l) (cc - l), by simp [execOp, ho, hx, this], .osl _ _ _ _ A _ N c _ hs (by omega) (by omega) (fun hcc => ?_)⟩
    rw [if_neg (by omega), hB (by omega), Option.map_map]
    congr 1
    funext a
    show (a.add (off * j.size)).add (l * j.size) = _
    rw [add_of_add, Nat.add_mul]
  cases hlo : lo <;> cases hhi : hi <;> rw [hlo, hhi] at hp hr run own <;> simp only [Option.isSome] at hp <;> cases hp <;> simp only [optL, List.cons_append, List.nil_append, List.append_nil, List.map_cons, List.map_nil] at hr
  case slc_00 xs =>
    obtain ⟨v, e, h⟩ := hr.one_inv
    injection e with e; subst e
    have := run xs 0 xs.length _ rfl h.dsl_inv rfl rfl (by omega) (by omega)
    simpa using this
  case slo_00 id off n =>
    obtain ⟨v, e, h⟩ := hr.one_inv
    injection e with e; subst e
    exact own id off n 0 n _ rfl h rfl rfl (by omega) (by omega)
  case slc_nil k =>
    obtain ⟨v, u, e, q1, q2⟩ := hr.two_inv
    simp only [List.cons.injEq, and_true] at e
    obtain ⟨rfl, rfl⟩ := e
    have := run_slc (P := P) (w := w) h1 h2 (A := none) (n := 0) (c := 0) none (some (.int k 0)) 0 0 rfl ⟨k, rfl⟩ (by omega) (by omega)
    refine ⟨.slice none 0 0, ?_, .data _ _ (.p _ rfl)⟩
    simp [execOp, ho, hlo, hhi, q1.p_inv.1, q2.p_inv.1, this]
  case slc_01 xs k hi' g0 g1 =>
    obtain ⟨v, u, e, q1, q2⟩ := hr.two_inv
    simp only [List.cons.injEq, and_true] at e
    obtain ⟨rfl, rfl⟩ := e
    have := run xs 0 hi'.toNat _ rfl q1.dsl_inv rfl ⟨k, by rw [q2.p_inv.1, Int.toNat_of_nonneg g0]⟩ (by omega) (by omega)
    simpa using this
  case slo_01 id off n k hi' g0 g1 =>
    obtain ⟨v, u, e, q1, q2⟩ := hr.two_inv
    simp only [List.cons.injEq, and_true] at e
    obtain ⟨rfl, rfl⟩ := e
    exact own id off n 0 hi'.toNat _ rfl q1 rfl ⟨k, by rw [q2.p_inv.1, Int.toNat_of_nonneg g0]⟩ (by omega) (by omega)
  case slc_10 xs k lo' g0 g1 =>
    obtain ⟨v, u, e, q1, q2⟩ := hr.two_inv
    simp only [List.cons.injEq, and_true] at e
    obtain ⟨rfl, rfl⟩ := e
    have := run xs lo'.toNat xs.length _ rfl q1.dsl_inv ⟨k, by rw [q2.p_inv.1, Int.toNat_of_nonneg g0]⟩ rfl (by omega) (by omega)
    rwa [List.take_of_length_le (by rw [List.length_drop]; omega)] at this
  case slo_10 id off n k lo' g0 g1 =>
    obtain ⟨v, u, e, q1, q2⟩ := hr.two_inv
    simp only [List.cons.injEq, and_true] at e
    obtain ⟨rfl, rfl⟩ := e
    exact own id off n lo'.toNat n _ rfl q1 ⟨k, by rw [q2.p_inv.1, Int.toNat_of_nonneg g0]⟩ rfl (by omega) (by omega)
  case slc_11 xs k k' lo' hi' g0 g1 g2 =>
    obtain ⟨v, u, y, e, q1, q2, q3⟩ := hr.three_inv
    simp only [List.cons.injEq, and_true] at e
    obtain ⟨rfl, rfl, rfl⟩ := e
    exact run xs lo'.toNat hi'.toNat _ rfl q1.dsl_inv ⟨k, by rw [q2.p_inv.1, Int.toNat_of_nonneg g0]⟩ ⟨k', by rw [q3.p_inv.1, Int.toNat_of_nonneg (by omega)]⟩ (by omega) (by omega)
  case slo_11 id off n k k' lo' hi' g0 g1 g2 =>
    obtain ⟨v, u, y, e, q1, q2, q3⟩ := hr.three_inv
    simp only [List.cons.injEq, and_true] at e
    obtain ⟨rfl, rfl, rfl⟩ := e
    exact own id off n lo'.toNat hi'.toNat _ rfl q1 ⟨k, by rw [q2.p_inv.1, Int.toNat_of_nonneg g0]⟩ ⟨k', by rw [q3.p_inv.1, Int.toNat_of_nonneg (by omega)]⟩ (by omega) (by omega)
theorem run_ssl {t : TypeId} (h1 : P.underlying t = some .string) {s : ByteArray} (lo hi : Option Value) (l h : Nat) (hl : match lo with | none => l = 0 | some v => ∃ k, v = .int k l) (hh : match hi with | none => h = s.size | some v => ∃ k, v = .int k h) (hlh : l ≤ h) (hhc : h ≤ s.size) :
    (Instr.sliceAt t (.string s) lo hi none).run P w = .ok (.string (s.extract l h)) w := by
  cases lo <;> cases hi <;> simp only at hl hh
  · subst hl; subst hh; simp [Instr.sliceAt, Instr.slice, Instr.sliceBounds, run_underlying h1]
  · subst hl; obtain ⟨k, rfl⟩ := hh
    have : (h : Int) ≤ (s.size : Int) := by omega
    simp [Instr.sliceAt, Instr.slice, Instr.sliceBounds, Instr.sliceBound, asIntOf, run_underlying h1, this, hlh, hhc]
  · subst hh; obtain ⟨k, rfl⟩ := hl
    have : (l : Int) ≤ (s.size : Int) := by omega
    simp [Instr.sliceAt, Instr.slice, Instr.sliceBounds, Instr.sliceBound, asIntOf, run_underlying h1, this, hlh, hhc]
  · obtain ⟨k, rfl⟩ := hl; obtain ⟨k', rfl⟩ := hh
    have a1 : (l : Int) ≤ (h : Int) := by omega
    have a2 : (h : Int) ≤ (s.size : Int) := by omega
    simp [Instr.sliceAt, Instr.slice, Instr.sliceBounds, Instr.sliceBound, asIntOf, run_underlying h1, a1, a2, hlh, hhc]
theorem pu_ssl {o : Oper} {t : TypeId} {x : Operand} {lo hi : Option Operand} {a : AV} {args : List AV} (ho : o.op = .slice t x lo hi none) (h1 : P.underlying t = some .string) (hp : PuR P (.ssl lo.isSome hi.isSome) args a) (hr : Rps w S σ args ((x :: optL lo ++ optL hi).map ev)) : Val1 P w S σ ev o a := by
  have run : ∀ (s : ByteArray) (l h : Nat), ev x = .string s → (match lo.map ev with | none => l = 0 | some v => ∃ k, v = .int k l) → (match hi.map ev with | none => h = s.size | some v => ∃ k, v = .int k h) → l ≤ h → h ≤ s.size → Val1 P w S σ ev o (.p (.string (s.extract l h))) := by
    intro s l h hx hl hh hlh hhx
    refine ⟨_, ?_, .data _ _ (.p _ rfl)⟩
    have := run_ssl (P := P) (w := w) h1 (s := s) (lo.map ev) (hi.map ev) l h hl hh hlh hhx
    simp [execOp, ho, hx, this]
  cases hlo : lo <;> cases hhi : hi <;> rw [hlo, hhi] at hp hr run <;> simp only [Option.isSome] at hp <;> cases hp <;> simp only [optL, List.cons_append, List.nil_append, List.append_nil, List.map_cons, List.map_nil] at hr
  · obtain ⟨v, e, h⟩ := hr.one_inv
    injection e with e; subst e
    exact run _ 0 _ h.p_inv.1 rfl rfl (by omega) (by omega)
  · rename_i s k hi' g0 g1
    obtain ⟨v, u, e, q1, q2⟩ := hr.two_inv
    simp only [List.cons.injEq, and_true] at e
    obtain ⟨rfl, rfl⟩ := e
    exact run s 0 hi'.toNat q1.p_inv.1 rfl ⟨k, by rw [q2.p_inv.1, Int.toNat_of_nonneg g0]⟩ (by omega) (by omega)
  · rename_i s k lo' g0 g1
    obtain ⟨v, u, e, q1, q2⟩ := hr.two_inv
    simp only [List.cons.injEq, and_true] at e
    obtain ⟨rfl, rfl⟩ := e
    exact run s lo'.toNat s.size q1.p_inv.1 ⟨k, by rw [q2.p_inv.1, Int.toNat_of_nonneg g0]⟩ rfl (by omega) (by omega)
  · rename_i s k k' lo' hi' g0 g1 g2
    obtain ⟨v, u, y, e, q1, q2, q3⟩ := hr.three_inv
    simp only [List.cons.injEq, and_true] at e
    obtain ⟨rfl, rfl, rfl⟩ := e
    exact run s lo'.toNat hi'.toNat q1.p_inv.1 ⟨k, by rw [q2.p_inv.1, Int.toNat_of_nonneg g0]⟩ ⟨k', by rw [q3.p_inv.1, Int.toNat_of_nonneg (by omega)]⟩ (by omega) (by omega)
theorem pu_sidx {o : Oper} {t : TypeId} {x i : Operand} {a : AV} {args : List AV} (ho : o.op = .index t x i) (h1 : P.underlying t = some .string) (hp : PuR P .sidx args a) (hr : Rps w S σ args [ev x, ev i]) : Val1 P w S σ ev o a := by
  cases hp with
  | sidx s k i b h0 hb =>
    obtain ⟨v, u, e, q1, q2⟩ := hr.two_inv
    simp only [List.cons.injEq, and_true] at e
    obtain ⟨rfl, rfl⟩ := e
    have hx := q1.p_inv.1
    have hy := q2.p_inv.1
    refine ⟨_, ?_, .data _ _ (.p _ rfl)⟩
    simp [execOp, ho, hx, hy, Instr.index, asIntOf, run_underlying h1, h0, hb]
theorem pu_mkfn {o : Oper} {f : Fn} {xs ys : Array Operand} {a : AV} {args : List AV} (ho : o.op = .makeFunc f xs ys) (hp : PuR P (.mkfn f xs.size) args a) (hr : Rps w S σ args ((xs.toList ++ ys.toList).map ev)) : Val1 P w S σ ev o a := by
  cases hp with
  | mkfn _ _ _ hle =>
    refine ⟨.func f (xs.map ev) (ys.map ev), by simp [execOp, ho, Instr.makeFunc], ?_⟩
    have hl : args.length = xs.size + ys.size := by rw [hr.1]; simp
    have h1 : Rps w S σ (args.take xs.size) (xs.map ev).toList := by
      have := hr.take xs.size
      rw [List.map_append, List.take_left' (by simp), ← Array.toList_map] at this
      exact this
    have h2 : Rps w S σ (args.drop xs.size) (ys.map ev).toList := by
      have := hr.drop xs.size
      rw [List.map_append, List.drop_left' (by simp), ← Array.toList_map] at this
      exact this
    exact .fn f _ _ _ _ (by simpa using h1.1) (by simpa using h2.1) (fun i a v ha hv => h1.2 i a v ha (by simpa using hv)) (fun i a v ha hv => h2.2 i a v ha (by simpa using hv))
end
end Go.Proofs.Ytcmnjoepadjioaa

/- Struct and slice literals on abstract values; all operations that touch no memory, together. Nothing of the program is named here. -/
namespace Go.Proofs.Ytcmnjoepadjioaa
open Go.RowKit

section
variable {P : Program} {w : World} {S : Nat → Prop} {σ : Nat → Option Value} {ev : Operand → Value}
theorem setFold (off : Nat) : ∀ (l : List Value) (k : Nat) (cs : Array Value), off + k + l.length ≤ cs.size →
    ((l.zipIdx k).foldl (fun (cs : Array Value) (x : Value × Nat) => cs.setIfInBounds (off + x.2) x.1) cs).toList = cs.toList.take (off + k) ++ l ++ cs.toList.drop (off + k + l.length)
  | [], k, cs, _ => by simp
  | v :: l, k, cs, h => by
    simp only [List.zipIdx_cons, List.foldl_cons, List.length_cons] at h ⊢
    rw [setFold off l (k + 1) _ (by rw [Array.size_setIfInBounds]; omega), Array.toList_setIfInBounds]
    have hlt : off + k < cs.toList.length := by rw [Array.length_toList]; omega
    rw [show off + (k + 1) = off + k + 1 by omega, List.take_set, List.drop_set_of_lt (by omega), List.take_succ_eq_append_getElem hlt, List.set_append_right _ _ (by rw [List.length_take]; omega), List.length_take,
      Nat.min_eq_left (by omega), Nat.sub_self]
    simp only [List.set_cons_zero, List.append_assoc, List.cons_append, List.nil_append]
    rw [show off + k + 1 + l.length = off + k + (l.length + 1) by omega]
theorem cells_fold (v : Value) (off : Nat) (cs : Array Value) (h : off + v.cells.size ≤ cs.size) :
    (v.cells.zipIdx.foldl (fun cs (c, j) => cs.setIfInBounds (off + j) c) cs).toList = cs.toList.take off ++ v.cells.toList ++ cs.toList.drop (off + v.cells.size) := by
  have := setFold off v.cells.toList 0 cs (by simpa using h)
  rw [Nat.add_zero, Array.length_toList] at this
  rw [← this, ← Array.foldl_toList, Array.toList_zipIdx]
theorem Rp.cells {a : AV} {v : Value} (h : Rp w S σ a v) (h1 : a.part = true) : Rps w S σ a.cells v.cells.toList ∧ ∀ u ∈ v.cells, u.oneCell' = true := by
  unfold AV.part at h1
  by_cases ho : a.one = true
  · have hv := h.one_cell ho
    have hc : v.cells = #[v] := by cases v <;> first | rfl | cases hv
    have ha : a.cells = [a] := by cases a <;> first | rfl | cases ho
    rw [hc, ha]
    exact ⟨.cons h .nil, fun u hu => by simp at hu; subst hu; exact hv⟩
  · cases a <;> first | (exfalso; exact ho rfl) | (exfalso; simp [AV.one] at h1; done) | skip
    obtain ⟨vs, rfl, q1, q2⟩ := h.agg_inv
    exact ⟨q1, q2⟩
theorem fillA_cells {cs : List AV} {off n : Nat} {pl : List (Nat × Nat)} {a : AV} {ps : List AV} {r : List AV} (h1 : a.part = true) (h : fillA cs ((off, n) :: pl) (a :: ps) = some r) :
    a.cells.length = n ∧ off + n ≤ cs.length ∧ fillA (cs.take off ++ a.cells ++ cs.drop (off + n)) pl ps = some r := by
  have one : ∀ b : AV, b.cells = [b] → (if n = 1 ∧ off + 1 ≤ cs.length then fillA (cs.set off b) pl ps else none) = some r → b.cells.length = n ∧ off + n ≤ cs.length ∧ fillA (cs.take off ++ b.cells ++ cs.drop (off + n)) pl ps = some r := by
    intro b hb hq
    by_cases hc : n = 1 ∧ off + 1 ≤ cs.length
    · rw [if_pos hc] at hq
      obtain ⟨hn, hc⟩ := hc
      subst hn
      rw [hb]
      refine ⟨rfl, hc, ?_⟩
      rw [List.set_eq_take_append_cons_drop, if_pos (by omega)] at hq
      simpa using hq
    · rw [if_neg hc] at hq; cases hq
  cases a <;> first | exact one _ rfl h | skip
  rename_i ds
  simp only [fillA] at h
  by_cases hc : ds.length = n ∧ off + n ≤ cs.length
  · rw [if_pos hc] at h; exact ⟨hc.1, hc.2, h⟩
  · rw [if_neg hc] at h; cases h
theorem fill_sound {place : Nat → Option (Nat × Nat)} : ∀ (xs : List (Nat × Value)) (pl : List (Nat × Nat)) (as_ : List AV) (cs r : List AV) (vs : Array Value), (as_.all AV.part) = true → Rps w S σ as_ (xs.map (·.2)) →
    xs.map (fun x => place x.1) = pl.map some → fillA cs pl as_ = some r → Rps w S σ cs vs.toList → (∀ u ∈ vs, u.oneCell' = true) → ∃ us : Array Value, Instr.fill place vs xs = some us ∧ Rps w S σ r us.toList ∧ ∀ u ∈ us, u.oneCell' = true
  | [], pl, as_, cs, r, vs, _, hr, hpl, hf, hc, h1 => by
    have : pl = [] := by cases pl with | nil => rfl | cons a b => simp at hpl
    subst this
    have : as_ = [] := List.eq_nil_of_length_eq_zero (by rw [hr.1]; rfl)
    subst this
    simp only [fillA, Option.some.injEq] at hf
    subst hf
    exact ⟨vs, rfl, hc, h1⟩
  | (i, v) :: xs, pl, as_, cs, r, vs, hall, hr, hpl, hf, hc, h1 => by
    match pl, as_, hpl, hr, hall with
    | (off, n) :: pl, a :: as_, hpl, hr, hall =>
      simp only [List.map_cons, List.cons.injEq] at hpl
      simp only [List.all_cons, Bool.and_eq_true] at hall
      obtain ⟨u, us, e, q1, q2⟩ := hr.uncons
      simp only [List.map_cons, List.cons.injEq] at e
      obtain ⟨rfl, rfl⟩ := e
      obtain ⟨k1, k2, k3⟩ := fillA_cells hall.1 hf
      obtain ⟨c1, c2⟩ := q1.cells hall.1
      have hsz : v.cells.size = n := by rw [← k1, c1.1, Array.length_toList]
      have hle : off + v.cells.size ≤ vs.size := by have h5 := hc.1; have h6 : vs.toList.length = vs.size := Array.length_toList; omega
      have hcf := cells_fold v off vs hle
      obtain ⟨us', g1, g2, g3⟩ := fill_sound xs pl as_ _ r (v.cells.zipIdx.foldl (fun cs (c, j) => cs.setIfInBounds (off + j) c) vs) hall.2 q2 hpl.2 k3
        (by rw [hcf, hsz]; exact ((hc.take off).append c1).append (hc.drop _))
        (fun u hu => by
          rw [← Array.mem_toList_iff, hcf] at hu
          rcases List.mem_append.1 hu with hu | hu
          · rcases List.mem_append.1 hu with hu | hu
            · exact h1 u (Array.mem_toList_iff.1 (List.mem_of_mem_take hu))
            · exact c2 u (Array.mem_toList_iff.1 hu)
          · exact h1 u (Array.mem_toList_iff.1 (List.mem_of_mem_drop hu)))
      refine ⟨us', ?_, g2, g3⟩
      rw [Instr.fill, hpl.1]
      simp only
      rw [if_neg (by simp only [Bool.or_eq_true, decide_eq_true_eq, not_or]; exact ⟨by omega, by omega⟩)]
      exact g1
theorem zeroA_run {t : TypeId} {z : List AV} (h : zeroA P t = some z) : ∃ v, (zeroValue t).run P w = .ok v w ∧ z = v.cells.toList.map .p ∧ Rps w S σ z v.cells.toList ∧ ∀ u ∈ v.cells, u.oneCell' = true := by
  unfold zeroA at h
  cases hi : P.info? t with
  | none => rw [hi] at h; cases h
  | some i =>
    rw [hi] at h
    simp only at h
    cases hz : i.zero with
    | none => rw [hz] at h; cases h
    | some v =>
      rw [hz] at h
      simp only at h
      split at h
      · rename_i hall
        injection h with h
        rw [Array.all_eq_true'] at hall
        refine ⟨v, by simp [zeroValue, typeInfo, hi, hz], h.symm, ?_, hall⟩
        subst h
        refine ⟨by simp, fun k a u ha hu => ?_⟩
        rw [List.getElem?_map, hu] at ha
        simp at ha; subst ha
        exact .data _ _ (.p _ (hall u (Array.mem_toList_iff.1 (List.mem_of_getElem? hu))))
      · cases h
theorem mapM_places {places : List (Nat × Nat)} : ∀ {xs : List (Nat × Operand)} {pl : List (Nat × Nat)}, xs.mapM (fun x => places[x.1]?) = some pl → xs.map (fun x => places[x.1]?) = pl.map some
  | [], pl, h => by simp at h; subst h; rfl
  | x :: xs, pl, h => by
    simp only [List.mapM_cons, Option.bind_eq_bind, Option.pure_def] at h
    cases h1 : places[x.1]? with
    | none => simp [h1] at h
    | some a =>
      cases h2 : xs.mapM (fun x => places[x.1]?) with
      | none => simp [h1, h2] at h
      | some r =>
        simp [h1, h2] at h
        subst h
        simp [h1, mapM_places h2]
theorem pu_bld {o : Oper} {t : TypeId} {parts : Array (Nat × Operand)} {a : AV} {args : List AV} {z : List AV} {pl : List (Nat × Nat)} (ho : o.op = .build t parts) (hc : clsP P o.op = some (.bld z pl, parts.toList.map (·.2)))
    (hp : PuR P (.bld z pl) args a) (hr : Rps w S σ args ((parts.toList.map (·.2)).map ev)) : Val1 P w S σ ev o a := by
  cases hp with
  | bld _ _ _ cs hall hf =>
    have hxs : ((parts.map fun x => (x.1, ev x.2)).toList).map (·.2) = (parts.toList.map (·.2)).map ev := by simp
    have fin : ∀ (place : Nat → Option (Nat × Nat)) (zv : Value), zeroA P t = some z → (P.info? t).bind (·.zero) = some zv → parts.toList.map (fun x => place x.1) = pl.map some →
        (∀ us, Instr.fill place zv.cells (parts.map fun x => (x.1, ev x.2)).toList = some us → P.built t (parts.map fun x => (x.1, ev x.2)).toList = some us) → Val1 P w S σ ev o (.agg cs) := by
      intro place zv hz hzv hpl hb
      obtain ⟨v, hv, _, q1, q2⟩ := zeroA_run (P := P) (w := w) (S := S) (σ := σ) hz
      have hvz : v = zv := by
        cases hi : P.info? t with
        | none => rw [hi] at hzv; cases hzv
        | some i =>
          rw [hi] at hzv
          simp only [Option.bind_some] at hzv
          simp [zeroValue, typeInfo, hi, hzv] at hv
          exact hv.symm
      subst hvz
      obtain ⟨us, g1, g2, g3⟩ := fill_sound (place := place) (parts.map fun x => (x.1, ev x.2)).toList pl args z cs v.cells hall (by rw [hxs]; exact hr) (by rw [← hpl]; simp) hf q1 q2
      exact ⟨.agg us, by simp [execOp, ho, run_build _ _ _ us (hb us g1)], Rps.agg g2 g3⟩
    rw [ho] at hc
    simp only [clsP] at hc
    cases hu : P.underlying t with
    | none => rw [hu] at hc; cases hc
    | some d =>
      rw [hu] at hc
      cases d <;> (try simp only at hc) <;> try (cases hc; done)
      case array n e =>
        cases hz : zeroA P t with
        | none => rw [hz] at hc; cases hc
        | some z' =>
          rw [hz] at hc
          simp only at hc
          cases hi : P.info? e with
          | none => rw [hi] at hc; cases hc
          | some j =>
            rw [hi] at hc
            simp only [Option.some.injEq, Prod.mk.injEq, PO.bld.injEq] at hc
            obtain ⟨⟨rfl, rfl⟩, _⟩ := hc
            cases hit : P.info? t with
            | none => unfold zeroA at hz; rw [hit] at hz; cases hz
            | some it =>
              cases hzz : it.zero with
              | none => unfold zeroA at hz; rw [hit] at hz; simp only [hzz] at hz; cases hz
              | some zv =>
                refine fin (fun i => some (i * j.size, j.size)) zv hz (by rw [hit]; exact hzz) (by simp) (fun us hus => ?_)
                unfold Program.built
                rw [hit, hu]
                simp only [hzz, hi]
                exact hus
      case struct fields =>
        cases hz : zeroA P t with
        | none => rw [hz] at hc; cases hc
        | some z' =>
          rw [hz] at hc
          simp only at hc
          cases hpl : fields.toList.mapM (fun f => (P.info? f.type).map fun i => (f.offset, i.size)) with
          | none => rw [hpl] at hc; cases hc
          | some places =>
            rw [hpl] at hc
            simp only at hc
            cases hp2 : parts.toList.mapM (fun x => places[x.1]?) with
            | none => rw [hp2] at hc; cases hc
            | some pl' =>
              rw [hp2] at hc
              simp only [Option.some.injEq, Prod.mk.injEq, PO.bld.injEq] at hc
              obtain ⟨⟨rfl, rfl⟩, _⟩ := hc
              cases hit : P.info? t with
              | none => unfold zeroA at hz; rw [hit] at hz; cases hz
              | some it =>
                cases hzz : it.zero with
                | none => unfold zeroA at hz; rw [hit] at hz; simp only [hzz] at hz; cases hz
                | some zv =>
                  refine fin (fun i => places[i]?) zv hz (by rw [hit]; exact hzz) (mapM_places hp2) (fun us hus => ?_)
                  unfold Program.built
                  rw [hit, hu]
                  simp only [hzz, hpl]
                  simpa using hus
/-- an operation that touches no memory -/
theorem pu_sound {o : Oper} {po : PO} {xs : List Operand} {args : List AV} {a : AV} (hc : clsP P o.op = some (po, xs)) (hp : PuR P po args a) (hr : Rps w S σ args (xs.map ev))
    (hsz : ∀ id A n c, σ id = some (.slice A n c) → n ≤ c ∧ (0 < c → ∃ g o, A = some ⟨g, o, none⟩)) : Val1 P w S σ ev o a := by
  have hc0 := hc
  cases ho : o.op <;> rw [ho] at hc <;> simp only [clsP] at hc <;> try (cases hc; done)
  case move x => obtain ⟨rfl, rfl⟩ := (by simpa using hc : PO.mv = po ∧ [x] = xs); exact pu_mv (.inl ho) hp hr
  case assign x => obtain ⟨rfl, rfl⟩ := (by simpa using hc : PO.mv = po ∧ [x] = xs); exact pu_mv (.inr ho) hp hr
  case pick x y z => obtain ⟨rfl, rfl⟩ := (by simpa using hc : PO.pick = po ∧ [x, y, z] = xs); exact pu_pick ho hp hr
  case nilCheck x => obtain ⟨rfl, rfl⟩ := (by simpa using hc : PO.nilck = po ∧ [x] = xs); exact pu_nilck ho hp hr
  case binOp op t x y ty => obtain ⟨rfl, rfl⟩ := (by simpa using hc : PO.bin op t = po ∧ [x, y] = xs); exact pu_bin ho hp hr hsz
  case unOp op t x => obtain ⟨rfl, rfl⟩ := (by simpa using hc : PO.un op = po ∧ [x] = xs); exact pu_un ho hp hr
  case extract x i => obtain ⟨rfl, rfl⟩ := (by simpa using hc : PO.ext i = po ∧ [x] = xs); exact pu_ext ho hp hr
  case makeFunc f ys zs => obtain ⟨rfl, rfl⟩ := (by simpa using hc : PO.mkfn f ys.size = po ∧ ys.toList ++ zs.toList = xs); exact pu_mkfn ho hp hr
  case build t parts =>
    have : ∃ z pl, po = .bld z pl ∧ xs = parts.toList.map (·.2) := by
      revert hc
      split
      · split
        · split
          · intro hc; simp at hc; exact ⟨_, _, hc.1.symm, hc.2.symm⟩
          · intro hc; cases hc
        · intro hc; cases hc
      · split
        · intro hc; simp at hc; exact ⟨_, _, hc.1.symm, hc.2.symm⟩
        · intro hc; cases hc
      · intro hc; cases hc
    obtain ⟨z, pl, rfl, rfl⟩ := this
    exact pu_bld ho hc0 hp hr
  case convert s d x =>
    cases h1 : P.underlying s with
    | none => rw [h1] at hc; cases hc
    | some u =>
      cases h2 : P.underlying d with
      | none => rw [h1, h2] at hc; cases u <;> cases hc
      | some v =>
        rw [h1, h2] at hc
        cases u <;> cases v <;> simp only at hc <;> try (cases hc; done)
        · simp only [Option.some.injEq, Prod.mk.injEq] at hc; obtain ⟨rfl, rfl⟩ := hc; exact pu_conv ho h1 h2 hp hr
        · simp only [Option.some.injEq, Prod.mk.injEq] at hc; obtain ⟨rfl, rfl⟩ := hc; exact pu_same ho h1 h2 hp hr
  case fieldAddr t x f =>
    revert hc
    split
    · rename_i fields h1
      split
      · rename_i fd h2
        split
        · rename_i i h3
          split
          · intro hc; cases hc
          · rename_i h4
            intro hc
            simp only [Option.some.injEq, Prod.mk.injEq] at hc
            obtain ⟨rfl, rfl⟩ := hc
            exact pu_addOff ho h1 h2 h3 h4 hp hr
        · intro hc; cases hc
      · intro hc; cases hc
    · intro hc; cases hc
  case indexAddr t x i =>
    revert hc
    split
    · rename_i e h1
      cases h3 : P.info? e with
      | none => intro hc; cases hc
      | some j =>
        intro hc
        simp only [Option.map_some, Option.some.injEq, Prod.mk.injEq] at hc
        obtain ⟨rfl, rfl⟩ := hc
        exact pu_idx ho h1 h3 hp hr hsz
    · rename_i n e h1
      cases h3 : P.info? e with
      | none => intro hc; cases hc
      | some j =>
        intro hc
        simp only [Option.map_some, Option.some.injEq, Prod.mk.injEq] at hc
        obtain ⟨rfl, rfl⟩ := hc
        exact pu_aidx ho h1 h3 hp hr
    · intro hc; cases hc
  case field t x f =>
    revert hc
    split
    · rename_i fields h1
      split
      · rename_i fd h2
        split
        · rename_i b j h3 h4
          intro hc
          simp only [Option.some.injEq, Prod.mk.injEq] at hc
          obtain ⟨rfl, rfl⟩ := hc
          exact pu_fld ho h1 h2 h3 h4 hp hr
        · intro hc; cases hc
      · intro hc; cases hc
    · intro hc; cases hc
  case slice t x lo hi mx =>
    cases mx with
    | some m => cases hc
    | none =>
      simp only at hc
      revert hc
      split
      · rename_i e h1
        cases h3 : P.info? e with
        | none => intro hc; cases hc
        | some j =>
          intro hc
          simp only [Option.map_some, Option.some.injEq, Prod.mk.injEq] at hc
          obtain ⟨rfl, rfl⟩ := hc
          exact pu_slc ho h1 h3 hp hr
      · rename_i h1
        intro hc
        simp only [Option.some.injEq, Prod.mk.injEq] at hc
        obtain ⟨rfl, rfl⟩ := hc
        exact pu_ssl ho h1 hp hr
      · intro hc; cases hc
  case index t x i =>
    revert hc
    split
    · rename_i h1
      intro hc
      simp only [Option.some.injEq, Prod.mk.injEq] at hc
      obtain ⟨rfl, rfl⟩ := hc
      exact pu_sidx ho h1 hp hr
    · intro hc; cases hc
  case call c =>
    revert hc
    split
    · rename_i hb
      cases ht : c.argTypes[0]? with
      | none => intro hc; simp at hc
      | some ty =>
        simp only [Option.bind_some]
        split
        · rename_i h1
          split
          · rename_i x h2
            intro hc
            simp only [Option.some.injEq, Prod.mk.injEq] at hc
            obtain ⟨rfl, rfl⟩ := hc
            exact pu_slen ho hb ht h1 h2 hp hr
          · intro hc; cases hc
        · rename_i e h1
          split
          · rename_i x h2
            intro hc
            simp only [Option.some.injEq, Prod.mk.injEq] at hc
            obtain ⟨rfl, rfl⟩ := hc
            exact pu_len ho hb ht h1 h2 hp hr
          · intro hc; cases hc
        · intro hc; cases hc
    · rename_i hb
      cases ht : c.argTypes[0]? with
      | none => intro hc; simp at hc
      | some ty =>
        simp only [Option.bind_some]
        split
        · rename_i e h1
          split
          · rename_i x h2
            intro hc
            simp only [Option.some.injEq, Prod.mk.injEq] at hc
            obtain ⟨rfl, rfl⟩ := hc
            exact pu_cap ho hb ht h1 h2 hp hr
          · intro hc; cases hc
        · intro hc; cases hc
    · rename_i hb
      split
      · rename_i x y h2
        intro hc
        simp only [Option.some.injEq, Prod.mk.injEq] at hc
        obtain ⟨rfl, rfl⟩ := hc
        exact pu_mn ho hb h2 hp hr
      · intro hc; cases hc
    · rename_i hb
      split
      · rename_i x y h2
        intro hc
        simp only [Option.some.injEq, Prod.mk.injEq] at hc
        obtain ⟨rfl, rfl⟩ := hc
        exact pu_mx ho hb h2 hp hr
      · intro hc; cases hc
    · intro hc; cases hc
end
end Go.Proofs.Ytcmnjoepadjioaa

/- Operations that read memory or lay new things, on abstract memory. Nothing of the program is named here. -/
namespace Go.Proofs.Ytcmnjoepadjioaa
open Go.RowKit Go.Maps

/-- the cells from a place on -/
inductive AtA (H : AH) : AV → List AV → Prop
  | box (id off : Nat) (t : TypeId) (cs : List AV) : H.get id = some (.box t cs) → AtA H (.ptr id off) (cs.drop off)
  | row (id sz i j : Nat) (t : TypeId) (es : List (List AV)) (e : List AV) : H.get id = some (.row t sz es) → es[i]? = some e → AtA H (.eptr id sz i j) (e.drop j)
  | frz (id sz i j : Nat) (es : List (List AV)) (e : List AV) : H.get id = some (.frz sz es) → es[i]? = some e → AtA H (.eptr id sz i j) (e.drop j)
  | dat (sz i j : Nat) (xs : List (List AV)) (e : List AV) : xs[i]? = some e → AtA H (.dptr sz xs i j) (e.drop j)
/-- the elements of a slice -/
inductive ElA (H : AH) (sz : Nat) : AV → List (List AV) → Prop
  | dsl (xs : List (List AV)) : ElA H sz (.dsl sz xs) xs
  | row (id off n : Nat) (t : TypeId) (es : List (List AV)) : H.get id = some (.row t sz es) → off + n ≤ es.length → ElA H sz (.osl id sz off n) ((es.drop off).take n)
  | frz (id off n : Nat) (es : List (List AV)) : H.get id = some (.frz sz es) → off + n ≤ es.length → ElA H sz (.osl id sz off n) ((es.drop off).take n)
  | nil_ (A : Option Addr) (c : Nat) : ElA H sz (.p (.slice A 0 c)) []
inductive RO where
  | ld (n : Nat) (agg : Bool)
  | look (kt : TypeId) (z : AV) (ok : Bool)
inductive RdR (P : Program) (H : AH) : RO → List AV → AV → Prop
  | ld_agg (n : Nat) (a : AV) (ds : List AV) : AtA H a ds → n ≤ ds.length → RdR P H (.ld n true) [a] (.agg (ds.take n))
  | ld_one (n : Nat) (a b : AV) (ds : List AV) : AtA H a ds → ds[0]? = some b → RdR P H (.ld n false) [a] b
  | look_no (kt : TypeId) (z : AV) (ok : Bool) (id n : Nat) (f : Value → Option AV) (key : AV) (u : Value) : H.get id = some (.map kt n f) → Keyed P kt → key.val = some u → (keyOf P kt u).isSome = true → f u = none →
      RdR P H (.look kt z ok) [.mp id, key] (if ok then .tup [z, .p (.bool false)] else z)
  | look_yes (kt : TypeId) (z b : AV) (ok : Bool) (id n : Nat) (f : Value → Option AV) (key : AV) (u : Value) : H.get id = some (.map kt n f) → Keyed P kt → key.val = some u → (keyOf P kt u).isSome = true → f u = some b →
      RdR P H (.look kt z ok) [.mp id, key] (if ok then .tup [b, .p (.bool true)] else b)
def zeroV (P : Program) (t : TypeId) : Option AV :=
  match P.info? t with
  | some i => match i.zero with
    | some (.agg cs) => if cs.all (·.oneCell') then some (.agg (cs.toList.map .p)) else none
    | some v => if v.oneCell' then some (.p v) else none
    | none => none
  | none => none
def clsR (P : Program) (o : Op) : Option (RO × List Operand) :=
  match o with
  | .load t x => match aggB P t, P.info? t with
    | some b, some i => some (.ld i.size b, [x])
    | _, _ => none
  | .lookup t x k ok => match P.underlying t with
    | some (.map kt e) => match zeroV P e with
      | some z => some (.look kt z ok, [x, k])
      | none => none
    | _ => none
  | _ => none

section
variable {P : Program} {w : World} {S : Nat → Prop} {σ : Nat → Option Value} {ev : Operand → Value} {H : AH}
theorem zeroV_run {t : TypeId} {z : AV} (h : zeroV P t = some z) : ∃ v, (zeroValue t).run P w = .ok v w ∧ Rp w S σ z v := by
  unfold zeroV at h
  cases hi : P.info? t with
  | none => rw [hi] at h; cases h
  | some i =>
    rw [hi] at h
    simp only at h
    cases hz : i.zero with
    | none => rw [hz] at h; cases h
    | some v =>
      rw [hz] at h
      refine ⟨v, by simp [zeroValue, typeInfo, hi, hz], ?_⟩
      cases v <;> simp only at h
      case agg cs =>
        split at h
        · rename_i hall
          rw [Array.all_eq_true'] at hall
          injection h with h
          subst h
          refine .agg _ _ (by simp) (fun k a u ha hu => ?_) hall
          rw [List.getElem?_map, Array.getElem?_toList, hu] at ha
          simp at ha; subst ha
          exact .data _ _ (.p _ (hall u (Array.mem_of_getElem? hu)))
        · cases h
      all_goals
        first
        | (rw [if_pos rfl] at h; injection h with h; subst h; exact .data _ _ (.p _ rfl))
        | (simp [Value.oneCell'] at h; subst h; exact .data _ _ (.p _ rfl))
        | (simp [Value.oneCell'] at h)
/-- cells that lie from a place on -/
def Lies (w : World) (S : Nat → Prop) (σ : Nat → Option Value) (g off : Nat) (ds : List AV) : Prop := ∀ (k : Nat) (b : AV), ds[k]? = some b → ∃ u, w.cell? ⟨g, off + k, none⟩ = some u ∧ Rp w S σ b u ∧ u.oneCell' = true
theorem at_sound (hs : Sat P w S σ H) {a : AV} {ds : List AV} {v : Value} (h : AtA H a ds) (hr : Rp w S σ a v) : ∃ g off, v = .pointer (some ⟨g, off, none⟩) ∧ Lies w S σ g off ds := by
  cases h with
  | box id off t cs hg =>
    obtain ⟨g, rfl, hσ⟩ := hr.ptr_inv
    obtain ⟨g', arr, h1, h2, h3, h4⟩ := hs.obj id _ hg
    rw [hσ] at h1
    simp only [Option.some.injEq, Value.pointer.injEq, Addr.mk.injEq, and_true] at h1
    subst h1
    refine ⟨g, off, rfl, fun k b hb => ?_⟩
    rw [List.getElem?_drop] at hb
    obtain ⟨u, hu, hbu⟩ := h3.at_ hb
    rw [Array.getElem?_toList] at hu
    exact ⟨u, by rw [h2.cell]; exact hu, hbu, h4 u (Array.mem_of_getElem? hu)⟩
  | row id sz i j t es e hg he =>
    obtain ⟨g, o, n, c, rfl, hσ⟩ := hr.eptr_inv
    obtain ⟨A, c', h1, h2, h3, h4, h5⟩ := hs.obj id _ hg
    rw [hσ] at h1
    simp only [Option.some.injEq, Value.slice.injEq] at h1
    obtain ⟨rfl, rfl, rfl⟩ := h1
    rcases h5 with ⟨h5, _⟩ | ⟨g', o', arr, h5, k1, k2, k3, k4⟩
    · cases h5
    · simp only [Option.some.injEq, Addr.mk.injEq, and_true] at h5
      obtain ⟨rfl, rfl⟩ := h5
      refine ⟨g, _, rfl, fun k b hb => ?_⟩
      rw [List.getElem?_drop] at hb
      obtain ⟨u, hu, hbu⟩ := k4 i e (j + k) b he hb
      exact ⟨u, by rw [k1.cell, show o + i * sz + j + k = o + i * sz + (j + k) by omega]; exact hu, hbu, k3 u (Array.mem_of_getElem? hu)⟩
  | frz id sz i j es e hg he =>
    obtain ⟨g, o, n, c, rfl, hσ⟩ := hr.eptr_inv
    obtain ⟨A, c', h1, h2⟩ := hs.obj id _ hg
    rw [hσ] at h1
    simp only [Option.some.injEq, Value.slice.injEq] at h1
    obtain ⟨rfl, rfl, rfl⟩ := h1
    obtain ⟨A, c', z, e1, r1, r2, r3, r4, r5, r6⟩ := h2.dsl_inv
    simp only [Value.slice.injEq] at e1
    obtain ⟨rfl, _, rfl⟩ := e1
    refine ⟨g, _, rfl, fun k b hb => ?_⟩
    rw [List.getElem?_drop] at hb
    obtain ⟨g', o', e2, _, hc⟩ := r4 i e (j + k) b he hb
    simp only [Option.some.injEq, Addr.mk.injEq, and_true] at e2
    obtain ⟨rfl, rfl⟩ := e2
    exact ⟨_, by rw [show o + i * sz + j + k = o + i * sz + (j + k) by omega]; exact hc, .data _ _ (r5 i e (j + k) b he hb), r6 _ _⟩
  | dat sz i j xs e he =>
    obtain ⟨g, o, c, rfl, h2, hi⟩ := hr.dptr_inv
    obtain ⟨A, c', z, e1, r1, r2, r3, r4, r5, r6⟩ := h2.dsl_inv
    simp only [Value.slice.injEq] at e1
    obtain ⟨rfl, _, rfl⟩ := e1
    refine ⟨g, _, rfl, fun k b hb => ?_⟩
    rw [List.getElem?_drop] at hb
    obtain ⟨g', o', e2, _, hc⟩ := r4 i e (j + k) b he hb
    simp only [Option.some.injEq, Addr.mk.injEq, and_true] at e2
    obtain ⟨rfl, rfl⟩ := e2
    exact ⟨_, by rw [show o + i * sz + j + k = o + i * sz + (j + k) by omega]; exact hc, .data _ _ (r5 i e (j + k) b he hb), r6 _ _⟩
/-- cells that lie so are read so -/
theorem lies_list {g off n : Nat} {ds : List AV} (h : Lies w S σ g off ds) (hn : n ≤ ds.length) : ∃ us : List Value, us.length = n ∧ Rps w S σ (ds.take n) us ∧ (∀ u ∈ us, u.oneCell' = true) ∧ ∀ (j : Nat) (u : Value), us[j]? = some u → w.cell? ⟨g, off + j, none⟩ = some u := by
  induction n with
  | zero => exact ⟨[], rfl, by rw [List.take_zero]; exact .nil, by simp, by simp⟩
  | succ n ih =>
    obtain ⟨us, h1, h2, h3, h4⟩ := ih (by omega)
    obtain ⟨u, hu, hr, ho⟩ := h n _ (List.getElem?_eq_getElem (by omega))
    refine ⟨us ++ [u], by simp [h1], ?_, fun x hx => ?_, fun j x hx => ?_⟩
    · rw [List.take_succ_eq_append_getElem (by omega)]
      exact h2.append (.cons hr .nil)
    · rcases List.mem_append.1 hx with hx | hx
      · exact h3 x hx
      · simp at hx; subst hx; exact ho
    · by_cases hj : j < us.length
      · rw [List.getElem?_append_left hj] at hx; exact h4 j x hx
      · rw [List.getElem?_append_right (by omega)] at hx
        have : j - us.length = 0 := by have := (List.getElem?_eq_some_iff.1 hx).1; simp at this; omega
        rw [this] at hx
        simp at hx; subst hx
        rw [show j = n by omega]; exact hu
theorem rd_load {o : Oper} {t : TypeId} {x : Operand} {b : Bool} {i : TypeInfo} {a : AV} {args : List AV} (hs : Sat P w S σ H) (ho : o.op = .load t x) (h1 : aggB P t = some b) (h2 : P.info? t = some i) (hp : RdR P H (.ld i.size b) args a) (hr : Rps w S σ args [ev x]) : Val1 P w S σ ev o a := by
  have hag := run_isAggB (w := w) h1
  cases hp with
  | ld_agg n a ds hat hle =>
    obtain ⟨v, e, h⟩ := hr.one_inv
    injection e with e; subst e
    obtain ⟨g, off, hx, hl⟩ := at_sound hs hat h
    obtain ⟨us, k1, k2, k3, k4⟩ := lies_list hl hle
    refine ⟨.agg us.toArray, ?_, Rps.agg (by simpa using k2) (fun u hu => k3 u (by simpa using hu))⟩
    have := run_loadCells_list (P := P) w ⟨g, off, none⟩ us (fun j u hu => by rw [addr_add]; exact k4 j u hu)
    rw [k1] at this
    simp [execOp, ho, Instr.loadAt, hx, Instr.sureAddr, loadVar, hag, sizeOf, typeInfo, h2, this]
  | ld_one n a b ds hat hb =>
    obtain ⟨v, e, h⟩ := hr.one_inv
    injection e with e; subst e
    obtain ⟨g, off, hx, hl⟩ := at_sound hs hat h
    obtain ⟨u, hu, hru, _⟩ := hl 0 _ hb
    refine ⟨u, ?_, hru⟩
    simp [execOp, ho, Instr.loadAt, hx, Instr.sureAddr, loadVar, hag, show w.cell? ⟨g, off, none⟩ = some u from hu]
theorem rd_sound {o : Oper} {ro : RO} {xs : List Operand} {args : List AV} {a : AV} (hs : Sat P w S σ H) (hc : clsR P o.op = some (ro, xs)) (hp : RdR P H ro args a) (hr : Rps w S σ args (xs.map ev)) : Val1 P w S σ ev o a := by
  cases ho : o.op <;> rw [ho] at hc <;> simp only [clsR] at hc <;> try (cases hc; done)
  case load t x =>
    cases h1 : aggB P t with
    | none => rw [h1] at hc; cases hc
    | some b =>
      cases h2 : P.info? t with
      | none => rw [h1, h2] at hc; cases hc
      | some i =>
        rw [h1, h2] at hc
        simp only [Option.some.injEq, Prod.mk.injEq] at hc
        obtain ⟨rfl, rfl⟩ := hc
        exact rd_load hs ho h1 h2 hp hr
  case lookup t x k ok =>
    cases h1 : P.underlying t with
    | none => rw [h1] at hc; cases hc
    | some d =>
      rw [h1] at hc
      cases d <;> (try simp only at hc) <;> try (cases hc; done)
      rename_i kt e
      have key : ∃ z zv, ro = .look kt z ok ∧ xs = [x, k] ∧ (zeroValue e).run P w = .ok zv w ∧ Rp w S σ z zv := by
        cases hz : zeroV P e with
        | none => rw [hz] at hc; cases hc
        | some z =>
          rw [hz] at hc
          simp only [Option.some.injEq, Prod.mk.injEq] at hc
          obtain ⟨v, hv, q1⟩ := zeroV_run (P := P) (w := w) (S := S) (σ := σ) hz
          exact ⟨z, v, hc.1.symm, hc.2.symm, hv, q1⟩
      obtain ⟨z, zv, rfl, rfl, hz, hrz⟩ := key
      have run : ∀ (id n : Nat) (f : Value → Option AV) (ka : AV) (u : Value), args = [.mp id, ka] → H.get id = some (.map kt n f) → Keyed P kt → ka.val = some u → (keyOf P kt u).isSome = true →
          ∃ f' : Value → Option Value, (execOp ev o).run P w = .ok (.value (if ok then .tuple #[(f' u).getD zv, .bool (f' u).isSome] else (f' u).getD zv)) w ∧ ((f u = none ∧ f' u = none) ∨ ∃ a v, f u = some a ∧ f' u = some v ∧ Rp w S σ a v) := by
        intro id n f ka u hargs hg K hu hk
        subst hargs
        obtain ⟨v1, v2, e1, q1, q2⟩ := hr.two_inv
        simp only [List.map_cons, List.map_nil, List.cons.injEq, and_true] at e1
        obtain ⟨rfl, rfl⟩ := e1
        obtain ⟨g, hx, hσ⟩ := q1.mp_inv
        have hku := AV.val_sound hu q2
        obtain ⟨g', f', m1, m2, m3⟩ := hs.obj id _ hg
        rw [hσ] at m1
        simp only [Option.some.injEq, Value.map.injEq] at m1
        subst m1
        refine ⟨f', ?_, m3 u⟩
        have := m2.lookAny ok K h1 hz hk
        simp [execOp, ho, hx, hku, this]
      cases hp with
      | look_no _ _ _ id n f ka u hg K hu hk hf =>
        obtain ⟨f', hrun, hff⟩ := run id n f ka u rfl hg K hu hk
        rcases hff with ⟨_, hff⟩ | ⟨a, v, hff, _⟩
        · rw [hff] at hrun
          cases ok
          · exact ⟨_, hrun, hrz⟩
          · exact ⟨_, hrun, Rps.tup (by simpa using Rps.cons hrz (.cons (.data _ _ (.p _ rfl)) .nil))⟩
        · rw [hf] at hff; cases hff
      | look_yes _ _ b _ id n f ka u hg K hu hk hf =>
        obtain ⟨f', hrun, hff⟩ := run id n f ka u rfl hg K hu hk
        rcases hff with ⟨hff, _⟩ | ⟨a, v, hff, hfv, hra⟩
        · rw [hf] at hff; cases hff
        · rw [hf] at hff
          injection hff with hff
          subst hff
          rw [hfv] at hrun
          cases ok
          · exact ⟨_, hrun, hra⟩
          · exact ⟨_, hrun, Rps.tup (by simpa using Rps.cons hra (.cons (.data _ _ (.p _ rfl)) .nil))⟩
end
end Go.Proofs.Ytcmnjoepadjioaa

/- Operations that lay new things, on abstract memory. Nothing of the program is named here. -/
namespace Go.Proofs.Ytcmnjoepadjioaa
open Go.RowKit Go.Maps

inductive AOp where
  | nw (t : TypeId) (z : List AV)
  | bx (t : TypeId)
  | bs (t sz len : Nat) (z : List AV) (pl : List (Nat × Nat))
  | ms (t sz bytes : Nat) (z : List AV)
  | mm (kt : TypeId)
inductive AlR (id : Nat) : AOp → List AV → AO → AV → Prop
  | nw (t : TypeId) (z : List AV) : AlR id (.nw t z) [] (.box t z) (.ptr id 0)
  | bx (t : TypeId) (a : AV) : a.part = true → AlR id (.bx t) [a] (.box t a.cells) (.ptr id 0)
  | bs (t sz len : Nat) (z : List AV) (pl : List (Nat × Nat)) (xs : List AV) (es : List (List AV)) : xs.all AV.part = true → es.length = len → (∀ e ∈ es, e.length = sz) → fillA (List.replicate len z).flatten pl xs = some es.flatten →
      AlR id (.bs t sz len z pl) xs (.row t sz es) (.osl id sz 0 len)
  | ms (t sz bytes : Nat) (z : List AV) (k k' : IntKind) (l c : Int) : 0 ≤ l → l ≤ c → c ≤ maxLen → c * bytes ≤ 140737488355328 → AlR id (.ms t sz bytes z) [.p (.int k l), .p (.int k' c)] (.row t sz (List.replicate l.toNat z)) (.osl id sz 0 l.toNat)
  | mm (kt : TypeId) : AlR id (.mm kt) [] (.map kt 0 (fun _ => none)) (.mp id)
def clsA (P : Program) (o : Op) : Option (AOp × List Operand) :=
  match o with
  | .alloc t => (zeroA P t).map fun z => (.nw t z, [])
  | .box t x => some (.bx t, [x])
  | .buildSlice t len parts => match P.underlying t with
    | some (.slice e) => match zeroA P e, P.info? e with
      | some z, some j => if j.size = 0 ∨ z.length ≠ j.size ∨ len * j.size > 2 ^ 24 ∨ len > maxLen then none else some (.bs e j.size len z (parts.toList.map fun x => (x.1 * j.size, j.size)), parts.toList.map (·.2))
      | _, _ => none
    | _ => none
  | .makeSlice t l c => match P.underlying t with
    | some (.slice e) => match zeroA P e, P.info? e with
      | some z, some j => if j.size = 0 ∨ z.length ≠ j.size then none else some (.ms e j.size j.bytes z, [l, c])
      | _, _ => none
    | _ => none
  | .makeMap t r => match P.underlying t, r with
    | some (.map kt _), none => some (.mm kt, [])
    | some (.map kt _), some (.const (.int _ _)) => some (.mm kt, [])
    | _, _ => none
  | _ => none

/-- what an operation does -/
def Eff (P : Program) (w : World) (S : Nat → Prop) (σ : Nat → Option Value) (H : AH) (ev : Operand → Value) (o : Oper) (id : Nat) (a : AV) (H' : AH) : Prop :=
  ∃ nx w' σ', (execOp ev o).run P w = .ok nx w' ∧ ((∃ v, nx = .value v ∧ Rp w' S σ' a v) ∨ (nx = .skip ∧ a = .any)) ∧ Sat P w' S σ' H' ∧ Ext w S σ H w' S σ' H' ∧ ∀ j, j ≠ id → σ' j = σ j

section
variable {P : Program} {w : World} {S : Nat → Prop} {σ : Nat → Option Value} {ev : Operand → Value} {H : AH}
theorem flat_at {z : List AV} (hz : 0 < z.length) : ∀ (n i : Nat), i < n * z.length → (List.replicate n z).flatten[i]? = z[i % z.length]?
  | 0, i, h => by simp at h
  | n + 1, i, h => by
    rw [List.replicate_succ, List.flatten_cons]
    by_cases hi : i < z.length
    · rw [List.getElem?_append_left hi, Nat.mod_eq_of_lt hi]
    · rw [List.getElem?_append_right (by omega), flat_at hz n (i - z.length) (by rw [Nat.add_mul, Nat.one_mul] at h; omega), Nat.mod_eq_sub_mod (a := i) (by omega)]
theorem flat_len {z : List AV} (n : Nat) : (List.replicate n z).flatten.length = n * z.length := by
  induction n with
  | zero => simp
  | succ n ih => rw [List.replicate_succ, List.flatten_cons, List.length_append, ih, Nat.add_mul]; omega
theorem zeros_rep {z : List AV} {zs : Array Value} (hr : Rps w S σ z zs.toList) (h1 : ∀ u ∈ zs, u.oneCell' = true) (hz : 0 < z.length) (n : Nat) :
    Rps w S σ (List.replicate n z).flatten ((Array.range (n * zs.size)).map (zs[· % zs.size]!)).toList ∧ ∀ u ∈ (Array.range (n * zs.size)).map (zs[· % zs.size]!), u.oneCell' = true := by
  have hl : z.length = zs.size := by rw [hr.1, Array.length_toList]
  have hat : ∀ i, i < n * zs.size → ∃ u, ((Array.range (n * zs.size)).map (zs[· % zs.size]!))[i]? = some u ∧ zs[i % zs.size]? = some u := by
    intro i hi
    have hm : i % zs.size < zs.size := Nat.mod_lt _ (by omega)
    refine ⟨zs[i % zs.size], ?_, Array.getElem?_eq_getElem hm⟩
    simp [hi, hm]
  refine ⟨⟨by rw [flat_len, hl]; simp, fun i a v ha hv => ?_⟩, fun u hu => ?_⟩
  · have hi : i < n * z.length := by rw [← flat_len]; exact (List.getElem?_eq_some_iff.1 ha).1
    rw [flat_at hz n i hi] at ha
    obtain ⟨u, q1, q2⟩ := hat i (by rw [← hl]; exact hi)
    rw [Array.getElem?_toList, q1] at hv
    injection hv with hv
    subst hv
    exact hr.2 _ a _ ha (by rw [hl, Array.getElem?_toList]; exact q2)
  · obtain ⟨i, hi⟩ := Array.getElem?_of_mem hu
    have hlt : i < n * zs.size := by have := (Array.getElem?_eq_some_iff.1 hi).1; simpa using this
    obtain ⟨x, q1, q2⟩ := hat i hlt
    rw [q1] at hi
    injection hi with hi
    subst hi
    exact h1 _ (Array.mem_of_getElem? q2)
theorem alloc_keep (w : World) (o : Obj) : ∀ b, b < w.heap.size → (w.alloc o).heap[b]? = w.heap[b]? := fun b hb => Below.heap_alloc w o b hb
/-- a new block -/
theorem new_eff (hs : Sat P w S σ H) {w1 : World} (hw1 : w1.heap = w.heap ∧ w1.os = w.os ∧ w1.tape = w.tape ∧ w1.output = w.output) {id : Nat} (hid : id < H.nx) (hσ : σ id = none) {o' : AO} {u : Value} {ob : Obj} {o : Oper} {a : AV}
    (hu : blkOf u = some w.heap.size) (hobj : ObjOk P (w1.alloc ob) S (sput σ id u) id o') (hsl : ∀ A n c, u = .slice A n c → n ≤ c ∧ (0 < c → ∃ g o, A = some ⟨g, o, none⟩) ∧ c ≤ maxLen)
    {v : Value} (hrun : (execOp ev o).run P w = .ok (.value v) (w1.alloc ob)) (ha : Rp (w1.alloc ob) S (sput σ id u) a v) : Eff P w S σ H ev o id a (H.put id o') := by
  obtain ⟨e1, e2, e3, e4⟩ := hw1
  have hnone : ∀ x, σ id = some x → x = u := fun x hx => by rw [hσ] at hx; cases hx
  have hkeep : ∀ b, b < w.heap.size → (w1.alloc ob).heap[b]? = w.heap[b]? := fun b hb => (alloc_keep w1 ob b (by rw [e1]; exact hb)).trans (by rw [e1])
  have hsz : w.heap.size ≤ (w1.alloc ob).heap.size := by simp [e1]
  refine ⟨_, _, sput σ id u, hrun, .inl ⟨v, rfl, ha⟩, hs.upd hid hnone hsz (fun b hb _ => hkeep b hb) (fun b hb => ?_) hobj (fun j o b h1 h2 h3 => hs.lt h1 h2 h3) hsl,
    Ext.upd hs hnone e2 e3 e4 hsz (fun b hb _ => hkeep b hb) (fun b hb => ?_), fun j hj => sput_ne hj⟩
  · rw [hu] at hb; injection hb with hb; subst hb
    exact ⟨fun h => Nat.lt_irrefl _ (hs.sb _ h), fun j o _ h1 h2 h3 => Nat.lt_irrefl _ (hs.lt h1 h2 h3)⟩
  · rw [hu] at hb; injection hb with hb; subst hb; exact .inr (Nat.le_refl _)
theorem Rps.new {cs : List AV} {vs : List Value} (h : Rps w S σ cs vs) (hs : Sat P w S σ H) (ob : Obj) {id : Nat} {u : Value} (hσ : σ id = none) : Rps (w.alloc ob) S (sput σ id u) cs vs :=
  h.mono (fun _ h => h) (fun b hb => alloc_keep w ob b (hs.sb b hb)) (sput_ext fun x hx => by rw [hσ] at hx; cases hx)
theorem box_eff (hs : Sat P w S σ H) {id : Nat} (hid : id < H.nx) (hσ : σ id = none) {t : TypeId} {cs : List AV} {arr : Array Value} {o : Oper} (hr : Rps w S σ cs arr.toList) (h1 : ∀ u ∈ arr, u.oneCell' = true)
    (hrun : (execOp ev o).run P w = .ok (.value (.pointer (some ⟨w.heap.size, 0, none⟩))) (w.alloc (.cells arr t))) : Eff P w S σ H ev o id (.ptr id 0) (H.put id (.box t cs)) :=
  new_eff hs ⟨rfl, rfl, rfl, rfl⟩ hid hσ (u := .pointer (some ⟨w.heap.size, 0, none⟩)) rfl ⟨_, arr, sput_self, Blk.new w t arr, hr.new hs _ hσ, h1⟩ (fun _ _ _ h => by cases h) hrun (.ptr id 0 _ sput_self)
/-- rows: elements, one behind the other -/
theorem flat_elem {sz : Nat} : ∀ {es : List (List AV)} (_ : ∀ e ∈ es, e.length = sz) (i : Nat) (e : List AV) (j : Nat) (a : AV), es[i]? = some e → e[j]? = some a → es.flatten[i * sz + j]? = some a
  | [], _, i, e, j, a, he, _ => by simp at he
  | x :: es, hl, i, e, j, a, he, ha => by
    have hx : x.length = sz := hl x (by simp)
    rw [List.flatten_cons]
    cases i with
    | zero =>
      simp at he; subst he
      rw [Nat.zero_mul, Nat.zero_add, List.getElem?_append_left (List.getElem?_eq_some_iff.1 ha).1]; exact ha
    | succ i =>
      rw [List.getElem?_append_right (by rw [hx, Nat.add_mul]; omega), hx, show (i + 1) * sz + j - sz = i * sz + j by rw [Nat.add_mul]; omega]
      exact flat_elem (fun e he => hl e (by simp [he])) i e j a (by simpa using he) ha
theorem flat_length {sz : Nat} : ∀ {es : List (List AV)} (_ : ∀ e ∈ es, e.length = sz), es.flatten.length = es.length * sz
  | [], _ => by simp
  | x :: es, hl => by
    rw [List.flatten_cons, List.length_append, flat_length fun e he => hl e (by simp [he]), hl x (by simp), List.length_cons, Nat.add_mul]; omega
/-- a new row: cells that begin with the elements -/
theorem row_eff1 (hs : Sat P w S σ H) {w1 : World} (hw1 : w1.heap = w.heap ∧ w1.os = w.os ∧ w1.tape = w.tape ∧ w1.output = w.output) {id : Nat} (hid : id < H.nx) (hσ : σ id = none) {t sz c : Nat} {es : List (List AV)} {arr : Array Value} {o : Oper} {rest : List AV} (hes : ∀ e ∈ es, e.length = sz)
    (hr : Rps w S σ (es.flatten ++ rest) arr.toList) (h1 : ∀ u ∈ arr, u.oneCell' = true)
    (hc : es.length ≤ c) (hcm : c ≤ maxLen) (hcs : c * sz ≤ arr.size)
    (hrun : (execOp ev o).run P w = .ok (.value (.slice (some ⟨w.heap.size, 0, none⟩) es.length c)) (w1.alloc (.cells arr t))) : Eff P w S σ H ev o id (.osl id sz 0 es.length) (H.put id (.row t sz es)) := by
  have hr' : Rps (w1.alloc (.cells arr t)) S (sput σ id (.slice (some ⟨w.heap.size, 0, none⟩) es.length c)) (es.flatten ++ rest) arr.toList :=
    hr.mono (fun _ h => h) (fun b hb => (alloc_keep w1 _ b (by rw [hw1.1]; exact hs.sb b hb)).trans (by rw [hw1.1])) (sput_ext fun x hx => by rw [hσ] at hx; cases hx)
  have hbn : Blk (w1.alloc (.cells arr t)) w.heap.size t arr := by rw [← hw1.1]; exact Blk.new w1 t arr
  refine new_eff hs hw1 hid hσ (u := .slice (some ⟨w.heap.size, 0, none⟩) es.length c) rfl ⟨_, c, sput_self, hes, hc, hcm, .inr ⟨w.heap.size, 0, arr, rfl, hbn, by omega, h1, fun i e j a he ha => ?_⟩⟩ ?_ hrun ?_
  · have hf := flat_elem hes i e j a he ha
    have hlt := (List.getElem?_eq_some_iff.1 hf).1
    obtain ⟨v, hv, hrv⟩ := hr'.at_ (i := i * sz + j) (a := a) (by rw [List.getElem?_append_left hlt]; exact hf)
    rw [Array.getElem?_toList] at hv
    exact ⟨v, by rw [Nat.zero_add]; exact hv, hrv⟩
  · intro A n c' h
    injection h with h1 h2 h3
    subst h1; subst h2; subst h3
    exact ⟨hc, fun _ => ⟨_, _, rfl⟩, hcm⟩
  · exact .osl _ _ _ _ _ _ es.length c c sput_self hc (by omega) (fun _ => by simp [addr_add])
theorem row_eff (hs : Sat P w S σ H) {id : Nat} (hid : id < H.nx) (hσ : σ id = none) {t sz c : Nat} {es : List (List AV)} {arr : Array Value} {o : Oper} {rest : List AV} (hes : ∀ e ∈ es, e.length = sz) (hr : Rps w S σ (es.flatten ++ rest) arr.toList) (h1 : ∀ u ∈ arr, u.oneCell' = true)
    (hc : es.length ≤ c) (hcm : c ≤ maxLen) (hcs : c * sz ≤ arr.size)
    (hrun : (execOp ev o).run P w = .ok (.value (.slice (some ⟨w.heap.size, 0, none⟩) es.length c)) (w.alloc (.cells arr t))) : Eff P w S σ H ev o id (.osl id sz 0 es.length) (H.put id (.row t sz es)) :=
  row_eff1 hs ⟨rfl, rfl, rfl, rfl⟩ hid hσ hes hr h1 hc hcm hcs hrun
theorem al_sound (hev : ∀ v, ev (.const v) = v) {o : Oper} {ao : AOp} {xs : List Operand} {args : List AV} {a : AV} {o' : AO} {id : Nat} (hs : Sat P w S σ H) (hid : id < H.nx) (hσ : σ id = none) (hc : clsA P o.op = some (ao, xs)) (hp : AlR id ao args o' a) (hr : Rps w S σ args (xs.map ev)) : Eff P w S σ H ev o id a (H.put id o') := by
  cases ho : o.op <;> rw [ho] at hc <;> simp only [clsA] at hc <;> try (cases hc; done)
  case alloc t =>
    cases hz : zeroA P t with
    | none => rw [hz] at hc; cases hc
    | some z =>
      rw [hz] at hc
      simp only [Option.map_some, Option.some.injEq, Prod.mk.injEq] at hc
      obtain ⟨rfl, rfl⟩ := hc
      cases hp
      obtain ⟨v, hv, _, q1, q2⟩ := zeroA_run (P := P) (w := w) (S := S) (σ := σ) hz
      exact box_eff hs hid hσ q1 q2 (by simp [execOp, ho, Instr.alloc, hv, newVar, newRow])
  case box t x =>
    simp only [Option.some.injEq, Prod.mk.injEq] at hc
    obtain ⟨rfl, rfl⟩ := hc
    cases hp with
    | bx _ a hpart =>
      obtain ⟨v, e, h⟩ := hr.one_inv
      injection e with e; subst e
      obtain ⟨q1, q2⟩ := h.cells hpart
      exact box_eff hs hid hσ q1 q2 (by simp [execOp, ho, Instr.box, newVar, newRow])
  case buildSlice t len parts =>
    cases hu : P.underlying t with
    | none => rw [hu] at hc; cases hc
    | some d =>
      rw [hu] at hc
      cases d <;> (try simp only at hc) <;> try (cases hc; done)
      rename_i e
      cases hz : zeroA P e with
      | none => rw [hz] at hc; cases hc
      | some z =>
        cases hi : P.info? e with
        | none => rw [hz, hi] at hc; cases hc
        | some j =>
          rw [hz, hi] at hc
          simp only at hc
          split at hc
          · cases hc
          · rename_i hcond
            simp only [not_or, ne_eq, Decidable.not_not] at hcond
            obtain ⟨c1, c2, c3, c4⟩ := hcond
            simp only [Option.some.injEq, Prod.mk.injEq] at hc
            obtain ⟨rfl, rfl⟩ := hc
            cases hp with
            | bs _ _ _ _ _ _ es hall hlen hes hf =>
              subst hlen
              obtain ⟨v, hv, _, q1, q2⟩ := zeroA_run (P := P) (w := w) (S := S) (σ := σ) hz
              have hzl : v.cells.size = j.size := by rw [← c2, q1.1, Array.length_toList]
              obtain ⟨z1, z2⟩ := zeros_rep q1 q2 (by omega) es.length
              rw [hzl] at z1 z2
              have hxs : ((parts.map fun x => (x.1, ev x.2)).toList).map (·.2) = (parts.toList.map (·.2)).map ev := by simp
              obtain ⟨us, g1, g2, g3⟩ := fill_sound (place := fun i => some (i * j.size, j.size)) (parts.map fun x => (x.1, ev x.2)).toList (parts.toList.map fun x => (x.1 * j.size, j.size)) args _ es.flatten _ hall (by rw [hxs]; exact hr) (by simp) hf z1 z2
              have husz : us.size = es.length * j.size := by rw [← Array.length_toList, ← g2.1, flat_length hes]
              refine row_eff hs hid hσ (c := es.length) (rest := []) hes (by simpa using g2) g3 (Nat.le_refl _) (by omega) (by omega) ?_
              by_cases h0 : es.length = 0
              · have hes0 : es = [] := List.eq_nil_of_length_eq_zero h0
                subst hes0
                simp only [List.length_nil, Nat.zero_mul, Array.range_zero', Array.map_empty] at g1 husz ⊢
                have g2' : Instr.fill (fun i => some (i * j.size, j.size)) #[] (List.map (fun x => (x.fst, ev x.snd)) parts.toList) = some us := by simpa using g1
                simp [execOp, ho, Instr.buildSlice, run_underlying hu, sizeOf, typeInfo, hi, Array.range_zero', g2', newRow]
              · have hne : ¬ es.length * j.size = 0 := Nat.mul_ne_zero h0 c1
                have hle : ¬ (2 ^ 24 < es.length * j.size) := by omega
                have hzz : j.zero = some v := by
                  cases hzz : j.zero with
                  | none => simp [zeroValue, typeInfo, hi, hzz] at hv
                  | some v' => simp [zeroValue, typeInfo, hi, hzz] at hv; rw [hv]
                have := run_buildSlice (P := P) w t e es.length (parts.map fun x => (x.1, ev x.2)) us j v hu hi hzz (by omega) hne (by rw [hzl]; exact g1)
                simp [execOp, ho, this]
  case makeSlice t l c =>
    cases hu : P.underlying t with
    | none => rw [hu] at hc; cases hc
    | some d =>
      rw [hu] at hc
      cases d <;> (try simp only at hc) <;> try (cases hc; done)
      rename_i e
      cases hz : zeroA P e with
      | none => rw [hz] at hc; cases hc
      | some z =>
        cases hi : P.info? e with
        | none => rw [hz, hi] at hc; cases hc
        | some j =>
          rw [hz, hi] at hc
          simp only at hc
          split at hc
          · cases hc
          · rename_i hcond
            simp only [not_or, ne_eq, Decidable.not_not] at hcond
            obtain ⟨c1, c2⟩ := hcond
            simp only [Option.some.injEq, Prod.mk.injEq] at hc
            obtain ⟨rfl, rfl⟩ := hc
            cases hp with
            | ms _ _ _ _ k k' li ci l0 l1 l2 l3 =>
              obtain ⟨v1, v2, e1, q3, q4⟩ := hr.two_inv
              simp only [List.map_cons, List.map_nil, List.cons.injEq, and_true] at e1
              obtain ⟨rfl, rfl⟩ := e1
              have hx := q3.p_inv.1
              have hy := q4.p_inv.1
              obtain ⟨v, hv, _, q1, q2⟩ := zeroA_run (P := P) (w := w) (S := S) (σ := σ) hz
              have hzl : v.cells.size = j.size := by rw [← c2, q1.1, Array.length_toList]
              obtain ⟨z1, z2⟩ := zeros_rep q1 q2 (by omega) ci.toNat
              have hml : maxLen = 9223372036854775807 := by decide
              have hsplit : (List.replicate ci.toNat z).flatten = (List.replicate li.toNat z).flatten ++ (List.replicate (ci.toNat - li.toNat) z).flatten := by
                rw [← List.flatten_append, List.replicate_append_replicate]; congr 2; omega
              have := row_eff (ev := ev) (o := o) (t := e) (sz := j.size) hs hid hσ (c := ci.toNat) (es := List.replicate li.toNat z) (rest := (List.replicate (ci.toNat - li.toNat) z).flatten) (arr := (Array.range (ci.toNat * v.cells.size)).map (v.cells[· % v.cells.size]!))
                (fun x hx => by rw [List.eq_of_mem_replicate hx]; exact c2) (by rw [← hsplit]; exact z1) z2 (by simp; omega) (by omega) (by simp [hzl]) ?_
              · simpa using this
              · have hzz : j.zero = some v := by
                  cases hzz : j.zero with
                  | none => simp [zeroValue, typeInfo, hi, hzz] at hv
                  | some v' => simp [zeroValue, typeInfo, hi, hzz] at hv; rw [hv]
                have := run_make (P := P) w t e j v hu hi hzz k k' li ci l0 l1 (by rw [Int.mul_comm]; omega) (by omega)
                simp only [madeCells] at this
                simp [execOp, ho, hx, hy, this, hzl]
  case makeMap t r =>
    have fin : ∀ kt, ao = .mm kt → xs = [] → (Instr.makeMap t (r.map ev)).run P w = .ok (.map (some w.heap.size)) (w.alloc (.map #[] 0)) → Eff P w S σ H ev o id a (H.put id o') := by
      intro kt h1 h2 hrun
      subst h1
      cases hp
      exact new_eff hs ⟨rfl, rfl, rfl, rfl⟩ hid hσ (u := .map (some w.heap.size)) rfl ⟨_, fun _ => none, sput_self, MapOf.made w P kt, fun k => .inl ⟨rfl, rfl⟩⟩ (fun _ _ _ h => by cases h) (by simp [execOp, ho, hrun]) (.mp _ _ sput_self)
    revert hc
    split
    · rename_i kt ve h1
      intro hc
      simp only [Option.some.injEq, Prod.mk.injEq] at hc
      exact fin kt hc.1.symm hc.2.symm rfl
    · rename_i kt ve k n h1
      intro hc
      simp only [Option.some.injEq, Prod.mk.injEq] at hc
      refine fin kt hc.1.symm hc.2.symm ?_
      simp [hev, Instr.makeMap, run_underlying h1, asInt, asIntOf]
    · intro hc; cases hc
end
end Go.Proofs.Ytcmnjoepadjioaa

/- Operations that write, on abstract memory: stores, appends, maps. Nothing of the program is named here. -/
namespace Go.Proofs.Ytcmnjoepadjioaa
open Go.RowKit Go.Maps

open Classical in
noncomputable def putA (f : Value → Option AV) (u : Value) (a : AV) : Value → Option AV := fun x => if x = u then some a else f x
theorem putA_same (f : Value → Option AV) (u : Value) (a : AV) : putA f u a u = some a := by simp [putA]
theorem putA_other (f : Value → Option AV) {u x : Value} (a : AV) (h : x ≠ u) : putA f u a x = f x := by simp [putA, h]
inductive WO where
  | st (n : Nat)
  | app (t sz bytes : Nat)
  | mset (kt : TypeId)
  | apz (t sz bytes : Nat) (z : List AV)
  | clr (sz : Nat) (z : List AV)
inductive WrR (P : Program) (id : Nat) : WO → List AV → AH → AV → AH → Prop
  | st_box (n i off : Nat) (t : TypeId) (cs : List AV) (a : AV) (H : AH) : H.get i = some (.box t cs) → a.part = true → a.cells.length = n → off + n ≤ cs.length → WrR P id (.st n) [.ptr i off, a] H .any (H.put i (.box t (cs.take off ++ a.cells ++ cs.drop (off + n))))
  | st_row (n i sz k j : Nat) (t : TypeId) (es : List (List AV)) (e : List AV) (a : AV) (H : AH) : H.get i = some (.row t sz es) → es[k]? = some e → a.part = true → a.cells.length = n → j + n ≤ sz →
      WrR P id (.st n) [.eptr i sz k j, a] H .any (H.put i (.row t sz (es.set k (e.take j ++ a.cells ++ e.drop (j + n)))))
  | app_row (t sz bytes r off n : Nat) (es ys : List (List AV)) (x : AV) (H : AH) : H.get r = some (.row t sz es) → off + n ≤ es.length → ElA H sz x ys → n + ys.length ≤ maxLen → (n + ys.length) * bytes ≤ 140737488355328 →
      WrR P id (.app t sz bytes) [.osl r sz off n, x] H (.osl id sz 0 (n + ys.length)) ((H.kill r).put id (.row t sz ((es.drop off).take n ++ ys)))
  | app_nil (t sz bytes : Nat) (ys : List (List AV)) (x : AV) (H : AH) : ElA H sz x ys → ys.length ≤ maxLen → ys.length * bytes ≤ 140737488355328 →
      WrR P id (.app t sz bytes) [.p (.slice none 0 0), x] H (.osl id sz 0 ys.length) (H.put id (.row t sz ys))
  | mset (kt : TypeId) (i n : Nat) (f : Value → Option AV) (key a : AV) (u : Value) (H : AH) : H.get i = some (.map kt n f) → Keyed P kt → key.val = some u → (keyOf P kt u).isSome = true → n < maxLen → WrR P id (.mset kt) [.mp i, key, a] H .any (H.put i (.map kt (n + 1) (putA f u a)))
  | apz (t sz bytes : Nat) (z : List AV) (k : IntKind) (n : Int) (H : AH) : 0 ≤ n → n ≤ maxLen → n * bytes ≤ 140737488355328 →
      WrR P id (.apz t sz bytes z) [.p (.slice none 0 0), .p (.int k n)] H (.osl id sz 0 n.toNat) (H.put id (.row t sz (List.replicate n.toNat z)))
  | clr (sz r off n : Nat) (z : List AV) (t : TypeId) (es : List (List AV)) (H : AH) : H.get r = some (.row t sz es) → off + n ≤ es.length → WrR P id (.clr sz z) [.osl r sz off n] H .any (H.put r (.row t sz (es.take off ++ List.replicate n z ++ es.drop (off + n))))
def clsW (P : Program) (o : Op) : Option (WO × List Operand) :=
  match o with
  | .store t x v => (P.info? t).map fun i => (.st i.size, [x, v])
  | .mapUpdate t m k v | .insert t m k v => match P.underlying t with
    | some (.map kt _) => some (.mset kt, [m, k, v])
    | _ => none
  | .call c => match c.callee, c.args.toList, c.argTypes.toList with
    | .builtin .append, [s, x], [t, t'] => match P.underlying t with
      | some (.slice e) => match zeroA P e, P.info? e with
        | some z, some j => if t ≠ t' ∨ j.size = 0 ∨ z.length ≠ j.size then (if j.size = 0 ∨ z.length ≠ j.size then none else match P.underlying t' with | some (.int _) => some (.apz e j.size j.bytes z, [s, x]) | _ => none) else some (.app e j.size j.bytes, [s, x])
        | _, _ => none
      | _ => none
    | .builtin .clear, [s], [t] => match P.underlying t with
      | some (.slice e) => match zeroA P e, P.info? e with
        | some z, some j => if j.size = 0 ∨ z.length ≠ j.size then none else some (.clr j.size z, [s])
        | _, _ => none
      | _ => none
    | _, _, _ => none
  | _ => none

section
variable {P : Program} {w : World} {S : Nat → Prop} {σ : Nat → Option Value} {ev : Operand → Value} {H : AH}
theorem splice_get {α : Type} (L vs : List α) (p q : Nat) (h : p + vs.length ≤ L.length) : (L.take p ++ vs ++ L.drop (p + vs.length))[q]? = if q < p then L[q]? else if q < p + vs.length then vs[q - p]? else L[q]? := by
  have hl : (L.take p).length = p := by rw [List.length_take]; omega
  by_cases h1 : q < p
  · rw [if_pos h1, List.append_assoc, List.getElem?_append_left (by omega), List.getElem?_take, if_pos h1]
  · rw [if_neg h1]
    by_cases h2 : q < p + vs.length
    · rw [if_pos h2, List.getElem?_append_left (by rw [List.length_append]; omega), List.getElem?_append_right (by omega), hl]
    · rw [if_neg h2, List.getElem?_append_right (by rw [List.length_append]; omega), List.length_append, hl, List.getElem?_drop]
      congr 1; omega
theorem splice_len {α : Type} (L vs : List α) (p : Nat) (h : p + vs.length ≤ L.length) : (L.take p ++ vs ++ L.drop (p + vs.length)).length = L.length := by
  simp; omega
theorem sput_id {i : Nat} {u : Value} (h : σ i = some u) : sput σ i u = σ := by
  funext k
  unfold sput
  split
  · rename_i e; rw [e, h]
  · rfl
/-- cells of a block of one's own are written -/
theorem set_eff1 (hs : Sat P w S σ H) {i : Nat} {o o' : AO} {u : Value} {g off : Nat} {t : TypeId} {arr : Array Value} {vs : List Value} {op : Oper} {nx : Next}
    (hg : H.get i = some o) (how : o.owned = true) (hσ : σ i = some u) (hu : blkOf u = some g) (hb : Blk w g t arr) {id : Nat} (hii : i < H.nx) (hnx : (∃ v, nx = .value v) ∨ nx = .skip)
    (hrun : (execOp ev op).run P w = .ok nx (w.setRow g (arr.toList.take off ++ vs ++ arr.toList.drop (off + vs.length)).toArray))
    (hobj : ∀ w', (∀ b, b ≠ g → w'.heap[b]? = w.heap[b]?) → Blk w' g t (arr.toList.take off ++ vs ++ arr.toList.drop (off + vs.length)).toArray → ObjOk P w' S σ i o') : Eff P w S σ H ev op id .any (H.put i o') := by
  have hkeep : ∀ b, b ≠ g → (w.setRow g (arr.toList.take off ++ vs ++ arr.toList.drop (off + vs.length)).toArray).heap[b]? = w.heap[b]? := fun b hb => setRow_other w g b _ hb
  have hnone : ∀ x, σ i = some x → x = u := fun x hx => by rw [hσ] at hx; injection hx with hx; exact hx.symm
  have hsp : sput σ i u = σ := sput_id hσ
  have hbk : (σ i).bind blkOf = some g := by rw [hσ]; exact hu
  have hsat := hs.upd (w' := w.setRow g (arr.toList.take off ++ vs ++ arr.toList.drop (off + vs.length)).toArray) (k := i) (o' := o') hii hnone (by simp) (fun b hb hne => hkeep b (fun e => hne (by rw [hu, e]))) (fun b hb => by
      rw [hu] at hb; injection hb with hb; subst hb
      exact ⟨hs.sep i o g hg how hbk, fun k o2 hk h2 h3 h4 => hk (hs.dj k i o2 o g h2 hg h3 how h4 hbk)⟩)
    (by rw [hsp]; exact hobj _ hkeep (setRow_heap w g arr _ t (0, 0) hb)) (fun j o b h1 h2 h3 => hs.lt h1 h2 h3) (fun A n c e => hs.sl i A n c (by rw [hσ, e]))
  have hext := Ext.upd (w' := w.setRow g (arr.toList.take off ++ vs ++ arr.toList.drop (off + vs.length)).toArray) (k := i) (o' := o') hs hnone rfl rfl rfl (by simp) (fun b hb hne => hkeep b (fun e => hne (by rw [hu, e]))) (fun b hb => by
      rw [hu] at hb; injection hb with hb; subst hb; exact .inl ⟨i, o, hg, how, hbk⟩)
  rw [hsp] at hsat hext
  exact ⟨nx, _, σ, hrun, hnx.elim (fun ⟨v, h⟩ => .inl ⟨v, h, .any _⟩) (fun h => .inr ⟨h, rfl⟩), hsat, hext, fun _ _ => rfl⟩
theorem set_eff (hs : Sat P w S σ H) {i : Nat} {o o' : AO} {u : Value} {g off : Nat} {t : TypeId} {arr : Array Value} {vs : List Value} {op : Oper} {T x : Operand} {ty : TypeId} {j : TypeInfo} {v : Value}
    (hop : op.op = .store ty T x) (hi : P.info? ty = some j) (hg : H.get i = some o) (how : o.owned = true) (hσ : σ i = some u) (hu : blkOf u = some g) (hb : Blk w g t arr)
    (hT : ev T = .pointer (some ⟨g, off, none⟩)) (hx : ev x = v) (hv : v.cells.toList = vs) (hvl : vs.length = j.size) (h1 : ∀ u ∈ vs, u.oneCell' = true) (hfit : off + vs.length ≤ arr.size) {id : Nat} (hii : i < H.nx)
    (hobj : ∀ w', (∀ b, b ≠ g → w'.heap[b]? = w.heap[b]?) → Blk w' g t (arr.toList.take off ++ vs ++ arr.toList.drop (off + vs.length)).toArray → ObjOk P w' S σ i o') : Eff P w S σ H ev op id .any (H.put i o') := by
  refine set_eff1 hs hg how hσ hu hb hii (.inr rfl) ?_ hobj
  have := run_storeCells_at (P := P) g off t vs 0 arr w hb (by omega) h1
  simp only [Nat.add_zero] at this
  have hsz : v.cells.size = j.size := by rw [← hvl, ← hv, Array.length_toList]
  simp [execOp, hop, Instr.storeAt, hT, hx, Instr.sureAddr, storeVar, sizeOf, typeInfo, hi, hsz, hv, this]
theorem wr_store {o : Oper} {t : TypeId} {x v : Operand} {j : TypeInfo} {a : AV} {args : List AV} {id : Nat} {H' : AH} (hs : Sat P w S σ H) (ho : o.op = .store t x v) (hi : P.info? t = some j) (hp : WrR P id (.st j.size) args H a H') (hr : Rps w S σ args [ev x, ev v]) :
    Eff P w S σ H ev o id a H' := by
  cases hp with
  | st_box _ i off t' cs a' _ hg hpart hlen hle =>
    obtain ⟨v1, v2, e1, q1, q2⟩ := hr.two_inv
    simp only [List.cons.injEq, and_true] at e1
    obtain ⟨rfl, rfl⟩ := e1
    obtain ⟨g, hx, hσ⟩ := q1.ptr_inv
    obtain ⟨c1, c2⟩ := q2.cells hpart
    obtain ⟨g', arr, m1, m2, m3, m4⟩ := hs.obj i _ hg
    rw [hσ] at m1
    simp only [Option.some.injEq, Value.pointer.injEq, Addr.mk.injEq, and_true] at m1
    subst m1
    have hcl : cs.length = arr.size := by rw [m3.1, Array.length_toList]
    have hvl : (ev v).cells.toList.length = j.size := by rw [← c1.1]; exact hlen
    refine set_eff hs ho hi hg rfl hσ rfl m2 hx rfl rfl hvl (fun u hu => c2 u (Array.mem_toList_iff.1 hu)) (by omega) (hs.dom _ _ hσ) (fun w' hk hb => ⟨g, _, hσ, hb, ?_, fun u hu => ?_⟩)
    · have hS : ∀ b, S b → w'.heap[b]? = w.heap[b]? := fun b hb' => hk b (fun e => hs.sep i _ b hg rfl (by rw [hσ, e]; rfl) hb')
      rw [List.toList_toArray, hvl]
      exact (((m3.take off).append c1).append (m3.drop _)).mono (fun _ h => h) hS (fun _ _ h => h)
    · rw [← Array.mem_toList_iff, List.toList_toArray] at hu
      rcases List.mem_append.1 hu with hu | hu
      · rcases List.mem_append.1 hu with hu | hu
        · exact m4 u (Array.mem_toList_iff.1 (List.mem_of_mem_take hu))
        · exact c2 u (Array.mem_toList_iff.1 hu)
      · exact m4 u (Array.mem_toList_iff.1 (List.mem_of_mem_drop hu))
  | st_row _ i sz k jj t' es e a' _ hg he hpart hlen hle =>
    obtain ⟨v1, v2, e1, q1, q2⟩ := hr.two_inv
    simp only [List.cons.injEq, and_true] at e1
    obtain ⟨rfl, rfl⟩ := e1
    obtain ⟨g, o1, n, c, hx, hσ⟩ := q1.eptr_inv
    obtain ⟨c1, c2⟩ := q2.cells hpart
    obtain ⟨A, c', m1, m2, m3, m4, m5⟩ := hs.obj i _ hg
    rw [hσ] at m1
    simp only [Option.some.injEq, Value.slice.injEq] at m1
    obtain ⟨rfl, rfl, rfl⟩ := m1
    rcases m5 with ⟨m5, _⟩ | ⟨g', o', arr, m5, k1, k2, k3, k4⟩
    · cases m5
    simp only [Option.some.injEq, Addr.mk.injEq, and_true] at m5
    obtain ⟨rfl, rfl⟩ := m5
    have hkl : k < es.length := (List.getElem?_eq_some_iff.1 he).1
    have hel : e.length = sz := m2 e (List.mem_of_getElem? he)
    have hvl : (ev v).cells.toList.length = j.size := by rw [← c1.1]; exact hlen
    have hks : (k + 1) * sz ≤ c * sz := Nat.mul_le_mul_right _ (by omega)
    rw [Nat.add_mul, Nat.one_mul] at hks
    have hfit : o1 + k * sz + jj + (ev v).cells.toList.length ≤ arr.size := by rw [hvl]; omega
    have hspl : ∀ q, (arr.toList.take (o1 + k * sz + jj) ++ (ev v).cells.toList ++ arr.toList.drop (o1 + k * sz + jj + (ev v).cells.toList.length))[q]? = _ := fun q => splice_get arr.toList (ev v).cells.toList (o1 + k * sz + jj) q (by rw [Array.length_toList]; exact hfit)
    refine set_eff hs ho hi hg rfl hσ rfl k1 hx rfl rfl hvl (fun u hu => c2 u (Array.mem_toList_iff.1 hu)) hfit (hs.dom _ _ hσ) (fun w' hk hb => ⟨_, c, by rw [hσ, List.length_set], fun x hx => ?_, by rw [List.length_set]; exact m3, m4, .inr ⟨g, o1, _, rfl, hb, ?_, fun u hu => ?_, fun i' e' j' b he' hb' => ?_⟩⟩)
    · rcases List.mem_or_eq_of_mem_set hx with hx | hx
      · exact m2 x hx
      · subst hx
        rw [← hlen, splice_len _ _ _ (by omega)]; exact hel
    · rw [List.size_toArray, splice_len _ _ _ (by rw [Array.length_toList]; exact hfit), Array.length_toList]; exact k2
    · rw [← Array.mem_toList_iff, List.toList_toArray] at hu
      rcases List.mem_append.1 hu with hu | hu
      · rcases List.mem_append.1 hu with hu | hu
        · exact k3 u (Array.mem_toList_iff.1 (List.mem_of_mem_take hu))
        · exact c2 u (Array.mem_toList_iff.1 hu)
      · exact k3 u (Array.mem_toList_iff.1 (List.mem_of_mem_drop hu))
    · have hS : ∀ b, S b → w'.heap[b]? = w.heap[b]? := fun b hb' => hk b (fun e => hs.sep i _ b hg rfl (by rw [hσ, e]; rfl) hb')
      have mono : ∀ {a : AV} {v : Value}, Rp w S σ a v → Rp w' S σ a v := fun h => h.mono (fun _ h => h) hS (fun _ _ h => h)
      rw [List.getElem?_toArray, hspl, hvl]
      by_cases hik : k = i'
      · subst hik
        rw [List.getElem?_set_self hkl] at he'
        injection he' with he'
        subst he'
        rw [← hlen, splice_get _ _ _ _ (by omega), hlen] at hb'
        by_cases d1 : j' < jj
        · rw [if_pos d1] at hb'
          obtain ⟨u, hu, hru⟩ := k4 k e j' b he hb'
          exact ⟨u, by rw [if_pos (by omega), Array.getElem?_toList]; exact hu, mono hru⟩
        · rw [if_neg d1] at hb'
          by_cases d2 : j' < jj + j.size
          · rw [if_pos d2] at hb'
            obtain ⟨u, hu, hru⟩ := c1.at_ hb'
            refine ⟨u, ?_, mono hru⟩
            rw [if_neg (by omega), if_pos (by omega), show o1 + k * sz + j' - (o1 + k * sz + jj) = j' - jj by omega]; exact hu
          · rw [if_neg d2] at hb'
            obtain ⟨u, hu, hru⟩ := k4 k e j' b he hb'
            exact ⟨u, by rw [if_neg (by omega), if_neg (by omega), Array.getElem?_toList]; exact hu, mono hru⟩
      · rw [List.getElem?_set_ne hik] at he'
        obtain ⟨u, hu, hru⟩ := k4 i' e' j' b he' hb'
        have hj' : j' < sz := by have := (List.getElem?_eq_some_iff.1 hb').1; rw [m2 e' (List.mem_of_getElem? he')] at this; exact this
        refine ⟨u, ?_, mono hru⟩
        rcases Nat.lt_or_gt_of_ne hik with hlt | hgt
        · have : (k + 1) * sz ≤ i' * sz := Nat.mul_le_mul_right _ (by omega)
          rw [Nat.add_mul, Nat.one_mul] at this
          rw [if_neg (by omega), if_neg (by omega), Array.getElem?_toList]; exact hu
        · have : (i' + 1) * sz ≤ k * sz := Nat.mul_le_mul_right _ (by omega)
          rw [Nat.add_mul, Nat.one_mul] at this
          rw [if_pos (by omega), Array.getElem?_toList]; exact hu
theorem wr_mset {o : Oper} {t kt ve : TypeId} {m k v : Operand} {a : AV} {args : List AV} {id : Nat} {H' : AH} (hs : Sat P w S σ H) (ho : o.op = .mapUpdate t m k v ∨ o.op = .insert t m k v) (hu : P.underlying t = some (.map kt ve)) (hp : WrR P id (.mset kt) args H a H')
    (hr : Rps w S σ args [ev m, ev k, ev v]) : Eff P w S σ H ev o id a H' := by
  cases hp with
  | mset _ i n f key a' u _ hg K hv hk hn =>
    obtain ⟨v1, v2, v3, e1, q1, q2, q3⟩ := hr.three_inv
    simp only [List.cons.injEq, and_true] at e1
    obtain ⟨rfl, rfl, rfl⟩ := e1
    obtain ⟨g, hx, hσ⟩ := q1.mp_inv
    have hku := AV.val_sound hv q2
    obtain ⟨g', f', m1, m2, m3⟩ := hs.obj i _ hg
    rw [hσ] at m1
    simp only [Option.some.injEq, Value.map.injEq] at m1
    subst m1
    obtain ⟨w', hrun0, hmap, hgr⟩ := m2.store K hu hn hk (ev v)
    have hrun : (execOp ev o).run P w = .ok .skip w' := by
      rcases ho with ho | ho <;> simp [execOp, ho, hx, hku, hrun0]
    have hnone : ∀ x, σ i = some x → x = .map (some g) := fun x hx => by rw [hσ] at hx; injection hx with hx; exact hx.symm
    have hsp : sput σ i (.map (some g)) = σ := sput_id hσ
    have hbk : (σ i).bind blkOf = some g := by rw [hσ]; rfl
    have hkeep : ∀ b, b < w.heap.size → blkOf (.map (some g)) ≠ some b → w'.heap[b]? = w.heap[b]? := fun b hb hne => hgr.block b hb (fun e => hne (by rw [e]; rfl))
    have hS : ∀ b, S b → w'.heap[b]? = w.heap[b]? := fun b hb => hkeep b (hs.sb b hb) (fun e => hs.sep i _ b hg rfl (by rw [hσ]; exact e) hb)
    have hsat := hs.upd (w' := w') (k := i) (o' := .map kt (n + 1) (putA f u a')) (hs.dom _ _ hσ) hnone hgr.size hkeep (fun b hb => by
        simp only [blkOf, Option.some.injEq] at hb; subst hb
        exact ⟨hs.sep i _ g hg rfl hbk, fun k o2 hk h2 h3 h4 => hk (hs.dj k i o2 _ g h2 hg h3 rfl h4 hbk)⟩)
      (by
        rw [hsp]
        refine ⟨g, _, hσ, hmap, fun x => ?_⟩
        by_cases hxu : x = u
        · subst hxu; exact .inr ⟨a', ev v, putA_same _ _ _, putO_same _ _ _, q3.mono (fun _ h => h) hS (fun _ _ h => h)⟩
        · rw [putA_other _ _ hxu, putO_other _ _ hxu]
          rcases m3 x with h | ⟨b, y, h1, h2, h3⟩
          · exact .inl h
          · exact .inr ⟨b, y, h1, h2, h3.mono (fun _ h => h) hS (fun _ _ h => h)⟩)
      (fun j o b h1 h2 h3 => hs.lt h1 h2 h3) (fun A n c e => by cases e)
    have hext := Ext.upd (w' := w') (k := i) (o' := .map kt (n + 1) (putA f u a')) hs hnone hgr.os hgr.tape hgr.output hgr.size hkeep (fun b hb => by
        simp only [blkOf, Option.some.injEq] at hb; subst hb; exact .inl ⟨i, _, hg, rfl, hbk⟩)
    rw [hsp] at hsat hext
    exact ⟨_, _, σ, hrun, .inr ⟨rfl, rfl⟩, hsat, hext, fun _ _ => rfl⟩
end
end Go.Proofs.Ytcmnjoepadjioaa
