/- Texts that the proof rests on, part 1: what each holds stands at its head. -/
import Derived.Test.YtaepnmnoofigjaaRows
import Derived.WalkKit
import Derived.WalkSpells
import Derived.WalkLawsBesides
import Derived.ProofKit
import Derived.Lib.Hide
import Derived.Below
import Derived.Carry
import Derived.Laws.OwnMore
import Derived.Laws.Rows
import Derived.Laws.MakeOwn
import Derived.Laws.Entries
import Derived.Laws.AppendOwn
import Derived.Deep.AppendLies
import Derived.Deep.Draws
import Derived.Deep.Slices
import Derived.Deep.Fields
import Derived.Deep.OwnRows
import Derived.Deep.QuietTactic
import Derived.Deep.RegionWith
import Derived.BigQuiet
import Derived.Maps.AppendAt
import Derived.RegionTactic
import Derived.OwnWalk
import Derived.ChangeSame
import Derived.Lib.SmallJoins
import Derived.OpenShut
import Derived.JoinedCond
import Derived.LaidEqlPtr
import Derived.Laws.BitsAllLaws
import Derived.Laws.BitsLemmas
import Derived.Deep.DeepFit
import Derived.Outline

/- Words for memory, general lemmas that every text of this seat uses: slices that read as lists, blocks known whole, appends onto rows of the call's own, the last step of a row. Nothing of the program is named here. -/
namespace Go.Proofs.Ytaepnmnoofigjaa
section words
open Go.RowKit
theorem block_of_add (a : Addr) (n : Nat) : (a.add n).block = a.block := by unfold Addr.add; split <;> rfl
theorem add_of_add (a : Addr) (i j : Nat) : (a.add i).add j = a.add (i + j) := by
  unfold Addr.add
  by_cases hi : i = 0 <;> by_cases hj : j = 0 <;> simp [hi, hj, Nat.add_assoc]

def Reads (w : World) (B size : Nat) (A : Option Addr) (n : Nat) (xs : List Value) : Prop :=
  xs.length = n * size ∧ (0 < n → ∃ ad, A = some ad ∧ ad.block < B ∧ ∀ j u, xs[j]? = some u → w.cell? (ad.add j) = some u)

section
variable {w w' : World} {B B' size n : Nat} {A : Option Addr} {xs : List Value}
theorem Reads.none_ : Reads w B size A 0 [] := ⟨by simp, fun h => absurd h (by omega)⟩
theorem Reads.at_ {k : Nat} (h : Reads w B 1 A n xs) (hk : k < n) : ∃ ad u, A = some ad ∧ ad.block < B ∧ xs[k]? = some u ∧ w.cell? (ad.add k) = some u := by
  obtain ⟨ad, e, hb, hc⟩ := h.2 (by omega)
  have hl : k < xs.length := by have := h.1; omega
  exact ⟨ad, xs[k], e, hb, List.getElem?_eq_getElem hl, hc k _ (List.getElem?_eq_getElem hl)⟩
theorem Reads.keep (h : Reads w B size A n xs) (hk : ∀ p : Addr, p.block < B → w'.cell? p = w.cell? p) : Reads w' B size A n xs :=
  ⟨h.1, fun hn => by
    obtain ⟨ad, e, hb, hc⟩ := h.2 hn
    exact ⟨ad, e, hb, fun j u hu => (hk _ (by rw [block_of_add]; exact hb)).trans (hc j u hu)⟩⟩
theorem Reads.more (h : Reads w B size A n xs) (hB : B ≤ B') : Reads w B' size A n xs :=
  ⟨h.1, fun hn => by
    obtain ⟨ad, e, hb, hc⟩ := h.2 hn
    exact ⟨ad, e, by omega, hc⟩⟩
theorem Reads.below (h : Reads w B size A n xs) (hb : Below B w w') : Reads w' B size A n xs := h.keep fun _ hp => hb.cell hp
theorem Reads.drew (h : Reads w B size A n xs) : Reads w.drew B size A n xs := h
theorem Reads.drewN (h : Reads w B size A n xs) (k : Nat) : Reads (w.drewN k) B size A n xs := h
theorem Reads.alloc (h : Reads w B size A n xs) (hB : B ≤ w.heap.size) (o : Obj) : Reads (w.alloc o) B size A n xs := h.keep fun p hp => World.cell?_alloc_lt w o p (by omega)
theorem Reads.setCell (h : Reads w B size A n xs) {p : Addr} (hB : B ≤ p.block) (u : Value) : Reads (w.setCell p u) B size A n xs :=
  h.keep fun q hq => World.cell?_setCell_other w p q u (fun e => by subst e; omega)
theorem Reads.grown (h : Reads w B size A n xs) {row : Option Nat} (hg : w.grownBy w' row) (hB : B ≤ w.heap.size) (hr : ∀ g, row = some g → B ≤ g) : Reads w' B size A n xs :=
  h.keep fun p hp => World.cell?_of_block (hg.block p.block (by omega) (fun e => by have := hr _ e.symm; omega))
theorem Reads.cut (h : Reads w B size A n xs) {k cap : Nat} (hk : k ≤ n) (hc : n ≤ cap) :
    Reads w B size (if cap = k then A else A.map (·.add (k * size))) (n - k) (xs.drop (k * size)) := by
  refine ⟨by rw [List.length_drop, h.1, Nat.sub_mul], fun hn => ?_⟩
  obtain ⟨ad, rfl, hb, hcell⟩ := h.2 (by omega)
  rw [if_neg (by omega)]
  refine ⟨ad.add (k * size), rfl, by rw [block_of_add]; exact hb, fun j u hu => ?_⟩
  rw [add_of_add]
  exact hcell _ u (by rw [← hu, List.getElem?_drop])
theorem Reads.of_own {base : Nat} {e : TypeId} {c : Nat} (h : w.ownsRow base e size (.slice A n c) n xs) : Reads w w.heap.size size A n xs := by
  refine ⟨h.1, fun hn => ?_⟩
  obtain ⟨g, cap, hv, _, hlt⟩ := h.form hn
  have hA : A = some ⟨g, 0, none⟩ := by injection hv
  subst hA
  exact ⟨_, rfl, hlt, h.cells (g := g) rfl⟩
end
def Blk (w : World) (g : Nat) (t : TypeId) (cs : Array Value) : Prop := w.heap[g]? = some (.cells cs t (0, 0))

section
variable {w w' : World} {g : Nat} {t : TypeId} {cs : Array Value}
theorem Blk.lt (h : Blk w g t cs) : g < w.heap.size := by
  rcases Nat.lt_or_ge g w.heap.size with hlt | hge
  · exact hlt
  · unfold Blk at h; rw [Array.getElem?_eq_none hge] at h; cases h
theorem Blk.cell (h : Blk w g t cs) (i : Nat) : w.cell? ⟨g, i, none⟩ = cs[i]? := cell_of_row w g i cs t (0, 0) h
theorem Blk.frozen (h : Blk w g t cs) (i : Nat) : w.frozen? ⟨g, i, none⟩ = false := by
  unfold Blk at h
  simp [World.frozen?, h]
theorem Blk.new (w : World) (t : TypeId) (cs : Array Value) : Blk (w.alloc (.cells cs t)) w.heap.size t cs := heap_alloc_new w _
theorem Blk.drew (h : Blk w g t cs) : Blk w.drew g t cs := h
theorem Blk.drewN (h : Blk w g t cs) (n : Nat) : Blk (w.drewN n) g t cs := h
theorem Blk.alloc (h : Blk w g t cs) (o : Obj) : Blk (w.alloc o) g t cs := (Below.heap_alloc w o g h.lt).trans h
theorem Blk.set_ (h : Blk w g t cs) (i : Nat) (u : Value) : Blk (w.setCell ⟨g, i, none⟩ u) g t (cs.setIfInBounds i u) := by
  unfold Blk at h ⊢
  simp [World.setCell, Array.getElem?_modify, h]
theorem Blk.far (h : Blk w g t cs) {p : Addr} (hp : g ≠ p.block) (u : Value) : Blk (w.setCell p u) g t cs := (Below.heap_setCell w p u g hp).trans h
theorem Blk.below {B : Nat} (h : Blk w g t cs) (hb : Below B w w') (hg : g < B) : Blk w' g t cs := (hb.block g hg).trans h
theorem Blk.grown {row : Option Nat} (h : Blk w g t cs) (hb : w.grownBy w' row) (hg : some g ≠ row) : Blk w' g t cs := (hb.block g h.lt hg).trans h
theorem Blk.ne_ {g' : Nat} {t' : TypeId} {cs' : Array Value} (h : Blk w g t cs) (h' : Blk w g' t' cs') (hne : t ≠ t') : g ≠ g' := by
  rintro rfl
  unfold Blk at h h'
  rw [h] at h'
  injection h' with h'
  injection h' with _ ht
  exact hne ht
theorem own_blk_ne {base : Nat} {e : TypeId} {size n : Nat} {v : Value} {xs : List Value} (h : w.ownsRow base e size v n xs) (hg : Blk w g t cs) (hne : e ≠ t) : v.ownBlock ≠ some g := by
  rcases h.2 with ⟨rfl, _⟩ | ⟨g', cap, cur, rfl, _, hh, _⟩
  · simp [Value.ownBlock]
  · intro he
    have : g' = g := by simpa [Value.ownBlock] using he
    subst this
    exact Blk.ne_ (t := e) hh hg hne rfl
end
section
variable {P : Program} (w : World)

theorem run_append_of_nil (base : Nat) (t ty e : TypeId) (i : TypeInfo) (size : Nat) (ht : P.underlying t = some (.slice e)) (hi : P.info? e = some i)
    (v : Value) (n : Nat) (xs : List Value) (hown : w.ownsRow base e size v n xs) (c : Nat) : (Builtin.append_ #[t, t] ty #[v, .slice none 0 c]).run P w = .ok v w := by
  rcases hown.2 with ⟨rfl, rfl⟩ | ⟨g, cap, cur, rfl, _, _, hnc, _⟩
  · simp [Builtin.append_, run_underlying ht, sizeOf, typeInfo, hi, Builtin.lenOf, Builtin.firstCells]
  · simp [Builtin.append_, run_underlying ht, sizeOf, typeInfo, hi, Builtin.lenOf, Builtin.firstCells, hnc, storeCells]

theorem run_append_any (base : Nat) (t ty e : TypeId) (i : TypeInfo) (z : Value) (size bytes : Nat) (ht : P.underlying t = some (.slice e)) (hi : P.info? e = some i) (hz : i.zero = some z)
    (hsize : i.size = size) (hby : i.bytes = bytes) (hzs : z.cells.size = size) (hsz : 0 < size)
    (v : Value) (n : Nat) (xs : List Value) (hown : w.ownsRow base e size v n xs)
    (B : Nat) (A : Option Addr) (m c : Nat) (news : List Value) (hr : Reads w B size A m news) (h1 : ∀ u ∈ news, u.oneCell' = true)
    (h63 : n + m ≤ maxLen) (hbytes : (n + m) * bytes ≤ 140737488355328) (hbase : base ≤ w.heap.size) :
    ∃ v' w', (Builtin.append_ #[t, t] ty #[v, .slice A m c]).run P w = .ok v' w' ∧ w'.ownsRow base e size v' (n + m) (xs ++ news) ∧ w.grownBy w' v.ownBlock ∧
      (v'.ownBlock = v.ownBlock ∨ v'.ownBlock = some w.heap.size) := by
  rcases A with _ | ad
  · have hm : m = 0 := by
      rcases Nat.eq_zero_or_pos m with h0 | h0
      · exact h0
      · obtain ⟨ad, h, _⟩ := hr.2 h0
        cases h
    subst hm
    have hn : news = [] := List.eq_nil_of_length_eq_zero (by simpa using hr.1)
    subst hn
    exact ⟨v, w, run_append_of_nil w base t ty e i size ht hi v n xs hown c, by simpa using hown, World.grownBy.refl w _, .inl rfl⟩
  · have hcells : ∀ j u, news[j]? = some u → w.cell? (ad.add j) = some u := by
      intro j u hu
      rcases Nat.eq_zero_or_pos m with h0 | h0
      · subst h0
        have hn : news = [] := List.eq_nil_of_length_eq_zero (by simpa using hr.1)
        subst hn
        simp at hu
      · obtain ⟨ad', h, _, hc⟩ := hr.2 h0
        injection h with h
        subst h
        exact hc j u hu
    obtain ⟨v', w', hrun, h2, h3, _, h5⟩ := run_append_own_at (P := P) w base t ty e i z size bytes ht hi hz hsize hby hzs hsz v n xs hown ad m c news hr.1 hcells h1 h63 hbytes hbase
    exact ⟨v', w', hrun, h2, h3, h5⟩

theorem wp_append_any {o : Oper} {a : Act} {K : Act → World → Prop} {Q : Exit → Act → World → Prop} (s x : Operand) (t : TypeId)
    (ho : o.op = .call { callee := .builtin .append, args := #[s, x], argTypes := #[t, t] })
    (base : Nat) (e : TypeId) (i : TypeInfo) (z : Value) (size bytes : Nat) (ht : P.underlying t = some (.slice e)) (hi : P.info? e = some i) (hz : i.zero = some z)
    (hsize : i.size = size) (hby : i.bytes = bytes) (hzs : z.cells.size = size) (hsz : 0 < size)
    (v : Value) (n : Nat) (xs : List Value) (hs : a.eval s = v) (hown : w.ownsRow base e size v n xs)
    (B : Nat) (A : Option Addr) (m c : Nat) (news : List Value) (hx : a.eval x = .slice A m c) (hr : Reads w B size A m news) (h1 : ∀ u ∈ news, u.oneCell' = true)
    (h63 : n + m ≤ maxLen) (hbytes : (n + m) * bytes ≤ 140737488355328) (hbase : base ≤ w.heap.size)
    (h : ∀ v' w', w'.ownsRow base e size v' (n + m) (xs ++ news) → w.grownBy w' v.ownBlock → (v'.ownBlock = v.ownBlock ∨ v'.ownBlock = some w.heap.size) → K (a.put o.dst v') w') : o.wp P a w K Q := by
  obtain ⟨v', w', hrun, h2, h3, h4⟩ := run_append_any (P := P) w base t o.type e i z size bytes ht hi hz hsize hby hzs hsz v n xs hown B A m c news hr h1 h63 hbytes hbase
  unfold Oper.wp execOp
  simp only [ho, resolve, invoke, builtin, Sem.run_bind, Sem.run_pure, Result.andThen_ok, List.map_toArray, List.map_cons, List.map_nil, hs, hx, hrun]
  exact h v' w' h2 h3 h4

theorem wpList_append_any {ops : Array Oper} {rest : List Oper} {o : Oper} {a : Act} {Q : Exit → Act → World → Prop} (hgd : o.guard = none) (s x : Operand) (t : TypeId)
    (ho : o.op = .call { callee := .builtin .append, args := #[s, x], argTypes := #[t, t] })
    (base : Nat) (e : TypeId) (i : TypeInfo) (z : Value) (size bytes : Nat) (ht : P.underlying t = some (.slice e)) (hi : P.info? e = some i) (hz : i.zero = some z)
    (hsize : i.size = size) (hby : i.bytes = bytes) (hzs : z.cells.size = size) (hsz : 0 < size)
    (v : Value) (n : Nat) (xs : List Value) (hs : a.eval s = v) (hown : w.ownsRow base e size v n xs)
    (B : Nat) (A : Option Addr) (m c : Nat) (news : List Value) (hx : a.eval x = .slice A m c) (hr : Reads w B size A m news) (h1 : ∀ u ∈ news, u.oneCell' = true)
    (h63 : n + m ≤ maxLen) (hbytes : (n + m) * bytes ≤ 140737488355328) (hbase : base ≤ w.heap.size)
    (h : ∀ v' w', w'.ownsRow base e size v' (n + m) (xs ++ news) → w.grownBy w' v.ownBlock → (v'.ownBlock = v.ownBlock ∨ v'.ownBlock = some w.heap.size) → wpList P ops Q rest (a.put o.dst v') w') : wpList P ops Q (o :: rest) a w :=
  wpList_plain hgd fun _ hK => wp_append_any w s x t ho base e i z size bytes ht hi hz hsize hby hzs hsz v n xs hs hown B A m c news hx hr h1 h63 hbytes hbase fun v' w' h2 h3 h4 => hK _ _ (h v' w' h2 h3 h4)

theorem step_append_any {ops : Array Oper} {o : Oper} {a : Act} {K : Act → World → Prop} {Q : Exit → Act → World → Prop} {E : Prop} (hgd : o.guard = none) (s x : Operand) (t : TypeId)
    (ho : o.op = .call { callee := .builtin .append, args := #[s, x], argTypes := #[t, t] })
    (base : Nat) (e : TypeId) (i : TypeInfo) (z : Value) (size bytes : Nat) (ht : P.underlying t = some (.slice e)) (hi : P.info? e = some i) (hz : i.zero = some z)
    (hsize : i.size = size) (hby : i.bytes = bytes) (hzs : z.cells.size = size) (hsz : 0 < size)
    (v : Value) (n : Nat) (xs : List Value) (hs : a.eval s = v) (hown : w.ownsRow base e size v n xs)
    (B : Nat) (A : Option Addr) (m c : Nat) (news : List Value) (hx : a.eval x = .slice A m c) (hr : Reads w B size A m news) (h1 : ∀ u ∈ news, u.oneCell' = true)
    (h63 : n + m ≤ maxLen) (hbytes : (n + m) * bytes ≤ 140737488355328) (hbase : base ≤ w.heap.size)
    (h : ∀ v' w', w'.ownsRow base e size v' (n + m) (xs ++ news) → w.grownBy w' v.ownBlock → (v'.ownBlock = v.ownBlock ∨ v'.ownBlock = some w.heap.size) → K (a.put o.dst v') w') :
    if Region.wanted o (yielded ops a.tmps) = true then Oper.wp P o a w K Q else E := by
  have hw : Region.wanted o (yielded ops a.tmps) = true := by simp [Region.wanted, hgd]
  rw [if_pos hw]
  exact wp_append_any w s x t ho base e i z size bytes ht hi hz hsize hby hzs hsz v n xs hs hown B A m c news hx hr h1 h63 hbytes hbase h
end
end words
section structs
open Go.ChangeShapes Go.WideShapes Go.Deep
section
variable {H : Type} {enc : TypeId × Value → H} {P : Program} {w : World} {base : Nat} {spare : Nat → Bool} {held : Bool}
theorem open_slice_fields {t e : TypeId} {fs : Array Field} {fuel : Nat} {cs : List Value} {x : DataW H × List MemPlace} (ht : P.underlying t = some (.slice e)) (he : P.underlying e = some (.struct fs))
    (hone : oneCellFields P fs = true) (hC : P.cellsOf e = fs.size) (h : DataW.trod enc P w base spare held fuel t cs = some x) :
    (cs = [.slice none 0 0] ∧ x = (.nil, [])) ∨
    ∃ (a : Addr) (len cap m : Nat) (D : Nat → DataW H) (Pl : Nat → List MemPlace), cs = [.slice (some a) len cap] ∧ base ≤ a.block ∧ len ≤ cap ∧ cap ≤ maxLen ∧ m = (if spare a.block then cap else len) ∧
      x = (.slice ((List.range len).map D) ((List.range (m - len)).map fun j => D (len + j)), MemPlace.row a (m * fs.size) ++ (List.range m).flatMap Pl) ∧
      ∀ i, i < m → ∃ (ys : List (DataW H × List MemPlace)) (n : Nat), D i = .agg (ys.map (·.1)) ∧ Pl i = ys.flatMap (·.2) ∧ ys.length = fs.size ∧
        ∀ (j : Nat) (f : Field), fs[j]? = some f → ∃ (v : Value) (y : DataW H × List MemPlace), w.cell? (a.add (i * fs.size + j)) = some v ∧ ys[j]? = some y ∧ DataW.trod enc P w base spare held n f.type [v] = some y := by
  rcases open_slice ht h with h0 | ⟨a, len, cap, m, n, D, Pl, hcs, hb, hl, hm, hmm, hx, hi⟩
  · exact .inl h0
  · refine .inr ⟨a, len, cap, m, D, Pl, hcs, hb, hl, hm, hmm, by rw [hC] at hx; exact hx, fun i him => ?_⟩
    obtain ⟨cs', hc, ht'⟩ := hi i him
    rw [hC] at hc
    obtain ⟨ys, n', hn', hy, hlen, hyl, hf⟩ := DataW.trod_struct he ht'
    obtain ⟨_, hcl, hat⟩ := World.cells?_some hc
    simp only [Prod.mk.injEq] at hy
    refine ⟨ys, n', hy.1, hy.2, hyl, fun j f hj => ?_⟩
    obtain ⟨ho, hk⟩ := hone_of hone j f hj
    have hjl : j < fs.size := (Array.getElem?_eq_some_iff.1 hj).1
    have hcell := hat j hjl
    have hv : cs'[j]? = some (cs'[j]'(by omega)) := List.getElem?_eq_getElem (by omega)
    have h1 := hf j f hj
    rw [ho, hk] at h1
    have hone' : (cs'.drop j).take 1 = [cs'[j]'(by omega)] := by
      rw [List.drop_eq_getElem_cons (by omega)]
      rfl
    rw [hone'] at h1
    have hys : ys[j]? = some (ys[j]'(by omega)) := List.getElem?_eq_getElem (by omega)
    refine ⟨_, _, ?_, hys, h1.trans hys⟩
    rw [← Go.Deep.add_add, hcell, hv]
end
end structs
section aggs
open Go.Joins Go.ChangeShapes Go.WideShapes Go.RowKit Go.Deep
section
variable {H : Type} {enc : TypeId × Value → H} {P : Program} {w : World} {base : Nat} {spare : Nat → Bool} {held : Bool}
theorem open_agg5 {r : Reach} {b0 : Nat} {t : TypeId} {f0 f1 f2 f3 f4 : Field} {v : Value} {d : DataW H} {p : List MemPlace} (hs : P.underlying t = some (.struct #[f0, f1, f2, f3, f4])) (hone : oneCellFields P #[f0, f1, f2, f3, f4] = true) (hC : P.cellsOf t = 5)
    (hv : Value.okWide P w r b0 t v) (h : DataW.Trod enc P w base spare held t v d p) :
    ∃ (v0 v1 v2 v3 v4 : Value) (y0 y1 y2 y3 y4 : DataW H × List MemPlace) (n : Nat), v = .agg #[v0, v1, v2, v3, v4] ∧ d = .agg [y0.1, y1.1, y2.1, y3.1, y4.1] ∧ p = y0.2 ++ (y1.2 ++ (y2.2 ++ (y3.2 ++ y4.2))) ∧
      DataW.trod enc P w base spare held n f0.type [v0] = some y0 ∧ DataW.trod enc P w base spare held n f1.type [v1] = some y1 ∧ DataW.trod enc P w base spare held n f2.type [v2] = some y2 ∧ DataW.trod enc P w base spare held n f3.type [v3] = some y3 ∧ DataW.trod enc P w base spare held n f4.type [v4] = some y4 := by
  obtain ⟨cs, rfl, hsz⟩ := okWide_struct hs hv
  obtain ⟨l⟩ := cs
  match l, hsz.trans hC with
  | [c0, c1, c2, c3, c4], _ =>
    obtain ⟨fuel, hf⟩ := h
    obtain ⟨xs, n, _, hx, _, hlen, hg⟩ := DataW.trod_struct hs hf
    obtain ⟨o0, k0⟩ := hone_of hone 0 f0 rfl
    obtain ⟨o1, k1⟩ := hone_of hone 1 f1 rfl
    obtain ⟨o2, k2⟩ := hone_of hone 2 f2 rfl
    obtain ⟨o3, k3⟩ := hone_of hone 3 f3 rfl
    obtain ⟨o4, k4⟩ := hone_of hone 4 f4 rfl
    match xs, hlen with
    | [y0, y1, y2, y3, y4], _ =>
      simp only [Prod.mk.injEq] at hx
      exact ⟨c0, c1, c2, c3, c4, y0, y1, y2, y3, y4, n, rfl, by simpa using hx.1, by simpa using hx.2, by simpa [Value.cells, o0, k0] using hg 0 f0 rfl, by simpa [Value.cells, o1, k1] using hg 1 f1 rfl, by simpa [Value.cells, o2, k2] using hg 2 f2 rfl, by simpa [Value.cells, o3, k3] using hg 3 f3 rfl, by simpa [Value.cells, o4, k4] using hg 4 f4 rfl⟩

theorem open_agg6 {r : Reach} {b0 : Nat} {t : TypeId} {f0 f1 f2 f3 f4 f5 : Field} {v : Value} {d : DataW H} {p : List MemPlace} (hs : P.underlying t = some (.struct #[f0, f1, f2, f3, f4, f5])) (hone : oneCellFields P #[f0, f1, f2, f3, f4, f5] = true) (hC : P.cellsOf t = 6)
    (hv : Value.okWide P w r b0 t v) (h : DataW.Trod enc P w base spare held t v d p) :
    ∃ (v0 v1 v2 v3 v4 v5 : Value) (y0 y1 y2 y3 y4 y5 : DataW H × List MemPlace) (n : Nat), v = .agg #[v0, v1, v2, v3, v4, v5] ∧ d = .agg [y0.1, y1.1, y2.1, y3.1, y4.1, y5.1] ∧ p = y0.2 ++ (y1.2 ++ (y2.2 ++ (y3.2 ++ (y4.2 ++ y5.2)))) ∧
      DataW.trod enc P w base spare held n f0.type [v0] = some y0 ∧ DataW.trod enc P w base spare held n f1.type [v1] = some y1 ∧ DataW.trod enc P w base spare held n f2.type [v2] = some y2 ∧ DataW.trod enc P w base spare held n f3.type [v3] = some y3 ∧ DataW.trod enc P w base spare held n f4.type [v4] = some y4 ∧ DataW.trod enc P w base spare held n f5.type [v5] = some y5 := by
  obtain ⟨cs, rfl, hsz⟩ := okWide_struct hs hv
  obtain ⟨l⟩ := cs
  match l, hsz.trans hC with
  | [c0, c1, c2, c3, c4, c5], _ =>
    obtain ⟨fuel, hf⟩ := h
    obtain ⟨xs, n, _, hx, _, hlen, hg⟩ := DataW.trod_struct hs hf
    obtain ⟨o0, k0⟩ := hone_of hone 0 f0 rfl
    obtain ⟨o1, k1⟩ := hone_of hone 1 f1 rfl
    obtain ⟨o2, k2⟩ := hone_of hone 2 f2 rfl
    obtain ⟨o3, k3⟩ := hone_of hone 3 f3 rfl
    obtain ⟨o4, k4⟩ := hone_of hone 4 f4 rfl
    obtain ⟨o5, k5⟩ := hone_of hone 5 f5 rfl
    match xs, hlen with
    | [y0, y1, y2, y3, y4, y5], _ =>
      simp only [Prod.mk.injEq] at hx
      exact ⟨c0, c1, c2, c3, c4, c5, y0, y1, y2, y3, y4, y5, n, rfl, by simpa using hx.1, by simpa using hx.2, by simpa [Value.cells, o0, k0] using hg 0 f0 rfl, by simpa [Value.cells, o1, k1] using hg 1 f1 rfl, by simpa [Value.cells, o2, k2] using hg 2 f2 rfl, by simpa [Value.cells, o3, k3] using hg 3 f3 rfl, by simpa [Value.cells, o4, k4] using hg 4 f4 rfl, by simpa [Value.cells, o5, k5] using hg 5 f5 rfl⟩
end
end aggs
section small
open Go.RowKit
theorem hide {p : Prop} (h : p) : Hid p := h
theorem unhide {p : Prop} (h : Hid p) : p := h
theorem quiet_add {P : Program} {f : FuncId} {args : Array Value} {w : World} {a n : Nat} {v : Value}
    (h : Calls P f args (w.drewN (a + n)) fun e w' => e = .returned v ∧ ∃ m, w' = (w.drewN (a + n)).drewN m) :
    Calls P f args (w.drewN (a + n)) fun e w'' => e = .returned v ∧ ∃ m, w'' = w.drewN (a + m) :=
  h.mono fun _ _ ⟨he, m, hm⟩ => ⟨he, n + m, by rw [hm, World.drewN_drewN, Nat.add_assoc]⟩
theorem quiet_add_same {P : Program} {f : FuncId} {args : Array Value} {w : World} {a n : Nat} {v : Value}
    (h : Calls P f args (w.drewN (a + n)) fun e w' => e = .returned v ∧ w' = w.drewN (a + n)) :
    Calls P f args (w.drewN (a + n)) fun e w'' => e = .returned v ∧ ∃ m, w'' = w.drewN (a + m) :=
  h.mono fun _ _ ⟨he, hm⟩ => ⟨he, n, hm⟩
theorem quiet_add_left {P : Program} {f : FuncId} {args : Array Value} {w : World} {a n : Nat} {v : Value}
    (h : Calls P f args (w.drewN (a + n)) fun e w' => e = .returned v ∧ w.drewN (a + n) = w') :
    Calls P f args (w.drewN (a + n)) fun e w'' => e = .returned v ∧ ∃ m, w'' = w.drewN (a + m) :=
  h.mono fun _ _ ⟨he, hm⟩ => ⟨he, n, hm.symm⟩
theorem quiet_left {P : Program} {f : FuncId} {args : Array Value} {w : World} {n : Nat} {v : Value}
    (h : Calls P f args (w.drewN n) fun e w' => e = .returned v ∧ w.drewN n = w') : Calls P f args (w.drewN n) fun e w'' => e = .returned v ∧ ∃ m, w'' = w.drewN m :=
  h.mono fun _ _ ⟨he, hm⟩ => ⟨he, n, hm.symm⟩
theorem results_tmp4 {fn : Func} {t u v x : Tmp} (h : fn.results = #[.tmp t, .tmp u, .tmp v, .tmp x]) (tmps : Array Value) (P : Program) (w : World) :
    (results fn tmps).run P w = .ok (.tuple #[tmps.getD t undef, tmps.getD u undef, tmps.getD v undef, tmps.getD x undef]) w := by simp [results, h]
theorem results_tmp5 {fn : Func} {t u v x y : Tmp} (h : fn.results = #[.tmp t, .tmp u, .tmp v, .tmp x, .tmp y]) (tmps : Array Value) (P : Program) (w : World) :
    (results fn tmps).run P w = .ok (.tuple #[tmps.getD t undef, tmps.getD u undef, tmps.getD v undef, tmps.getD x undef, tmps.getD y undef]) w := by simp [results, h]
theorem below_drewN {B : Nat} {a w : World} (h : Below B a w) (n : Nat) : Below B a (w.drewN n) := ⟨h.os, h.tape, h.output, h.size, h.block⟩
theorem rowIs_drewN {w : World} {b : Nat} {t : TypeId} {n : Nat} {f : Nat → Value} (h : w.rowIs b t n f) (k : Nat) : (w.drewN k).rowIs b t n f := h
theorem grown_trans {a b c : World} (h : Grown a b) (k : Grown b c) : Grown a c :=
  ⟨World.keptBut_trans h.1 k.1, fun x => (k.2.1 x).trans (h.2.1 x), Nat.le_trans h.2.2 k.2.2⟩

theorem only_drewN {a w : World} {row : Option Nat} (h : a.grownBy w row) (n : Nat) : a.grownBy (w.drewN n) row := ⟨h.os, h.tape, h.output, h.size, h.block⟩
theorem only_drew {a w : World} {row : Option Nat} (h : a.grownBy w row) : a.grownBy w.drew row := ⟨h.os, h.tape, h.output, h.size, h.block⟩
theorem only_alloc {a w : World} {row : Option Nat} (h : a.grownBy w row) (o : Obj) : a.grownBy (w.alloc o) row :=
  ⟨h.os, h.tape, h.output, Nat.le_trans h.size (by simp), fun i hi hne => (Below.heap_alloc w o i (Nat.lt_of_lt_of_le hi h.size)).trans (h.block i hi hne)⟩
theorem only_setCell {a w : World} {g : Nat} (h : a.grownBy w (some g)) {p : Addr} (hp : p.block = g ∨ a.heap.size ≤ p.block) (u : Value) : a.grownBy (w.setCell p u) (some g) :=
  ⟨h.os, h.tape, h.output, by simpa [World.setCell] using h.size, fun i hi hne => (Below.heap_setCell w p u i (by
    rintro rfl
    rcases hp with hp | hp
    · exact hne (by rw [hp])
    · omega)).trans (h.block i hi hne)⟩
theorem only_of_below {a w : World} (h : Below a.heap.size a w) (row : Option Nat) : a.grownBy w row := ⟨h.os, h.tape, h.output, h.size, fun i hi _ => h.block i hi⟩
theorem run_make_rowN {P : Program} (t e : TypeId) (i : TypeInfo) (z : Value) (ht : P.underlying t = some (.slice e)) (hi : P.info? e = some i) (hz : i.zero = some z)
    (kl kc : IntKind) (n c : Nat) (hnc : n ≤ c) (hbytes : i.bytes * c ≤ 281474976710656) (h63 : c ≤ 9223372036854775807) (w : World) :
    (Instr.makeSlice t (.int kl (n : Int)) (.int kc (c : Int))).run P w = .ok (.slice (some ⟨w.heap.size, 0, none⟩) n c) (w.alloc (.cells (madeCells z.cells (c * i.size)) e)) := by
  have hb : (i.bytes : Int) * (c : Int) ≤ 281474976710656 := by
    have h : ((i.bytes * c : Nat) : Int) ≤ 281474976710656 := by omega
    rwa [Int.natCast_mul] at h
  have hr := run_make (P := P) w t e i z ht hi hz kl kc n c (by omega) (by omega) hb (by omega)
  simp only [Int.toNat_natCast] at hr
  exact hr
theorem run_makeMap_hint {P : Program} (t k e : TypeId) (kd : IntKind) (n : Int) (ht : P.underlying t = some (.map k e)) (w : World) :
    (Instr.makeMap t (some (.int kd n))).run P w = .ok (.map (some w.heap.size)) (w.alloc (.map #[] 0)) := by
  simp [Instr.makeMap, run_underlying ht]; rfl
theorem run_neq_ptr_other {P : Program} (w : World) {tp te : TypeId} {j : TypeInfo} {a b : Addr} {ca cb : Array Value} {ta tb : TypeId} (hp : P.underlying tp = some (.pointer te)) (hte : P.info? te = some j) (hsz : j.size ≠ 0)
    (hne : a ≠ b) (ha : w.heap[a.block]? = some (.cells ca ta (0, 0))) (hb : w.heap[b.block]? = some (.cells cb tb (0, 0))) :
    (binOp .neq tp (.pointer (some a)) (.pointer (some b))).run P w = .ok (.bool true) w := by
  have h : ∀ d : Nat, (Op.equalIn (d + 1) tp (.pointer (some a)) (.pointer (some b))).run P w = .ok false w := fun d => by
    simp [Op.equalIn, run_underlying hp, sizeOf, typeInfo, hte, hsz, run_sameAddr_other w hne ha hb]
  simp only [binOp]
  simp [Op.equal, Op.maxDepth, h 9999]
theorem ofInt_i64 (a : Nat) (ha : a < 9223372036854775808) : (BitVec.ofInt 64 (a : Int)).toNat = a := by
  rw [BitVec.ofInt_natCast, BitVec.toNat_ofNat]; exact Nat.mod_eq_of_lt (by omega)
theorem i64_and_nat (a b : Nat) (ha : a < 9223372036854775808) (hb : b < 9223372036854775808) : bits .and .i64 (a : Int) (b : Int) = ((a &&& b : Nat) : Int) := by
  have hx : a &&& b < 2 ^ 63 := Nat.and_lt_two_pow _ (by omega)
  show IntKind.i64.wrap ((BitVec.ofInt 64 (a : Int) &&& BitVec.ofInt 64 (b : Int)).toNat : Int) = _
  rw [BitVec.toNat_and, ofInt_i64 a ha, ofInt_i64 b hb, IntKind.wrap_i64]
  omega
theorem i64_or_nat (a b : Nat) (ha : a < 9223372036854775808) (hb : b < 9223372036854775808) : bits .or .i64 (a : Int) (b : Int) = ((a ||| b : Nat) : Int) := by
  have hx : a ||| b < 2 ^ 63 := Nat.or_lt_two_pow (by omega) (by omega)
  show IntKind.i64.wrap ((BitVec.ofInt 64 (a : Int) ||| BitVec.ofInt 64 (b : Int)).toNat : Int) = _
  rw [BitVec.toNat_or, ofInt_i64 a ha, ofInt_i64 b hb, IntKind.wrap_i64]
  omega
theorem i64_xor_nat (a b : Nat) (ha : a < 9223372036854775808) (hb : b < 9223372036854775808) : bits .xor .i64 (a : Int) (b : Int) = ((a ^^^ b : Nat) : Int) := by
  have hx : a ^^^ b < 2 ^ 63 := Nat.xor_lt_two_pow (by omega) (by omega)
  show IntKind.i64.wrap ((BitVec.ofInt 64 (a : Int) ^^^ BitVec.ofInt 64 (b : Int)).toNat : Int) = _
  rw [BitVec.toNat_xor, ofInt_i64 a ha, ofInt_i64 b hb, IntKind.wrap_i64]
  omega
end small
section last
open Go.RowKit Go.WideShapes Go.ChangeShapes
section
variable {H : Type} {enc : TypeId × Value → H} {P : Program}
theorem post_of_below {f : Func} {s : ChangeSpec} {apart fresh handsOn again : Bool} {W W' : World} {args : Array Value} {v : Value} {ds gs : List (DataW H)} {before pa pv : List MemPlace}
    (hW : DataW.Whole enc P f.params.toList s.vars apart W args.toList ds gs before)
    (hres : ∀ (b : Nat) (sp : Nat → Bool) (hd : Bool), DataW.TrodAll enc P W' b sp hd f.resultTypes.toList (v.resultList f.resultTypes.size) (s.fn H (ds ++ gs)).results [])
    (hargs : ∀ sp : Nat → Bool, (∀ p ∈ before, sp p.block = true) → DataW.TrodAll enc P W' 0 sp true f.params.toList args.toList (s.fn H (ds ++ gs)).args pa)
    (hvars : ∀ sp : Nat → Bool, (∀ p ∈ before, sp p.block = true) → DataW.TrodVars enc P W' sp s.vars (s.fn H (ds ++ gs)).vars pv)
    (hps : before = pa ++ pv) (hb : Below W.heap.size W W')
    (hok : ∀ (j : Nat) (t : TypeId) (r : Value), f.resultTypes[j]? = some t → (v.resultList f.resultTypes.size)[j]? = some r → Value.okWide P W' .any 0 t r) :
    s.post enc P f apart fresh handsOn again W args v W' := by
  have hlt : ∀ p ∈ before, p.block < W.heap.size := fun p hp => hW.lt p hp
  have hold : ∀ p ∈ before, (fun b => decide (b < W.heap.size)) p.block = true := fun p hp => by simpa using hlt p hp
  refine ⟨ds, gs, before, [], pa, pv, hW, hres _ _ _, hargs _ hold, hvars _ hold, World.keptBut_mono (fun p hp => ⟨hp, ?_⟩) (hb.frame (· ∈ before)), fun _ => ?_⟩
  · rw [hps, List.mem_append] at hp
    exact Or.inr hp
  · obtain ⟨_, _, _, _, _, hz, hn⟩ := hW
    refine ⟨hok, _, _, ([] ++ pa) ++ pv, ⟨[] ++ pa, pv, trodAll_append (hargs _ (fun _ _ => rfl)) (hres _ _ _), hvars _ (fun _ _ => rfl), rfl, ?_, ?_⟩, ?_⟩
    · intro b off hp
      have hin : MemPlace.cell b off ∈ before := by rw [hps]; simpa using hp
      rw [hb.frozen (hlt _ hin)]
      exact hz b off hin
    · intro ha
      have := hn ha
      rw [hps] at this
      simpa using this
    · intro p hp _
      rw [hps]
      simpa using hp
end
end last
end Go.Proofs.Ytaepnmnoofigjaa

/- The best tree of edges, by contraction of a ring. -/
namespace Go.Proofs.Ytaepnmnoofigjaa
/-- an edge -/
structure Ed where
  fr : Nat
  to : Nat
  w : Int
  id : Int
/-- the sum over a list of nodes -/
def sumL (os : List Nat) (f : Nat → Int) : Int := match os with
  | [] => 0
  | a :: r => f a + sumL r f
theorem sumL_app (a b : List Nat) (f : Nat → Int) : sumL (a ++ b) f = sumL a f + sumL b f := by
  induction a with
  | nil => simp [sumL]
  | cons x r ih => simp only [List.cons_append, sumL, ih]; omega
theorem sumL_map (a : List Nat) (g : Nat → Nat) (f : Nat → Int) : sumL (a.map g) f = sumL a (fun v => f (g v)) := by
  induction a with
  | nil => rfl
  | cons x r ih => simp only [List.map_cons, sumL, ih]
theorem sumL_congr {a : List Nat} {f g : Nat → Int} (h : ∀ v ∈ a, f v = g v) : sumL a f = sumL a g := by
  induction a with
  | nil => rfl
  | cons x r ih => simp only [sumL]; rw [h x (by simp), ih fun v hv => h v (by simp [hv])]
theorem sumL_le {a : List Nat} {f g : Nat → Int} (h : ∀ v ∈ a, f v ≤ g v) : sumL a f ≤ sumL a g := by
  induction a with
  | nil => exact Int.le_refl _
  | cons x r ih =>
    simp only [sumL]
    have h1 := h x (by simp)
    have h2 := ih fun v hv => h v (by simp [hv])
    omega
theorem filter_self {a : List Nat} {x : Nat} (h : x ∉ a) : a.filter (· != x) = a := by
  rw [List.filter_eq_self]
  intro v hv
  simp only [bne_iff_ne, ne_eq]
  exact fun e => h (e ▸ hv)
theorem sumL_out {a : List Nat} (hd : a.Nodup) {x : Nat} (hx : x ∈ a) (f : Nat → Int) : sumL a f = f x + sumL (a.filter (· != x)) f := by
  induction a with
  | nil => cases hx
  | cons y r ih =>
    obtain ⟨hy, hr⟩ := List.nodup_cons.1 hd
    rw [List.filter_cons]
    by_cases e : y = x
    · subst e
      simp [sumL, filter_self hy]
    · have hxr : x ∈ r := by rcases List.mem_cons.1 hx with h | h; exact absurd h.symm e; exact h
      rw [if_pos (by simpa using e)]
      simp only [sumL]
      rw [ih hr hxr]; omega
theorem sumL_same {a : List Nat} : ∀ {b : List Nat}, a.Nodup → b.Nodup → (∀ v, v ∈ a ↔ v ∈ b) → ∀ f : Nat → Int, sumL a f = sumL b f := by
  induction a with
  | nil =>
    intro b _ _ h f
    have : b = [] := List.eq_nil_iff_forall_not_mem.2 fun v hv => by simpa using (h v).2 hv
    subst this; rfl
  | cons x r ih =>
    intro b ha hb h f
    obtain ⟨hx, hr⟩ := List.nodup_cons.1 ha
    rw [sumL_out hb ((h x).1 (by simp)) f]
    simp only [sumL]
    rw [ih hr (hb.filter _) (fun v => ?_) f]
    rw [List.mem_filter]
    constructor
    · intro hv
      refine ⟨(h v).1 (by simp [hv]), ?_⟩
      simp only [bne_iff_ne, ne_eq]
      exact fun e => hx (e ▸ hv)
    · rintro ⟨h1, h2⟩
      simp only [bne_iff_ne, ne_eq] at h2
      rcases List.mem_cons.1 ((h v).2 h1) with e | e
      · exact absurd e h2
      · exact e
/-- a tree of edges from 0 on: one to each node but 0, and each rises -/
def Tr (n : Nat) (l : List Ed) (T : Nat → Ed) : Prop := (∀ v, 0 < v → v < n → T v ∈ l ∧ (T v).to = v) ∧ ∃ r : Nat → Nat, ∀ v, 0 < v → v < n → r (T v).fr < r v
/-- what grown answers -/
def Grown (n : Nat) (l : List Ed) (ids : List Int) : Prop := ∃ (T : Nat → Ed) (os : List Nat), Tr n l T ∧ os.Nodup ∧ (∀ v, v ∈ os ↔ 0 < v ∧ v < n) ∧ ids = os.map (fun v => (T v).id) ∧ ∀ S, Tr n l S → sumL os (fun v => (S v).w) ≤ sumL os (fun v => (T v).w)
/-- the best edges -/
def Bst (n : Nat) (l : List Ed) (b : Nat → Ed) : Prop := ∀ v, 0 < v → v < n → b v ∈ l ∧ (b v).to = v ∧ (b v).fr ≠ v ∧ ∀ e ∈ l, e.to = v → e.fr ≠ v → e.w ≤ (b v).w
theorem Tr.noself {n : Nat} {l : List Ed} {T : Nat → Ed} (h : Tr n l T) {v : Nat} (h0 : 0 < v) (hn : v < n) : (T v).fr ≠ v := by
  obtain ⟨_, r, hr⟩ := h
  intro e
  have := hr v h0 hn
  rw [e] at this; omega
theorem Tr.le_best {n : Nat} {l : List Ed} {T b : Nat → Ed} (h : Tr n l T) (hb : Bst n l b) {v : Nat} (h0 : 0 < v) (hn : v < n) : (T v).w ≤ (b v).w :=
  (hb v h0 hn).2.2.2 _ (h.1 v h0 hn).1 (h.1 v h0 hn).2 (h.noself h0 hn)
theorem grown_tree {n : Nat} {l : List Ed} {b : Nat → Ed} (hb : Bst n l b) (hr : ∃ r : Nat → Nat, ∀ v, 0 < v → v < n → r (b v).fr < r v) : Grown n l ((List.range' 1 (n - 1)).map fun v => (b v).id) := by
  refine ⟨b, _, ⟨fun v h0 hn => ⟨(hb v h0 hn).1, (hb v h0 hn).2.1⟩, hr⟩, List.nodup_range', fun v => ?_, rfl, fun S hS => sumL_le fun v hv => ?_⟩
  · rw [List.mem_range'_1]; omega
  · rw [List.mem_range'_1] at hv
    exact hS.le_best hb (by omega) (by omega)
/-- how many below are not in a ring -/
def cnt (ring : List Nat) : Nat → Nat
  | 0 => 0
  | v + 1 => cnt ring v + if v ∈ ring then 0 else 1
theorem cnt_cons {a : Nat} {r : List Nat} (h : a ∉ r) : ∀ v, cnt (a :: r) v + (if a < v then 1 else 0) = cnt r v
  | 0 => by simp [cnt]
  | v + 1 => by
    have := cnt_cons h v
    rw [cnt, cnt]
    by_cases e : v = a
    · subst e; simp [h] at this ⊢; omega
    · by_cases hv : v ∈ r
      · rw [if_pos (by simp [hv]), if_pos hv]; split at this <;> split <;> omega
      · rw [if_neg (by simp [hv, e]), if_neg hv]; split at this <;> split <;> omega
theorem cnt_nil : ∀ v, cnt [] v = v
  | 0 => rfl
  | v + 1 => by rw [cnt, cnt_nil v]; simp
theorem cnt_all : ∀ {r : List Nat} {n : Nat}, r.Nodup → (∀ v ∈ r, v < n) → cnt r n + r.length = n
  | [], n, _, _ => cnt_nil n
  | a :: r, n, hd, h => by
    obtain ⟨ha, hr⟩ := List.nodup_cons.1 hd
    have := cnt_all hr fun v hv => h v (by simp [hv])
    have h2 := cnt_cons ha n
    rw [if_pos (h a (by simp))] at h2
    simp only [List.length_cons]; omega
theorem cnt_mono (r : List Nat) (v : Nat) : ∀ k, cnt r v ≤ cnt r (v + k)
  | 0 => Nat.le_refl _
  | k + 1 => by have := cnt_mono r v k; rw [show v + (k + 1) = (v + k) + 1 by omega, cnt]; omega
theorem cnt_lt {r : List Nat} {u v : Nat} (hu : u ∉ r) (h : u < v) : cnt r u < cnt r v := by
  have := cnt_mono r (u + 1) (v - (u + 1))
  rw [show u + 1 + (v - (u + 1)) = v by omega, cnt, if_neg hu] at this; omega
theorem cnt_inj {r : List Nat} {u v : Nat} (hu : u ∉ r) (hv : v ∉ r) (h : cnt r u = cnt r v) : u = v := by
  rcases Nat.lt_trichotomy u v with q | q | q
  · have := cnt_lt hu q; omega
  · exact q
  · have := cnt_lt hv q; omega
theorem cnt_hit {r : List Nat} {k : Nat} : ∀ {m : Nat}, k < cnt r m → ∃ v, v < m ∧ v ∉ r ∧ cnt r v = k
  | 0, h => by simp [cnt] at h
  | m + 1, h => by
    rw [cnt] at h
    by_cases q : k < cnt r m
    · obtain ⟨v, h1, h2, h3⟩ := cnt_hit q; exact ⟨v, by omega, h2, h3⟩
    · by_cases hm : m ∈ r
      · rw [if_pos hm] at h; omega
      · rw [if_neg hm] at h; exact ⟨m, by omega, hm, by omega⟩
/-- a node's name when the ring is one node -/
def nm (ring : List Nat) (n v : Nat) : Nat := if v ∈ ring then n - ring.length else cnt ring v
/-- an edge between the new nodes -/
def conF (ring : List Nat) (n : Nat) (b : Nat → Ed) (i : Nat) (e : Ed) : Option Ed :=
  if nm ring n e.fr = nm ring n e.to then none else some ⟨nm ring n e.fr, nm ring n e.to, if nm ring n e.to = n - ring.length then e.w - (b e.to).w else e.w, (i : Int)⟩
def con (ring : List Nat) (n : Nat) (b : Nat → Ed) : Nat → List Ed → List Ed
  | _, [] => []
  | i, e :: r => (conF ring n b i e).toList ++ con ring n b (i + 1) r
theorem con_mem {ring : List Nat} {n : Nat} {b : Nat → Ed} {e' : Ed} : ∀ {l : List Ed} {k : Nat}, e' ∈ con ring n b k l ↔ ∃ i e, l[i]? = some e ∧ conF ring n b (k + i) e = some e'
  | [], k => by simp [con]
  | x :: r, k => by
    rw [con, List.mem_append, con_mem]
    constructor
    · rintro (h | ⟨i, e, h1, h2⟩)
      · rw [Option.mem_toList] at h
        exact ⟨0, x, rfl, h⟩
      · exact ⟨i + 1, e, by simpa using h1, by rw [← h2]; congr 1; omega⟩
    · rintro ⟨i, e, h1, h2⟩
      cases i with
      | zero => simp at h1; subst h1; left; rw [Option.mem_toList]; exact h2
      | succ i => exact .inr ⟨i, e, by simpa using h1, by rw [← h2]; congr 1; omega⟩
theorem con_take {ring : List Nat} {n : Nat} {b : Nat → Ed} : ∀ (l : List Ed) (k i : Nat) (x : Ed), l[i]? = some x → con ring n b k (l.take (i + 1)) = con ring n b k (l.take i) ++ (conF ring n b (k + i) x).toList
  | [], k, i, x, h => by simp at h
  | e :: r, k, 0, x, h => by simp at h; subst h; simp [con]
  | e :: r, k, i + 1, x, h => by
    have := con_take (ring := ring) (n := n) (b := b) r (k + 1) i x (by simpa using h)
    rw [List.take_succ_cons, List.take_succ_cons, con, con, this, List.append_assoc, show k + 1 + i = k + (i + 1) by omega]
/-- a ring of best edges -/
def Ring (n : Nat) (b : Nat → Ed) (ring : List Nat) : Prop := ring.Nodup ∧ (∀ v ∈ ring, 0 < v ∧ v < n) ∧ 1 < ring.length ∧ ∀ k v, ring[k]? = some v → ring[(k + 1) % ring.length]? = some (b v).fr
theorem Ring.le {n : Nat} {b : Nat → Ed} {ring : List Nat} (h : Ring n b ring) : cnt ring n + ring.length = n := cnt_all h.1 fun v hv => (h.2.1 v hv).2
theorem nm_zero {n : Nat} {b : Nat → Ed} {ring : List Nat} (h : Ring n b ring) : nm ring n 0 = 0 := by
  rw [nm, if_neg (fun hv => by have := (h.2.1 0 hv).1; omega)]; rfl
theorem nm_lt {n : Nat} {b : Nat → Ed} {ring : List Nat} (h : Ring n b ring) {v : Nat} (hv : v ∉ ring) (hn : v < n) : nm ring n v < n - ring.length := by
  rw [nm, if_neg hv]
  have := cnt_lt hv hn
  have := h.le; omega
theorem nm_ring {n : Nat} {ring : List Nat} {v : Nat} (hv : v ∈ ring) : nm ring n v = n - ring.length := by rw [nm, if_pos hv]
theorem nm_le {n : Nat} {b : Nat → Ed} {ring : List Nat} (h : Ring n b ring) {v : Nat} (hn : v < n) : nm ring n v ≤ n - ring.length := by
  by_cases hv : v ∈ ring
  · rw [nm_ring hv]; exact Nat.le_refl _
  · exact Nat.le_of_lt (nm_lt h hv hn)
theorem nm_one {n : Nat} {b : Nat → Ed} {ring : List Nat} (h : Ring n b ring) {v : Nat} (hn : v < n) (e : nm ring n v = n - ring.length) : v ∈ ring := by
  by_cases hv : v ∈ ring
  · exact hv
  · have := nm_lt h hv hn; omega
theorem nm_inj {n : Nat} {b : Nat → Ed} {ring : List Nat} (h : Ring n b ring) {u v : Nat} (hu : u ∉ ring) (hun : u < n) (hvn : v < n) (e : nm ring n v = nm ring n u) : v = u := by
  have h1 := nm_lt h hu hun
  by_cases hv : v ∈ ring
  · rw [nm_ring hv] at e; omega
  · rw [nm, nm, if_neg hv, if_neg hu] at e
    exact cnt_inj hv hu e
theorem nm_pos {n : Nat} {b : Nat → Ed} {ring : List Nat} (h : Ring n b ring) {v : Nat} (h0 : 0 < v) (hn : v < n) : 0 < nm ring n v := by
  rcases Nat.eq_zero_or_pos (nm ring n v) with e | e
  · have h2 : (0 : Nat) ∉ ring := fun hv => by have := (h.2.1 0 hv).1; omega
    have := nm_inj h h2 (by omega) hn (by rw [e, nm_zero h])
    omega
  · exact e
theorem nm_hit {n : Nat} {b : Nat → Ed} {ring : List Nat} (h : Ring n b ring) {k : Nat} (hk : k ≤ n - ring.length) : ∃ v, v < n ∧ nm ring n v = k := by
  have hl := h.le
  by_cases q : k < n - ring.length
  · obtain ⟨v, h1, h2, h3⟩ := cnt_hit (r := ring) (k := k) (m := n) (by omega)
    exact ⟨v, h1, by rw [nm, if_neg h2, h3]⟩
  · obtain ⟨v, hv⟩ : ∃ v, v ∈ ring := by
      cases ring with
      | nil => have := h.2.2.1; simp at this
      | cons a r => exact ⟨a, by simp⟩
    exact ⟨v, (h.2.1 v hv).2, by rw [nm_ring hv]; omega⟩
/-- each node has an edge from 0 -/
def HasZ (n : Nat) (l : List Ed) : Prop := (∀ v, 0 < v → v < n → ∃ e ∈ l, e.fr = 0 ∧ e.to = v) ∧ ∀ e ∈ l, e.fr < n ∧ e.to < n
theorem con_hasZ {n : Nat} {l : List Ed} {b : Nat → Ed} {ring : List Nat} (h : Ring n b ring) (hz : HasZ n l) : HasZ (n - ring.length + 1) (con ring n b 0 l) := by
  refine ⟨fun k h0 hk => ?_, fun e' he' => ?_⟩
  · obtain ⟨v, hv, hvk⟩ := nm_hit h (k := k) (by omega)
    have hv0 : 0 < v := by
      rcases Nat.eq_zero_or_pos v with e | e
      · subst e; rw [nm_zero h] at hvk; omega
      · exact e
    obtain ⟨e, he, hf, ht⟩ := hz.1 v hv0 hv
    obtain ⟨i, hi⟩ := List.getElem?_of_mem he
    refine ⟨⟨0, k, if k = n - ring.length then e.w - (b v).w else e.w, ((0 + i : Nat) : Int)⟩, con_mem.2 ⟨i, e, hi, ?_⟩, rfl, rfl⟩
    rw [conF, hf, ht, nm_zero h, hvk, if_neg (by omega)]
  · obtain ⟨i, e, h1, h2⟩ := con_mem.1 he'
    have he := hz.2 e (List.mem_of_getElem? h1)
    rw [conF] at h2
    split at h2
    · cases h2
    · injection h2 with h2
      subst h2
      have := nm_le h he.1
      have := nm_le h he.2
      exact ⟨by dsimp only; omega, by dsimp only; omega⟩
theorem mem_split_at {r : List Nat} {x : Nat} (h : x ∈ r) : ∃ j, r[j]? = some x ∧ j < r.length := by
  obtain ⟨j, hj⟩ := List.getElem?_of_mem h
  exact ⟨j, hj, (List.getElem?_eq_some_iff.1 hj).1⟩
theorem nodup_at {r : List Nat} (hd : r.Nodup) {i j x : Nat} (hi : r[i]? = some x) (hj : r[j]? = some x) : i = j := by
  have h1 := (List.getElem?_eq_some_iff.1 hi).1
  exact (List.getElem?_inj h1 hd).1 (hi.trans hj.symm)
/-- along a ring the way to one of its nodes becomes shorter -/
theorem ring_rank {n : Nat} {b : Nat → Ed} {ring : List Nat} (h : Ring n b ring) {x : Nat} (hx : x ∈ ring) : ∃ p : Nat → Nat, (∀ v, p v < 2 * ring.length + 1) ∧ ∀ v ∈ ring, v ≠ x → (b v).fr ∈ ring ∧ p (b v).fr < p v := by
  obtain ⟨j, hj, hjl⟩ := mem_split_at hx
  refine ⟨fun v => let k := ring.idxOf v; if k ≤ j then j - k else j + ring.length - k, fun v => ?_, fun v hv hne => ?_⟩
  · dsimp only; split <;> omega
  · obtain ⟨k, hk, hkl⟩ := mem_split_at hv
    have hn := h.2.2.2 k v hk
    have hi : ∀ {i u : Nat}, ring[i]? = some u → ring.idxOf u = i := fun {i u} hu => by
      have hm := List.mem_of_getElem? hu
      have h1 := List.idxOf_lt_length_of_mem hm
      exact nodup_at h.1 (x := u) (by rw [List.getElem?_eq_getElem h1, List.getElem_idxOf]) hu
    refine ⟨List.mem_of_getElem? hn, ?_⟩
    have hkj : k ≠ j := fun e => hne (by subst e; rw [hk] at hj; exact Option.some.inj hj)
    dsimp only
    rw [hi hk, hi hn]
    by_cases q : k + 1 < ring.length
    · rw [Nat.mod_eq_of_lt q]; split <;> split <;> omega
    · rw [show k + 1 = ring.length by omega, Nat.mod_self]; split <;> split <;> omega
theorem exists_min {r : List Nat} (f : Nat → Nat) (h : r ≠ []) : ∃ x ∈ r, ∀ v ∈ r, f x ≤ f v := by
  induction r with
  | nil => exact absurd rfl h
  | cons a q ih =>
    by_cases hq : q = []
    · subst hq; exact ⟨a, by simp, fun v hv => by simp at hv; subst hv; exact Nat.le_refl _⟩
    · obtain ⟨x, hx, hm⟩ := ih hq
      by_cases c : f a ≤ f x
      · refine ⟨a, by simp, fun v hv => ?_⟩
        rcases List.mem_cons.1 hv with e | e
        · subst e; exact Nat.le_refl _
        · have := hm v e; omega
      · refine ⟨x, by simp [hx], fun v hv => ?_⟩
        rcases List.mem_cons.1 hv with e | e
        · subst e; omega
        · exact hm v e
theorem nodup_map_of {α β : Type} {f : α → β} {l : List α} (hd : l.Nodup) (hf : ∀ a ∈ l, ∀ b ∈ l, f a = f b → a = b) : (l.map f).Nodup := by
  induction l with
  | nil => exact List.nodup_nil
  | cons a r ih =>
    obtain ⟨ha, hr⟩ := List.nodup_cons.1 hd
    rw [List.map_cons]
    refine List.nodup_cons.2 ⟨fun hm => ?_, ih hr fun x hx y hy => hf x (by simp [hx]) y (by simp [hy])⟩
    obtain ⟨y, hy, e⟩ := List.mem_map.1 hm
    exact ha (hf y (by simp [hy]) a (by simp) e ▸ hy)
theorem nodup_app {α : Type} {a b : List α} (ha : a.Nodup) (hb : b.Nodup) (h : ∀ x ∈ a, x ∉ b) : (a ++ b).Nodup := List.nodup_append.2 ⟨ha, hb, fun x hx y hy e => h x hx (e ▸ hy)⟩
theorem grown_ring {n : Nat} {l : List Ed} {b : Nat → Ed} {ring : List Nat} (hb : Bst n l b) (hz : HasZ n l) (h : Ring n b ring) {ids : List Int} (hg : Grown (n - ring.length + 1) (con ring n b 0 l) ids) :
    ∃ x : Nat, (∃ i : Nat, (i : Int) ∈ ids ∧ ∃ e, l[i]? = some e ∧ e.to = x) ∧ x ∈ ring ∧ (∀ i ∈ ids, ∃ k : Nat, i = (k : Int) ∧ ∃ e, l[k]? = some e ∧ (nm ring n e.to = n - ring.length → e.to = x)) ∧
    ∀ f : Int → Int, (∀ k : Nat, ∀ e, l[k]? = some e → f (k : Int) = e.id) → Grown n l (ids.map f ++ (ring.filter (· != x)).map fun v => (b v).id) := by
  obtain ⟨T', os', ⟨hT1, r', hr'⟩, hd', hm', hids, hbest⟩ := hg
  have hle := h.le
  have hrl := h.2.2.1
  have hpos : 0 < n - ring.length := by
    have h2 : (0 : Nat) ∉ ring := fun hv => by have := (h.2.1 0 hv).1; omega
    have hne : ring ≠ [] := fun e => by subst e; simp at hrl
    obtain ⟨a, ha⟩ := List.exists_mem_of_ne_nil _ hne
    have := cnt_lt h2 (h.2.1 a ha).1
    have han := (h.2.1 a ha).2
    have hm := cnt_mono ring a (n - a)
    rw [show a + (n - a) = n by omega] at hm
    omega
  -- the edge that stands behind a contracted one
  have hE : ∀ v', ∃ q : Nat × Ed, (0 < v' → v' < n - ring.length + 1 → l[q.1]? = some q.2 ∧ (T' v').id = (q.1 : Int) ∧ nm ring n q.2.to = v' ∧ (T' v').fr = nm ring n q.2.fr ∧ nm ring n q.2.fr ≠ v' ∧ (T' v').w = if v' = n - ring.length then q.2.w - (b q.2.to).w else q.2.w) := by
    intro v'
    by_cases hv : 0 < v' ∧ v' < n - ring.length + 1
    · obtain ⟨hin, hto⟩ := hT1 v' hv.1 hv.2
      obtain ⟨i, e, h1, h2⟩ := con_mem.1 hin
      rw [conF] at h2
      split at h2
      · cases h2
      · rename_i hne
        injection h2 with h2
        rw [← h2] at hto
        dsimp only at hto
        refine ⟨(i, e), fun _ _ => ⟨h1, by rw [← h2]; simp, hto, by rw [← h2], by rw [← hto]; exact hne, by rw [← h2, hto]⟩⟩
    · exact ⟨(0, ⟨0, 0, 0, 0⟩), fun a c => absurd ⟨a, c⟩ hv⟩
  obtain ⟨q, hq⟩ : ∃ q : Nat → Nat × Ed, ∀ v', 0 < v' → v' < n - ring.length + 1 → l[(q v').1]? = some (q v').2 ∧ (T' v').id = ((q v').1 : Int) ∧ nm ring n (q v').2.to = v' ∧ (T' v').fr = nm ring n (q v').2.fr ∧ nm ring n (q v').2.fr ≠ v' ∧ (T' v').w = if v' = n - ring.length then (q v').2.w - (b (q v').2.to).w else (q v').2.w := ⟨fun v' => (hE v').choose, fun v' => (hE v').choose_spec⟩
  generalize hone : n - ring.length = one at *
  obtain ⟨o1, o2, o3, o4, o5, o6⟩ := hq one hpos (by omega)
  have hlt : ∀ {v'}, 0 < v' → v' < one + 1 → (q v').2.to < n := fun {v'} h0 h1 => (hz.2 _ (List.mem_of_getElem? (hq v' h0 h1).1)).2
  have hfl : ∀ {v'}, 0 < v' → v' < one + 1 → (q v').2.fr < n := fun {v'} h0 h1 => (hz.2 _ (List.mem_of_getElem? (hq v' h0 h1).1)).1
  generalize hx : (q one).2.to = x at *
  have hxn : x < n := by rw [← hx]; exact hlt hpos (by omega)
  have hxr : x ∈ ring := nm_one h hxn (by rw [hone]; exact o3)
  have honeMem : one ∈ os' := (hm' one).2 ⟨hpos, by omega⟩
  refine ⟨x, ⟨(q one).1, ?_, _, o1, hx⟩, hxr, fun i hi => ?_, fun f hf => ?_⟩
  · rw [hids, List.mem_map]; exact ⟨one, honeMem, o2⟩
  · rw [hids, List.mem_map] at hi
    obtain ⟨v', hv', rfl⟩ := hi
    obtain ⟨v0, v1⟩ := (hm' v').1 hv'
    obtain ⟨p1, p2, p3, _⟩ := hq v' v0 v1
    refine ⟨_, p2, _, p1, fun e => ?_⟩
    rw [p3] at e
    subst e; exact hx
  -- the tree
  obtain ⟨p, hp1, hp2⟩ := ring_rank h hxr
  let T : Nat → Ed := fun v => if v ∈ ring then (if v = x then (q one).2 else b v) else (q (nm ring n v)).2
  have hTout : ∀ {v}, v ∉ ring → 0 < v → v < n → 0 < nm ring n v ∧ nm ring n v < one + 1 ∧ nm ring n v ≠ one ∧ (q (nm ring n v)).2.to = v := fun {v} hv v0 vn => by
    have a1 := nm_pos h v0 vn
    have a2 := nm_lt h hv vn
    have a3 := (hq (nm ring n v) a1 (by omega)).2.2.1
    exact ⟨a1, by omega, by omega, nm_inj h hv vn (hlt a1 (by omega)) a3⟩
  have hTo : ∀ v', v' ∈ os' → T (q v').2.to = (q v').2 := fun v' hv' => by
    obtain ⟨v0, v1⟩ := (hm' v').1 hv'
    have b3 := (hq v' v0 v1).2.2.1
    have b4 := hlt v0 v1
    by_cases hr : (q v').2.to ∈ ring
    · have : v' = one := by rw [← b3, nm_ring hr]; exact hone
      subst this
      simp only [T]
      rw [if_pos hr, if_pos hx]
    · simp only [T]
      rw [if_neg hr, b3]
  have hsplit : ∀ g : Nat → Int, sumL (os'.map (fun v' => (q v').2.to) ++ ring.filter (· != x)) g = sumL (os'.filter (· != one)) (fun v' => g (q v').2.to) + sumL ring g := fun g => by
    rw [sumL_app, sumL_map, sumL_out hd' honeMem, hx, sumL_out h.1 hxr g]
    omega
  refine ⟨T, os'.map (fun v' => (q v').2.to) ++ ring.filter (· != x), ⟨fun v v0 vn => ?_, fun v => r' (nm ring n v) * (2 * ring.length + 1) + (if v ∈ ring then p v else 0), fun v v0 vn => ?_⟩, ?_, fun v => ?_, ?_, fun S hS => ?_⟩
  · by_cases hv : v ∈ ring
    · by_cases e : v = x
      · simp only [T]; rw [if_pos hv, if_pos e]; exact ⟨List.mem_of_getElem? o1, by rw [hx]; exact e.symm⟩
      · simp only [T]; rw [if_pos hv, if_neg e]; exact ⟨(hb v v0 vn).1, (hb v v0 vn).2.1⟩
    · obtain ⟨a1, a2, a3, a4⟩ := hTout hv v0 vn
      simp only [T]; rw [if_neg hv]
      exact ⟨List.mem_of_getElem? (hq _ a1 a2).1, a4⟩
  · have step : ∀ {a c m : Nat}, a < c → m < 2 * ring.length + 1 → a * (2 * ring.length + 1) + m < c * (2 * ring.length + 1) := fun {a c m} hac hm => by
      have := Nat.mul_le_mul_right (2 * ring.length + 1) (Nat.succ_le_of_lt hac)
      rw [Nat.succ_mul] at this; omega
    have hpp : ∀ u, (if u ∈ ring then p u else 0) < 2 * ring.length + 1 := fun u => by split; exact hp1 u; omega
    by_cases hv : v ∈ ring
    · by_cases e : v = x
      · simp only [T]; rw [if_pos hv, if_pos e]
        have hl := hr' one hpos (by omega)
        rw [o4] at hl
        have := step hl (hpp (q one).2.fr)
        have hnv : nm ring n v = one := by rw [nm_ring hv]; exact hone
        rw [hnv]; omega
      · simp only [T]; rw [if_pos hv, if_neg e]
        obtain ⟨c1, c2⟩ := hp2 v hv e
        rw [if_pos c1, if_pos hv, nm_ring hv, nm_ring c1]; omega
    · obtain ⟨a1, a2, a3, a4⟩ := hTout hv v0 vn
      simp only [T]; rw [if_neg hv]
      have hl := hr' _ a1 a2
      rw [(hq _ a1 a2).2.2.2.1] at hl
      have := step hl (hpp (q (nm ring n v)).2.fr)
      omega
  · refine nodup_app (nodup_map_of hd' fun a ha c hc e => ?_) (h.1.filter _) fun u hu hu2 => ?_
    · obtain ⟨a0, a1⟩ := (hm' a).1 ha
      obtain ⟨c0, c1⟩ := (hm' c).1 hc
      rw [← (hq a a0 a1).2.2.1, ← (hq c c0 c1).2.2.1, e]
    · obtain ⟨v', hv', rfl⟩ := List.mem_map.1 hu
      obtain ⟨v0, v1⟩ := (hm' v').1 hv'
      obtain ⟨k1, k2⟩ := List.mem_filter.1 hu2
      have : v' = one := by rw [← (hq v' v0 v1).2.2.1, nm_ring k1]; exact hone
      subst this
      rw [hx] at k2; simp at k2
  · rw [List.mem_append, List.mem_map, List.mem_filter]
    constructor
    · rintro (⟨v', hv', rfl⟩ | ⟨k1, _⟩)
      · obtain ⟨v0, v1⟩ := (hm' v').1 hv'
        refine ⟨?_, hlt v0 v1⟩
        rcases Nat.eq_zero_or_pos (q v').2.to with e | e
        · have := (hq v' v0 v1).2.2.1; rw [e, nm_zero h] at this; omega
        · exact e
      · exact h.2.1 v k1
    · rintro ⟨v0, vn⟩
      by_cases hv : v ∈ ring
      · by_cases e : v = x
        · exact .inl ⟨one, honeMem, by rw [hx]; exact e.symm⟩
        · exact .inr ⟨hv, by simpa using e⟩
      · obtain ⟨a1, a2, a3, a4⟩ := hTout hv v0 vn
        exact .inl ⟨_, (hm' _).2 ⟨a1, a2⟩, a4⟩
  · rw [List.map_append, hids, List.map_map, List.map_map]
    congr 1
    · refine List.map_congr_left fun v' hv' => ?_
      obtain ⟨v0, v1⟩ := (hm' v').1 hv'
      simp only [Function.comp_apply]
      rw [hTo v' hv', (hq v' v0 v1).2.1]
      exact hf _ _ (hq v' v0 v1).1
    · refine List.map_congr_left fun v hv => ?_
      obtain ⟨k1, k2⟩ := List.mem_filter.1 hv
      simp only [T]
      rw [if_pos k1, if_neg (by simpa using k2)]
  · -- no other is better
    obtain ⟨hS1, rs, hrs⟩ := hS
    have hS : Tr n l S := ⟨hS1, rs, hrs⟩
    have hne : ring ≠ [] := fun e => by subst e; simp at hrl
    obtain ⟨y, hy, hmin⟩ := exists_min rs hne
    obtain ⟨y0, yn⟩ := h.2.1 y hy
    let bk : Nat → Nat := fun v' => if v' = one then y else (q v').2.to
    have hbk : ∀ {v'}, 0 < v' → v' < one + 1 → 0 < bk v' ∧ bk v' < n ∧ nm ring n (bk v') = v' := fun {v'} v0 v1 => by
      simp only [bk]
      split
      · rename_i e; subst e; exact ⟨y0, yn, by rw [nm_ring hy]; exact hone⟩
      · have b3 := (hq v' v0 v1).2.2.1
        refine ⟨?_, hlt v0 v1, b3⟩
        rcases Nat.eq_zero_or_pos (q v').2.to with e | e
        · rw [e, nm_zero h] at b3; omega
        · exact e
    let S' : Nat → Ed := fun v' => ⟨nm ring n (S (bk v')).fr, v', if v' = one then (S (bk v')).w - (b y).w else (S (bk v')).w, (l.findIdx (fun _ => true) : Int)⟩
    have hSf : ∀ {v}, 0 < v → v < n → (S v).fr < n := fun {v} v0 vn => (hz.2 _ (hS1 v v0 vn).1).1
    have hfrne : ∀ {v'}, 0 < v' → v' < one + 1 → nm ring n (S (bk v')).fr ≠ v' := fun {v'} v0 v1 e => by
      obtain ⟨c0, c1, c2⟩ := hbk v0 v1
      have hrk := hrs _ c0 c1
      by_cases ho : v' = one
      · have : bk v' = y := by simp only [bk]; rw [if_pos ho]
        rw [this] at e hrk
        have hm := nm_one h (hSf y0 yn) (by rw [e, ho, hone])
        have := hmin _ hm; omega
      · have hnr : bk v' ∉ ring := fun hr => by rw [nm_ring hr, hone] at c2; omega
        have := nm_inj h hnr c1 (hSf c0 c1) (by rw [e, c2])
        rw [this] at hrk; omega
    have hin : ∀ {v'}, 0 < v' → v' < one + 1 → ∃ i : Nat, (⟨(S' v').fr, v', (S' v').w, (i : Int)⟩ : Ed) ∈ con ring n b 0 l := fun {v'} v0 v1 => by
      obtain ⟨c0, c1, c2⟩ := hbk v0 v1
      obtain ⟨d1, d2⟩ := hS1 _ c0 c1
      obtain ⟨i, hi⟩ := List.getElem?_of_mem d1
      refine ⟨i, con_mem.2 ⟨i, _, hi, ?_⟩⟩
      rw [conF, d2, c2, if_neg (hfrne v0 v1), hone]
      simp only [S', Nat.zero_add]
      congr 2
      split
      · rename_i e
        have : bk v' = y := by simp only [bk]; rw [if_pos e]
        rw [this]
      · rfl
    obtain ⟨ix, hix⟩ : ∃ ix : Nat → Nat, ∀ v', 0 < v' → v' < one + 1 → (⟨(S' v').fr, v', (S' v').w, (ix v' : Int)⟩ : Ed) ∈ con ring n b 0 l :=
      ⟨fun v' => if hv : 0 < v' ∧ v' < one + 1 then (hin hv.1 hv.2).choose else 0, fun v' v0 v1 => by dsimp only; rw [dif_pos ⟨v0, v1⟩]; exact (hin v0 v1).choose_spec⟩
    have hB := hbest (fun v' => ⟨(S' v').fr, v', (S' v').w, (ix v' : Int)⟩) ⟨fun v' v0 v1 => ⟨hix v' v0 v1, rfl⟩, fun v' => if v' = 0 then rs 0 else rs (bk v'), fun v' v0 v1 => ?_⟩
    · rw [hsplit, hsplit]
      rw [sumL_out hd' honeMem, sumL_out hd' honeMem (fun v => (T' v).w)] at hB
      have e1 : sumL (os'.filter (· != one)) (fun v' => (S (q v').2.to).w) = sumL (os'.filter (· != one)) (fun v' => (S' v').w) := sumL_congr fun v' hv' => by
        have hv1 := (List.mem_filter.1 hv').2
        have hne1 : v' ≠ one := by simpa using hv1
        simp only [S', bk]; rw [if_neg hne1, if_neg hne1]
      have e2 : sumL (os'.filter (· != one)) (fun v' => (T (q v').2.to).w) = sumL (os'.filter (· != one)) (fun v' => (T' v').w) := sumL_congr fun v' hv' => by
        obtain ⟨hv0, hv1⟩ := List.mem_filter.1 hv'
        have hne1 : v' ≠ one := by simpa using hv1
        obtain ⟨v0, v1⟩ := (hm' v').1 hv0
        rw [hTo v' hv0, (hq v' v0 v1).2.2.2.2.2, if_neg hne1]
      have e3 : sumL ring (fun v => (T v).w) = (T x).w + sumL (ring.filter (· != x)) (fun v => (b v).w) := by
        rw [sumL_out h.1 hxr]
        congr 1
        refine sumL_congr fun v hv => ?_
        obtain ⟨k1, k2⟩ := List.mem_filter.1 hv
        simp only [T]
        rw [if_pos k1, if_neg (by simpa using k2)]
      have e4 := sumL_out h.1 hxr (fun v => (b v).w)
      have e5 := sumL_out h.1 hy (fun v => (b v).w)
      have e6 := sumL_out h.1 hy (fun v => (S v).w)
      have e7 : sumL (ring.filter (· != y)) (fun v => (S v).w) ≤ sumL (ring.filter (· != y)) (fun v => (b v).w) := sumL_le fun v hv => by
        obtain ⟨k1, _⟩ := List.mem_filter.1 hv
        exact hS.le_best hb (h.2.1 v k1).1 (h.2.1 v k1).2
      have e8 : (T x).w = (q one).2.w := by simp only [T]; rw [if_pos hxr]; simp
      have e9 : (T' one).w = (q one).2.w - (b x).w := by rw [o6, if_pos rfl]
      have e10 : (S' one).w = (S y).w - (b y).w := by
        have : bk one = y := by simp [bk]
        simp [S', this]
      dsimp only at hB
      omega
    · obtain ⟨c0, c1, c2⟩ := hbk v0 v1
      have hrk := hrs _ c0 c1
      dsimp only [S']
      rw [if_neg (show ¬ v' = 0 by omega)]
      by_cases hz0 : nm ring n (S (bk v')).fr = 0
      · rw [if_pos hz0]
        have : (S (bk v')).fr = 0 := by
          rcases Nat.eq_zero_or_pos (S (bk v')).fr with e | e
          · exact e
          · have := nm_pos h e (hSf c0 c1); omega
        rw [this] at hrk; exact hrk
      · rw [if_neg hz0]
        have hf0 : 0 < (S (bk v')).fr := by
          rcases Nat.eq_zero_or_pos (S (bk v')).fr with e | e
          · rw [e, nm_zero h] at hz0; exact absurd rfl hz0
          · exact e
        by_cases hfr : (S (bk v')).fr ∈ ring
        · have : bk (nm ring n (S (bk v')).fr) = y := by simp only [bk]; rw [if_pos (by rw [nm_ring hfr]; exact hone)]
          rw [this]
          have := hmin _ hfr; omega
        · have a2 := nm_lt h hfr (hSf c0 c1)
          have a1 := nm_pos h hf0 (hSf c0 c1)
          have a3 := hbk a1 (by omega)
          have := nm_inj h hfr (hSf c0 c1) a3.2.1 a3.2.2
          rw [this]; exact hrk
end Go.Proofs.Ytaepnmnoofigjaa

/- Ways up, rings, trees. -/
namespace Go.Proofs.Ytaepnmnoofigjaa
/-- so many steps -/
def itr (f : Nat → Nat) : Nat → Nat → Nat
  | 0, x => x
  | k + 1, x => itr f k (f x)
theorem itr_add (f : Nat → Nat) : ∀ (a b x : Nat), itr f (a + b) x = itr f b (itr f a x)
  | 0, b, x => by rw [Nat.zero_add]; rfl
  | a + 1, b, x => by rw [show a + 1 + b = (a + b) + 1 by omega, itr, itr_add f a b]; rfl
theorem itr_succ (f : Nat → Nat) (k x : Nat) : itr f (k + 1) x = f (itr f k x) := itr_add f k 1 x
/-- the steps lead to 0 -/
inductive ToZ (f : Nat → Nat) : Nat → Nat → Prop
  | zero : ToZ f 0 0
  | step {k x : Nat} : x ≠ 0 → ToZ f k (f x) → ToZ f (k + 1) x
theorem ToZ.uniq {f : Nat → Nat} {k x : Nat} (h : ToZ f k x) : ∀ {j}, ToZ f j x → j = k := by
  induction h with
  | zero => intro j hj; cases hj with | zero => rfl | step h => exact absurd rfl h
  | step hx _ ih => intro j hj; cases hj with | zero => exact absurd rfl hx | step _ h => rw [ih h]
theorem rank_of_ToZ {f : Nat → Nat} {n : Nat} (h : ∀ v, 0 < v → v < n → ∃ k, ToZ f k v) (hf : ∀ v, 0 < v → v < n → f v < n) : ∃ r : Nat → Nat, ∀ v, 0 < v → v < n → r (f v) < r v := by
  have h' : ∀ v, ∃ k, v < n → ToZ f k v := fun v => by
    rcases Nat.eq_zero_or_pos v with e | e
    · subst e; exact ⟨0, fun _ => .zero⟩
    · by_cases q : v < n
      · obtain ⟨k, hk⟩ := h v e q; exact ⟨k, fun _ => hk⟩
      · exact ⟨0, fun c => absurd c q⟩
  refine ⟨fun v => (h' v).choose, fun v v0 vn => ?_⟩
  have a := (h' (f v)).choose_spec (hf v v0 vn)
  have b := (h' v).choose_spec vn
  have := b.uniq (.step (by omega) a)
  dsimp only
  omega
/-- a ring by the steps from one of its nodes -/
theorem ring_of_itr {n : Nat} {b : Nat → Ed} {f : Nat → Nat} (hf : ∀ v, f v = (b v).fr) {at_ m : Nat} (hm : 0 < m) (hc : itr f m at_ = at_) (hmin : ∀ i, 0 < i → i < m → itr f i at_ ≠ at_) (hin : ∀ i, 0 < itr f i at_ ∧ itr f i at_ < n) (hs : f at_ ≠ at_) : Ring n b ((List.range m).map fun i => itr f i at_) := by
  have hm2 : 1 < m := by
    rcases Nat.lt_or_ge 1 m with q | q
    · exact q
    · have : m = 1 := by omega
      subst this; exact absurd hc hs
  refine ⟨nodup_map_of List.nodup_range fun i hi j hj e => ?_, fun v hv => ?_, by simpa using hm2, fun k v hk => ?_⟩
  · have key : ∀ {i j}, i < m → j < m → i < j → itr f i at_ = itr f j at_ → False := fun {i j} hi hj hij e => by
      have e2 : itr f (i + (m - j)) at_ = at_ := by
        rw [itr_add, e, ← itr_add, show j + (m - j) = m by omega]; exact hc
      exact hmin _ (by omega) (by omega) e2
    rw [List.mem_range] at hi hj
    rcases Nat.lt_trichotomy i j with q | q | q
    · exact (key hi hj q e).elim
    · exact q
    · exact (key hj hi q e.symm).elim
  · obtain ⟨i, _, rfl⟩ := List.mem_map.1 hv
    exact hin i
  · have hkl := (List.getElem?_eq_some_iff.1 hk).1
    simp only [List.length_map, List.length_range] at hkl
    have hv : v = itr f k at_ := by
      rw [List.getElem?_map, List.getElem?_range hkl] at hk
      exact (Option.some.inj hk).symm
    simp only [List.length_map, List.length_range]
    rw [← hf, hv, ← itr_succ f, List.getElem?_map]
    by_cases q : k + 1 < m
    · rw [Nat.mod_eq_of_lt q, List.getElem?_range q]; rfl
    · have : k + 1 = m := by omega
      rw [this, Nat.mod_self, List.getElem?_range (by omega), hc]; rfl
theorem ring_len {n : Nat} {b : Nat → Ed} {ring : List Nat} (h : Ring n b ring) : ring.length ≤ n := by have := h.le; omega
/-- who hangs on whom makes a tree -/
def TreeF (n : Nat) (u : Nat → Nat) : Prop := (∀ v, 0 < v → v < n → u v < n) ∧ ∃ r : Nat → Nat, ∀ v, 0 < v → v < n → r (u v) < r v
/-- how many below are of lower rank -/
def cl (r : Nat → Nat) (x : Nat) : Nat → Nat
  | 0 => 0
  | v + 1 => cl r x v + if r v < x then 1 else 0
theorem cl_le (r : Nat → Nat) {x y : Nat} (h : x ≤ y) : ∀ n, cl r x n ≤ cl r y n
  | 0 => Nat.le_refl _
  | n + 1 => by
    have := cl_le r h n
    rw [cl, cl]; split <;> split <;> omega
theorem cl_lt (r : Nat → Nat) {x y : Nat} (h : x ≤ y) : ∀ {n w}, w < n → r w < y → ¬ r w < x → cl r x n < cl r y n
  | 0, w, hw, _, _ => by omega
  | n + 1, w, hw, h1, h2 => by
    rw [cl, cl]
    by_cases e : w = n
    · subst e
      have := cl_le r h w
      rw [if_pos h1, if_neg h2]; omega
    · have := cl_lt r h (n := n) (by omega) h1 h2
      split <;> split <;> omega
theorem cl_top (r : Nat → Nat) (x : Nat) : ∀ n, cl r x n ≤ n
  | 0 => Nat.le_refl _
  | n + 1 => by have := cl_top r x n; rw [cl]; split <;> omega
theorem cl_top_lt (r : Nat → Nat) (x : Nat) : ∀ {n w}, w < n → ¬ r w < x → cl r x n < n
  | 0, w, hw, _ => by omega
  | n + 1, w, hw, h => by
    rw [cl]
    by_cases e : w = n
    · subst e; have := cl_top r x w; rw [if_neg h]; omega
    · have := cl_top_lt r x (n := n) (by omega) h
      split <;> omega
theorem TreeF.low {n : Nat} {u : Nat → Nat} (h : TreeF n u) : ∃ r : Nat → Nat, (∀ v, v < n → r v < n) ∧ ∀ v, 0 < v → v < n → r (u v) < r v := by
  obtain ⟨h1, r, hr⟩ := h
  refine ⟨fun v => cl r (r v) n, fun v hv => cl_top_lt r _ hv (Nat.lt_irrefl _), fun v v0 vn => ?_⟩
  have := hr v v0 vn
  exact cl_lt r (by omega) (h1 v v0 vn) this (Nat.lt_irrefl _)
/-- on whom a word hangs, off a list -/
def hgs (up : List Int) (v : Int) : Int := up.getD (v - 1).toNat 0
/-- going up one comes to 0 -/
def clm (up : List Int) : Nat → Int → Bool
  | 0, a => a == 0
  | f + 1, a => a == 0 || (decide (0 ≤ a) && decide (a ≤ (up.length : Int)) && clm up f (hgs up a))
def treeB (up : List Int) : Bool := (List.range up.length).all fun w => clm up (up.length + 1) ((w : Int) + 1)
/-- the list of a function -/
def lst (n : Nat) (u : Nat → Nat) : List Int := (List.range (n - 1)).map fun i => (u (i + 1) : Int)
theorem lst_len (n : Nat) (u : Nat → Nat) : (lst n u).length = n - 1 := by simp [lst]
theorem lst_hgs {n : Nat} {u : Nat → Nat} {v : Nat} (h0 : 0 < v) (hn : v < n) : hgs (lst n u) (v : Int) = (u v : Int) := by
  have : ((v : Int) - 1).toNat = v - 1 := by omega
  rw [hgs, this, lst, List.getD_eq_getElem?_getD, List.getElem?_map, List.getElem?_range (by omega)]
  simp only [Option.map_some, Option.getD_some]
  rw [show v - 1 + 1 = v by omega]
theorem clm_of {n : Nat} {u : Nat → Nat} {r : Nat → Nat} (hr : ∀ v, 0 < v → v < n → r (u v) < r v) (hu : ∀ v, 0 < v → v < n → u v < n) : ∀ (f : Nat) (v : Nat), v < n → r v ≤ f → clm (lst n u) f (v : Int) = true
  | 0, v, hv, h => by
    rcases Nat.eq_zero_or_pos v with e | e
    · subst e; rfl
    · have := hr v e hv; omega
  | f + 1, v, hv, h => by
    rcases Nat.eq_zero_or_pos v with e | e
    · subst e; rfl
    · have h1 := hr v e hv
      have ih := clm_of hr hu f (u v) (hu v e hv) (by omega)
      rw [clm, lst_hgs e hv, ih, lst_len]
      simp
      omega
theorem treeB_of {n : Nat} {u : Nat → Nat} (hn : 0 < n) (h : TreeF n u) : treeB (lst n u) = true := by
  obtain ⟨r, h1, h2⟩ := h.low
  rw [treeB, List.all_eq_true, lst_len]
  intro w hw
  rw [List.mem_range] at hw
  have := clm_of h2 h.1 (n - 1 + 1) (w + 1) (by omega) (by have := h1 (w + 1) (by omega); omega)
  simpa using this
/-- how many steps up -/
def dst (up : List Int) : Nat → Int → Nat
  | 0, _ => 0
  | f + 1, a => if a = 0 then 0 else dst up f (hgs up a) + 1
theorem dst_eq {up : List Int} : ∀ {f : Nat} {a : Int}, clm up f a = true → ∀ g, f ≤ g → dst up g a = dst up f a
  | 0, a, h, g, _ => by
    have : a = 0 := by simpa [clm] using h
    subst this
    cases g <;> simp [dst]
  | f + 1, a, h, g, hg => by
    obtain ⟨k, rfl⟩ : ∃ k, g = k + 1 := ⟨g - 1, by omega⟩
    by_cases e : a = 0
    · simp [dst, e]
    · rw [clm] at h
      have h3 : clm up f (hgs up a) = true := by
        simp only [Bool.or_eq_true, Bool.and_eq_true, beq_iff_eq, e, false_or] at h
        exact h.2
      rw [dst, dst, if_neg e, if_neg e, dst_eq h3 k (by omega)]
theorem clm_step {up : List Int} {f : Nat} {a : Int} (h : clm up (f + 1) a = true) (e : a ≠ 0) : 0 ≤ a ∧ a ≤ (up.length : Int) ∧ clm up f (hgs up a) = true := by
  rw [clm] at h
  simpa [e, and_assoc] using h
theorem treeB_to {up : List Int} (h : treeB up = true) : ∃ u, TreeF (up.length + 1) u ∧ up = lst (up.length + 1) u := by
  rw [treeB, List.all_eq_true] at h
  have hc : ∀ v : Nat, 0 < v → v < up.length + 1 → clm up (up.length + 1) (v : Int) = true := fun v v0 vn => by
    have := h (v - 1) (by rw [List.mem_range]; omega)
    rw [show (((v - 1 : Nat) : Int)) + 1 = (v : Int) by omega] at this
    exact this
  have hin : ∀ v : Nat, 0 < v → v < up.length + 1 → 0 ≤ hgs up v ∧ hgs up v < (up.length + 1 : Nat) := fun v v0 vn => by
    obtain ⟨_, _, c3⟩ := clm_step (hc v v0 vn) (by omega)
    by_cases e : hgs up v = 0
    · omega
    · have hl : up.length = (up.length - 1) + 1 := by omega
      rw [hl] at c3
      obtain ⟨d1, d2, _⟩ := clm_step c3 e
      omega
  have hu : ∀ v : Nat, 0 < v → v < up.length + 1 → (((hgs up v).toNat : Nat) : Int) = hgs up v := fun v v0 vn => by
    have := hin v v0 vn; omega
  refine ⟨fun v => (hgs up v).toNat, ⟨fun v v0 vn => by have := hin v v0 vn; dsimp only; omega, fun v => dst up (up.length + 1) v, fun v v0 vn => ?_⟩, ?_⟩
  · dsimp only
    rw [hu v v0 vn]
    obtain ⟨_, _, c3⟩ := clm_step (hc v v0 vn) (by omega)
    have h1 := dst_eq c3 (up.length + 1) (by omega)
    rw [h1, dst, if_neg (by omega)]; omega
  · refine List.ext_getElem (by simp [lst]) fun i h1 h2 => ?_
    simp only [lst, List.getElem_map, List.getElem_range]
    rw [hu (i + 1) (by omega) (by omega), hgs, show (((i + 1 : Nat) : Int) - 1).toNat = i by omega, List.getD_eq_getElem?_getD, List.getElem?_eq_getElem h1]; rfl
end Go.Proofs.Ytaepnmnoofigjaa
