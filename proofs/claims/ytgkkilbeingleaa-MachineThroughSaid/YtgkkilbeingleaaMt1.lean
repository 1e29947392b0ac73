/- Texts that the proof rests on, part 1: what each holds stands at its head. -/
import Derived.Test.YtgkkilbeingleaaRows
import Derived.WalkKit
import Derived.WalkSpells
import Derived.WalkLawsBesides
import Derived.ProofKit
import Derived.Lib.Hide
import Derived.Below
import Derived.Carry
import Derived.Laws.OwnMore
import Derived.Laws.Rows
import Derived.Laws.MakeOwn
import Derived.Laws.Entries
import Derived.Laws.AppendOwn
import Derived.Deep.AppendLies
import Derived.Deep.Draws
import Derived.Deep.Slices
import Derived.Deep.Fields
import Derived.Deep.OwnRows
import Derived.Deep.QuietTactic
import Derived.Deep.RegionWith
import Derived.BigQuiet
import Derived.Maps.AppendAt
import Derived.RegionTactic
import Derived.OwnWalk
import Derived.ChangeSame
import Derived.Lib.SmallJoins
import Derived.OpenShut
import Derived.JoinedCond
import Derived.LaidEqlPtr
import Derived.Laws.BitsAllLaws
import Derived.Laws.BitsLemmas
import Derived.Deep.DeepFit
import Derived.Outline
import Derived.Lib.OthersKept

/- Words for memory, general lemmas that every text of this seat uses: slices that read as lists, blocks known whole, appends onto rows of the call's own, the last step of a row. Nothing of the program is named here. -/
namespace Go.Proofs.Ytgkkilbeingleaa
section words
open Go.RowKit
theorem block_of_add (a : Addr) (n : Nat) : (a.add n).block = a.block := by unfold Addr.add; split <;> rfl
theorem add_of_add (a : Addr) (i j : Nat) : (a.add i).add j = a.add (i + j) := by
  unfold Addr.add
  by_cases hi : i = 0 <;> by_cases hj : j = 0 <;> simp [hi, hj, Nat.add_assoc]

def Reads (w : World) (B size : Nat) (A : Option Addr) (n : Nat) (xs : List Value) : Prop :=
  xs.length = n * size ∧ (0 < n → ∃ ad, A = some ad ∧ ad.block < B ∧ ∀ j u, xs[j]? = some u → w.cell? (ad.add j) = some u)

section
variable {w w' : World} {B B' size n : Nat} {A : Option Addr} {xs : List Value}
theorem Reads.none_ : Reads w B size A 0 [] := ⟨by simp, fun h => absurd h (by omega)⟩
theorem Reads.at_ {k : Nat} (h : Reads w B 1 A n xs) (hk : k < n) : ∃ ad u, A = some ad ∧ ad.block < B ∧ xs[k]? = some u ∧ w.cell? (ad.add k) = some u := by
  obtain ⟨ad, e, hb, hc⟩ := h.2 (by omega)
  have hl : k < xs.length := by have := h.1; omega
  exact ⟨ad, xs[k], e, hb, List.getElem?_eq_getElem hl, hc k _ (List.getElem?_eq_getElem hl)⟩
theorem Reads.keep (h : Reads w B size A n xs) (hk : ∀ p : Addr, p.block < B → w'.cell? p = w.cell? p) : Reads w' B size A n xs :=
  ⟨h.1, fun hn => by
    obtain ⟨ad, e, hb, hc⟩ := h.2 hn
    exact ⟨ad, e, hb, fun j u hu => (hk _ (by rw [block_of_add]; exact hb)).trans (hc j u hu)⟩⟩
theorem Reads.more (h : Reads w B size A n xs) (hB : B ≤ B') : Reads w B' size A n xs :=
  ⟨h.1, fun hn => by
    obtain ⟨ad, e, hb, hc⟩ := h.2 hn
    exact ⟨ad, e, by omega, hc⟩⟩
theorem Reads.below (h : Reads w B size A n xs) (hb : Below B w w') : Reads w' B size A n xs := h.keep fun _ hp => hb.cell hp
theorem Reads.drew (h : Reads w B size A n xs) : Reads w.drew B size A n xs := h
theorem Reads.drewN (h : Reads w B size A n xs) (k : Nat) : Reads (w.drewN k) B size A n xs := h
theorem Reads.alloc (h : Reads w B size A n xs) (hB : B ≤ w.heap.size) (o : Obj) : Reads (w.alloc o) B size A n xs := h.keep fun p hp => World.cell?_alloc_lt w o p (by omega)
theorem Reads.setCell (h : Reads w B size A n xs) {p : Addr} (hB : B ≤ p.block) (u : Value) : Reads (w.setCell p u) B size A n xs :=
  h.keep fun q hq => World.cell?_setCell_other w p q u (fun e => by subst e; omega)
theorem Reads.grown (h : Reads w B size A n xs) {row : Option Nat} (hg : w.grownBy w' row) (hB : B ≤ w.heap.size) (hr : ∀ g, row = some g → B ≤ g) : Reads w' B size A n xs :=
  h.keep fun p hp => World.cell?_of_block (hg.block p.block (by omega) (fun e => by have := hr _ e.symm; omega))
theorem Reads.cut (h : Reads w B size A n xs) {k cap : Nat} (hk : k ≤ n) (hc : n ≤ cap) :
    Reads w B size (if cap = k then A else A.map (·.add (k * size))) (n - k) (xs.drop (k * size)) := by
  refine ⟨by rw [List.length_drop, h.1, Nat.sub_mul], fun hn => ?_⟩
  obtain ⟨ad, rfl, hb, hcell⟩ := h.2 (by omega)
  rw [if_neg (by omega)]
  refine ⟨ad.add (k * size), rfl, by rw [block_of_add]; exact hb, fun j u hu => ?_⟩
  rw [add_of_add]
  exact hcell _ u (by rw [← hu, List.getElem?_drop])
theorem Reads.of_own {base : Nat} {e : TypeId} {c : Nat} (h : w.ownsRow base e size (.slice A n c) n xs) : Reads w w.heap.size size A n xs := by
  refine ⟨h.1, fun hn => ?_⟩
  obtain ⟨g, cap, hv, _, hlt⟩ := h.form hn
  have hA : A = some ⟨g, 0, none⟩ := by injection hv
  subst hA
  exact ⟨_, rfl, hlt, h.cells (g := g) rfl⟩
end
def Blk (w : World) (g : Nat) (t : TypeId) (cs : Array Value) : Prop := w.heap[g]? = some (.cells cs t (0, 0))

section
variable {w w' : World} {g : Nat} {t : TypeId} {cs : Array Value}
theorem Blk.lt (h : Blk w g t cs) : g < w.heap.size := by
  rcases Nat.lt_or_ge g w.heap.size with hlt | hge
  · exact hlt
  · unfold Blk at h; rw [Array.getElem?_eq_none hge] at h; cases h
theorem Blk.cell (h : Blk w g t cs) (i : Nat) : w.cell? ⟨g, i, none⟩ = cs[i]? := cell_of_row w g i cs t (0, 0) h
theorem Blk.frozen (h : Blk w g t cs) (i : Nat) : w.frozen? ⟨g, i, none⟩ = false := by
  unfold Blk at h
  simp [World.frozen?, h]
theorem Blk.new (w : World) (t : TypeId) (cs : Array Value) : Blk (w.alloc (.cells cs t)) w.heap.size t cs := heap_alloc_new w _
theorem Blk.drew (h : Blk w g t cs) : Blk w.drew g t cs := h
theorem Blk.drewN (h : Blk w g t cs) (n : Nat) : Blk (w.drewN n) g t cs := h
theorem Blk.alloc (h : Blk w g t cs) (o : Obj) : Blk (w.alloc o) g t cs := (Below.heap_alloc w o g h.lt).trans h
theorem Blk.set_ (h : Blk w g t cs) (i : Nat) (u : Value) : Blk (w.setCell ⟨g, i, none⟩ u) g t (cs.setIfInBounds i u) := by
  unfold Blk at h ⊢
  simp [World.setCell, Array.getElem?_modify, h]
theorem Blk.far (h : Blk w g t cs) {p : Addr} (hp : g ≠ p.block) (u : Value) : Blk (w.setCell p u) g t cs := (Below.heap_setCell w p u g hp).trans h
theorem Blk.below {B : Nat} (h : Blk w g t cs) (hb : Below B w w') (hg : g < B) : Blk w' g t cs := (hb.block g hg).trans h
theorem Blk.grown {row : Option Nat} (h : Blk w g t cs) (hb : w.grownBy w' row) (hg : some g ≠ row) : Blk w' g t cs := (hb.block g h.lt hg).trans h
theorem Blk.ne_ {g' : Nat} {t' : TypeId} {cs' : Array Value} (h : Blk w g t cs) (h' : Blk w g' t' cs') (hne : t ≠ t') : g ≠ g' := by
  rintro rfl
  unfold Blk at h h'
  rw [h] at h'
  injection h' with h'
  injection h' with _ ht
  exact hne ht
theorem own_blk_ne {base : Nat} {e : TypeId} {size n : Nat} {v : Value} {xs : List Value} (h : w.ownsRow base e size v n xs) (hg : Blk w g t cs) (hne : e ≠ t) : v.ownBlock ≠ some g := by
  rcases h.2 with ⟨rfl, _⟩ | ⟨g', cap, cur, rfl, _, hh, _⟩
  · simp [Value.ownBlock]
  · intro he
    have : g' = g := by simpa [Value.ownBlock] using he
    subst this
    exact Blk.ne_ (t := e) hh hg hne rfl
end
section
variable {P : Program} (w : World)

theorem run_append_of_nil (base : Nat) (t ty e : TypeId) (i : TypeInfo) (size : Nat) (ht : P.underlying t = some (.slice e)) (hi : P.info? e = some i)
    (v : Value) (n : Nat) (xs : List Value) (hown : w.ownsRow base e size v n xs) (c : Nat) : (Builtin.append_ #[t, t] ty #[v, .slice none 0 c]).run P w = .ok v w := by
  rcases hown.2 with ⟨rfl, rfl⟩ | ⟨g, cap, cur, rfl, _, _, hnc, _⟩
  · simp [Builtin.append_, run_underlying ht, sizeOf, typeInfo, hi, Builtin.lenOf, Builtin.firstCells]
  · simp [Builtin.append_, run_underlying ht, sizeOf, typeInfo, hi, Builtin.lenOf, Builtin.firstCells, hnc, storeCells]

theorem run_append_any (base : Nat) (t ty e : TypeId) (i : TypeInfo) (z : Value) (size bytes : Nat) (ht : P.underlying t = some (.slice e)) (hi : P.info? e = some i) (hz : i.zero = some z)
    (hsize : i.size = size) (hby : i.bytes = bytes) (hzs : z.cells.size = size) (hsz : 0 < size)
    (v : Value) (n : Nat) (xs : List Value) (hown : w.ownsRow base e size v n xs)
    (B : Nat) (A : Option Addr) (m c : Nat) (news : List Value) (hr : Reads w B size A m news) (h1 : ∀ u ∈ news, u.oneCell' = true)
    (h63 : n + m ≤ maxLen) (hbytes : (n + m) * bytes ≤ 140737488355328) (hbase : base ≤ w.heap.size) :
    ∃ v' w', (Builtin.append_ #[t, t] ty #[v, .slice A m c]).run P w = .ok v' w' ∧ w'.ownsRow base e size v' (n + m) (xs ++ news) ∧ w.grownBy w' v.ownBlock ∧
      (v'.ownBlock = v.ownBlock ∨ v'.ownBlock = some w.heap.size) := by
  rcases A with _ | ad
  · have hm : m = 0 := by
      rcases Nat.eq_zero_or_pos m with h0 | h0
      · exact h0
      · obtain ⟨ad, h, _⟩ := hr.2 h0
        cases h
    subst hm
    have hn : news = [] := List.eq_nil_of_length_eq_zero (by simpa using hr.1)
    subst hn
    exact ⟨v, w, run_append_of_nil w base t ty e i size ht hi v n xs hown c, by simpa using hown, World.grownBy.refl w _, .inl rfl⟩
  · have hcells : ∀ j u, news[j]? = some u → w.cell? (ad.add j) = some u := by
      intro j u hu
      rcases Nat.eq_zero_or_pos m with h0 | h0
      · subst h0
        have hn : news = [] := List.eq_nil_of_length_eq_zero (by simpa using hr.1)
        subst hn
        simp at hu
      · obtain ⟨ad', h, _, hc⟩ := hr.2 h0
        injection h with h
        subst h
        exact hc j u hu
    obtain ⟨v', w', hrun, h2, h3, _, h5⟩ := run_append_own_at (P := P) w base t ty e i z size bytes ht hi hz hsize hby hzs hsz v n xs hown ad m c news hr.1 hcells h1 h63 hbytes hbase
    exact ⟨v', w', hrun, h2, h3, h5⟩

theorem wp_append_any {o : Oper} {a : Act} {K : Act → World → Prop} {Q : Exit → Act → World → Prop} (s x : Operand) (t : TypeId)
    (ho : o.op = .call { callee := .builtin .append, args := #[s, x], argTypes := #[t, t] })
    (base : Nat) (e : TypeId) (i : TypeInfo) (z : Value) (size bytes : Nat) (ht : P.underlying t = some (.slice e)) (hi : P.info? e = some i) (hz : i.zero = some z)
    (hsize : i.size = size) (hby : i.bytes = bytes) (hzs : z.cells.size = size) (hsz : 0 < size)
    (v : Value) (n : Nat) (xs : List Value) (hs : a.eval s = v) (hown : w.ownsRow base e size v n xs)
    (B : Nat) (A : Option Addr) (m c : Nat) (news : List Value) (hx : a.eval x = .slice A m c) (hr : Reads w B size A m news) (h1 : ∀ u ∈ news, u.oneCell' = true)
    (h63 : n + m ≤ maxLen) (hbytes : (n + m) * bytes ≤ 140737488355328) (hbase : base ≤ w.heap.size)
    (h : ∀ v' w', w'.ownsRow base e size v' (n + m) (xs ++ news) → w.grownBy w' v.ownBlock → (v'.ownBlock = v.ownBlock ∨ v'.ownBlock = some w.heap.size) → K (a.put o.dst v') w') : o.wp P a w K Q := by
  obtain ⟨v', w', hrun, h2, h3, h4⟩ := run_append_any (P := P) w base t o.type e i z size bytes ht hi hz hsize hby hzs hsz v n xs hown B A m c news hr h1 h63 hbytes hbase
  unfold Oper.wp execOp
  simp only [ho, resolve, invoke, builtin, Sem.run_bind, Sem.run_pure, Result.andThen_ok, List.map_toArray, List.map_cons, List.map_nil, hs, hx, hrun]
  exact h v' w' h2 h3 h4

theorem wpList_append_any {ops : Array Oper} {rest : List Oper} {o : Oper} {a : Act} {Q : Exit → Act → World → Prop} (hgd : o.guard = none) (s x : Operand) (t : TypeId)
    (ho : o.op = .call { callee := .builtin .append, args := #[s, x], argTypes := #[t, t] })
    (base : Nat) (e : TypeId) (i : TypeInfo) (z : Value) (size bytes : Nat) (ht : P.underlying t = some (.slice e)) (hi : P.info? e = some i) (hz : i.zero = some z)
    (hsize : i.size = size) (hby : i.bytes = bytes) (hzs : z.cells.size = size) (hsz : 0 < size)
    (v : Value) (n : Nat) (xs : List Value) (hs : a.eval s = v) (hown : w.ownsRow base e size v n xs)
    (B : Nat) (A : Option Addr) (m c : Nat) (news : List Value) (hx : a.eval x = .slice A m c) (hr : Reads w B size A m news) (h1 : ∀ u ∈ news, u.oneCell' = true)
    (h63 : n + m ≤ maxLen) (hbytes : (n + m) * bytes ≤ 140737488355328) (hbase : base ≤ w.heap.size)
    (h : ∀ v' w', w'.ownsRow base e size v' (n + m) (xs ++ news) → w.grownBy w' v.ownBlock → (v'.ownBlock = v.ownBlock ∨ v'.ownBlock = some w.heap.size) → wpList P ops Q rest (a.put o.dst v') w') : wpList P ops Q (o :: rest) a w :=
  wpList_plain hgd fun _ hK => wp_append_any w s x t ho base e i z size bytes ht hi hz hsize hby hzs hsz v n xs hs hown B A m c news hx hr h1 h63 hbytes hbase fun v' w' h2 h3 h4 => hK _ _ (h v' w' h2 h3 h4)

theorem step_append_any {ops : Array Oper} {o : Oper} {a : Act} {K : Act → World → Prop} {Q : Exit → Act → World → Prop} {E : Prop} (hgd : o.guard = none) (s x : Operand) (t : TypeId)
    (ho : o.op = .call { callee := .builtin .append, args := #[s, x], argTypes := #[t, t] })
    (base : Nat) (e : TypeId) (i : TypeInfo) (z : Value) (size bytes : Nat) (ht : P.underlying t = some (.slice e)) (hi : P.info? e = some i) (hz : i.zero = some z)
    (hsize : i.size = size) (hby : i.bytes = bytes) (hzs : z.cells.size = size) (hsz : 0 < size)
    (v : Value) (n : Nat) (xs : List Value) (hs : a.eval s = v) (hown : w.ownsRow base e size v n xs)
    (B : Nat) (A : Option Addr) (m c : Nat) (news : List Value) (hx : a.eval x = .slice A m c) (hr : Reads w B size A m news) (h1 : ∀ u ∈ news, u.oneCell' = true)
    (h63 : n + m ≤ maxLen) (hbytes : (n + m) * bytes ≤ 140737488355328) (hbase : base ≤ w.heap.size)
    (h : ∀ v' w', w'.ownsRow base e size v' (n + m) (xs ++ news) → w.grownBy w' v.ownBlock → (v'.ownBlock = v.ownBlock ∨ v'.ownBlock = some w.heap.size) → K (a.put o.dst v') w') :
    if Region.wanted o (yielded ops a.tmps) = true then Oper.wp P o a w K Q else E := by
  have hw : Region.wanted o (yielded ops a.tmps) = true := by simp [Region.wanted, hgd]
  rw [if_pos hw]
  exact wp_append_any w s x t ho base e i z size bytes ht hi hz hsize hby hzs hsz v n xs hs hown B A m c news hx hr h1 h63 hbytes hbase h
end
end words
section structs
open Go.ChangeShapes Go.WideShapes Go.Deep
section
variable {H : Type} {enc : TypeId × Value → H} {P : Program} {w : World} {base : Nat} {spare : Nat → Bool} {held : Bool}
theorem open_slice_fields {t e : TypeId} {fs : Array Field} {fuel : Nat} {cs : List Value} {x : DataW H × List MemPlace} (ht : P.underlying t = some (.slice e)) (he : P.underlying e = some (.struct fs))
    (hone : oneCellFields P fs = true) (hC : P.cellsOf e = fs.size) (h : DataW.trod enc P w base spare held fuel t cs = some x) :
    (cs = [.slice none 0 0] ∧ x = (.nil, [])) ∨
    ∃ (a : Addr) (len cap m : Nat) (D : Nat → DataW H) (Pl : Nat → List MemPlace), cs = [.slice (some a) len cap] ∧ base ≤ a.block ∧ len ≤ cap ∧ cap ≤ maxLen ∧ m = (if spare a.block then cap else len) ∧
      x = (.slice ((List.range len).map D) ((List.range (m - len)).map fun j => D (len + j)), MemPlace.row a (m * fs.size) ++ (List.range m).flatMap Pl) ∧
      ∀ i, i < m → ∃ (ys : List (DataW H × List MemPlace)) (n : Nat), D i = .agg (ys.map (·.1)) ∧ Pl i = ys.flatMap (·.2) ∧ ys.length = fs.size ∧
        ∀ (j : Nat) (f : Field), fs[j]? = some f → ∃ (v : Value) (y : DataW H × List MemPlace), w.cell? (a.add (i * fs.size + j)) = some v ∧ ys[j]? = some y ∧ DataW.trod enc P w base spare held n f.type [v] = some y := by
  rcases open_slice ht h with h0 | ⟨a, len, cap, m, n, D, Pl, hcs, hb, hl, hm, hmm, hx, hi⟩
  · exact .inl h0
  · refine .inr ⟨a, len, cap, m, D, Pl, hcs, hb, hl, hm, hmm, by rw [hC] at hx; exact hx, fun i him => ?_⟩
    obtain ⟨cs', hc, ht'⟩ := hi i him
    rw [hC] at hc
    obtain ⟨ys, n', hn', hy, hlen, hyl, hf⟩ := DataW.trod_struct he ht'
    obtain ⟨_, hcl, hat⟩ := World.cells?_some hc
    simp only [Prod.mk.injEq] at hy
    refine ⟨ys, n', hy.1, hy.2, hyl, fun j f hj => ?_⟩
    obtain ⟨ho, hk⟩ := hone_of hone j f hj
    have hjl : j < fs.size := (Array.getElem?_eq_some_iff.1 hj).1
    have hcell := hat j hjl
    have hv : cs'[j]? = some (cs'[j]'(by omega)) := List.getElem?_eq_getElem (by omega)
    have h1 := hf j f hj
    rw [ho, hk] at h1
    have hone' : (cs'.drop j).take 1 = [cs'[j]'(by omega)] := by
      rw [List.drop_eq_getElem_cons (by omega)]
      rfl
    rw [hone'] at h1
    have hys : ys[j]? = some (ys[j]'(by omega)) := List.getElem?_eq_getElem (by omega)
    refine ⟨_, _, ?_, hys, h1.trans hys⟩
    rw [← Go.Deep.add_add, hcell, hv]
end
end structs
section aggs
open Go.Joins Go.ChangeShapes Go.WideShapes Go.RowKit Go.Deep
section
variable {H : Type} {enc : TypeId × Value → H} {P : Program} {w : World} {base : Nat} {spare : Nat → Bool} {held : Bool}
theorem open_agg5 {r : Reach} {b0 : Nat} {t : TypeId} {f0 f1 f2 f3 f4 : Field} {v : Value} {d : DataW H} {p : List MemPlace} (hs : P.underlying t = some (.struct #[f0, f1, f2, f3, f4])) (hone : oneCellFields P #[f0, f1, f2, f3, f4] = true) (hC : P.cellsOf t = 5)
    (hv : Value.okWide P w r b0 t v) (h : DataW.Trod enc P w base spare held t v d p) :
    ∃ (v0 v1 v2 v3 v4 : Value) (y0 y1 y2 y3 y4 : DataW H × List MemPlace) (n : Nat), v = .agg #[v0, v1, v2, v3, v4] ∧ d = .agg [y0.1, y1.1, y2.1, y3.1, y4.1] ∧ p = y0.2 ++ (y1.2 ++ (y2.2 ++ (y3.2 ++ y4.2))) ∧
      DataW.trod enc P w base spare held n f0.type [v0] = some y0 ∧ DataW.trod enc P w base spare held n f1.type [v1] = some y1 ∧ DataW.trod enc P w base spare held n f2.type [v2] = some y2 ∧ DataW.trod enc P w base spare held n f3.type [v3] = some y3 ∧ DataW.trod enc P w base spare held n f4.type [v4] = some y4 := by
  obtain ⟨cs, rfl, hsz⟩ := okWide_struct hs hv
  obtain ⟨l⟩ := cs
  match l, hsz.trans hC with
  | [c0, c1, c2, c3, c4], _ =>
    obtain ⟨fuel, hf⟩ := h
    obtain ⟨xs, n, _, hx, _, hlen, hg⟩ := DataW.trod_struct hs hf
    obtain ⟨o0, k0⟩ := hone_of hone 0 f0 rfl
    obtain ⟨o1, k1⟩ := hone_of hone 1 f1 rfl
    obtain ⟨o2, k2⟩ := hone_of hone 2 f2 rfl
    obtain ⟨o3, k3⟩ := hone_of hone 3 f3 rfl
    obtain ⟨o4, k4⟩ := hone_of hone 4 f4 rfl
    match xs, hlen with
    | [y0, y1, y2, y3, y4], _ =>
      simp only [Prod.mk.injEq] at hx
      exact ⟨c0, c1, c2, c3, c4, y0, y1, y2, y3, y4, n, rfl, by simpa using hx.1, by simpa using hx.2, by simpa [Value.cells, o0, k0] using hg 0 f0 rfl, by simpa [Value.cells, o1, k1] using hg 1 f1 rfl, by simpa [Value.cells, o2, k2] using hg 2 f2 rfl, by simpa [Value.cells, o3, k3] using hg 3 f3 rfl, by simpa [Value.cells, o4, k4] using hg 4 f4 rfl⟩

theorem open_agg6 {r : Reach} {b0 : Nat} {t : TypeId} {f0 f1 f2 f3 f4 f5 : Field} {v : Value} {d : DataW H} {p : List MemPlace} (hs : P.underlying t = some (.struct #[f0, f1, f2, f3, f4, f5])) (hone : oneCellFields P #[f0, f1, f2, f3, f4, f5] = true) (hC : P.cellsOf t = 6)
    (hv : Value.okWide P w r b0 t v) (h : DataW.Trod enc P w base spare held t v d p) :
    ∃ (v0 v1 v2 v3 v4 v5 : Value) (y0 y1 y2 y3 y4 y5 : DataW H × List MemPlace) (n : Nat), v = .agg #[v0, v1, v2, v3, v4, v5] ∧ d = .agg [y0.1, y1.1, y2.1, y3.1, y4.1, y5.1] ∧ p = y0.2 ++ (y1.2 ++ (y2.2 ++ (y3.2 ++ (y4.2 ++ y5.2)))) ∧
      DataW.trod enc P w base spare held n f0.type [v0] = some y0 ∧ DataW.trod enc P w base spare held n f1.type [v1] = some y1 ∧ DataW.trod enc P w base spare held n f2.type [v2] = some y2 ∧ DataW.trod enc P w base spare held n f3.type [v3] = some y3 ∧ DataW.trod enc P w base spare held n f4.type [v4] = some y4 ∧ DataW.trod enc P w base spare held n f5.type [v5] = some y5 := by
  obtain ⟨cs, rfl, hsz⟩ := okWide_struct hs hv
  obtain ⟨l⟩ := cs
  match l, hsz.trans hC with
  | [c0, c1, c2, c3, c4, c5], _ =>
    obtain ⟨fuel, hf⟩ := h
    obtain ⟨xs, n, _, hx, _, hlen, hg⟩ := DataW.trod_struct hs hf
    obtain ⟨o0, k0⟩ := hone_of hone 0 f0 rfl
    obtain ⟨o1, k1⟩ := hone_of hone 1 f1 rfl
    obtain ⟨o2, k2⟩ := hone_of hone 2 f2 rfl
    obtain ⟨o3, k3⟩ := hone_of hone 3 f3 rfl
    obtain ⟨o4, k4⟩ := hone_of hone 4 f4 rfl
    obtain ⟨o5, k5⟩ := hone_of hone 5 f5 rfl
    match xs, hlen with
    | [y0, y1, y2, y3, y4, y5], _ =>
      simp only [Prod.mk.injEq] at hx
      exact ⟨c0, c1, c2, c3, c4, c5, y0, y1, y2, y3, y4, y5, n, rfl, by simpa using hx.1, by simpa using hx.2, by simpa [Value.cells, o0, k0] using hg 0 f0 rfl, by simpa [Value.cells, o1, k1] using hg 1 f1 rfl, by simpa [Value.cells, o2, k2] using hg 2 f2 rfl, by simpa [Value.cells, o3, k3] using hg 3 f3 rfl, by simpa [Value.cells, o4, k4] using hg 4 f4 rfl, by simpa [Value.cells, o5, k5] using hg 5 f5 rfl⟩
end
end aggs
section small
open Go.RowKit
theorem hide {p : Prop} (h : p) : Hid p := h
theorem unhide {p : Prop} (h : Hid p) : p := h
theorem quiet_add {P : Program} {f : FuncId} {args : Array Value} {w : World} {a n : Nat} {v : Value}
    (h : Calls P f args (w.drewN (a + n)) fun e w' => e = .returned v ∧ ∃ m, w' = (w.drewN (a + n)).drewN m) :
    Calls P f args (w.drewN (a + n)) fun e w'' => e = .returned v ∧ ∃ m, w'' = w.drewN (a + m) :=
  h.mono fun _ _ ⟨he, m, hm⟩ => ⟨he, n + m, by rw [hm, World.drewN_drewN, Nat.add_assoc]⟩
theorem quiet_add_same {P : Program} {f : FuncId} {args : Array Value} {w : World} {a n : Nat} {v : Value}
    (h : Calls P f args (w.drewN (a + n)) fun e w' => e = .returned v ∧ w' = w.drewN (a + n)) :
    Calls P f args (w.drewN (a + n)) fun e w'' => e = .returned v ∧ ∃ m, w'' = w.drewN (a + m) :=
  h.mono fun _ _ ⟨he, hm⟩ => ⟨he, n, hm⟩
theorem quiet_add_left {P : Program} {f : FuncId} {args : Array Value} {w : World} {a n : Nat} {v : Value}
    (h : Calls P f args (w.drewN (a + n)) fun e w' => e = .returned v ∧ w.drewN (a + n) = w') :
    Calls P f args (w.drewN (a + n)) fun e w'' => e = .returned v ∧ ∃ m, w'' = w.drewN (a + m) :=
  h.mono fun _ _ ⟨he, hm⟩ => ⟨he, n, hm.symm⟩
theorem quiet_left {P : Program} {f : FuncId} {args : Array Value} {w : World} {n : Nat} {v : Value}
    (h : Calls P f args (w.drewN n) fun e w' => e = .returned v ∧ w.drewN n = w') : Calls P f args (w.drewN n) fun e w'' => e = .returned v ∧ ∃ m, w'' = w.drewN m :=
  h.mono fun _ _ ⟨he, hm⟩ => ⟨he, n, hm.symm⟩
theorem results_tmp4 {fn : Func} {t u v x : Tmp} (h : fn.results = #[.tmp t, .tmp u, .tmp v, .tmp x]) (tmps : Array Value) (P : Program) (w : World) :
    (results fn tmps).run P w = .ok (.tuple #[tmps.getD t undef, tmps.getD u undef, tmps.getD v undef, tmps.getD x undef]) w := by simp [results, h]
theorem results_tmp5 {fn : Func} {t u v x y : Tmp} (h : fn.results = #[.tmp t, .tmp u, .tmp v, .tmp x, .tmp y]) (tmps : Array Value) (P : Program) (w : World) :
    (results fn tmps).run P w = .ok (.tuple #[tmps.getD t undef, tmps.getD u undef, tmps.getD v undef, tmps.getD x undef, tmps.getD y undef]) w := by simp [results, h]
theorem below_drewN {B : Nat} {a w : World} (h : Below B a w) (n : Nat) : Below B a (w.drewN n) := ⟨h.os, h.tape, h.output, h.size, h.block⟩
theorem rowIs_drewN {w : World} {b : Nat} {t : TypeId} {n : Nat} {f : Nat → Value} (h : w.rowIs b t n f) (k : Nat) : (w.drewN k).rowIs b t n f := h
theorem grown_trans {a b c : World} (h : Grown a b) (k : Grown b c) : Grown a c :=
  ⟨World.keptBut_trans h.1 k.1, fun x => (k.2.1 x).trans (h.2.1 x), Nat.le_trans h.2.2 k.2.2⟩

theorem only_drewN {a w : World} {row : Option Nat} (h : a.grownBy w row) (n : Nat) : a.grownBy (w.drewN n) row := ⟨h.os, h.tape, h.output, h.size, h.block⟩
theorem only_drew {a w : World} {row : Option Nat} (h : a.grownBy w row) : a.grownBy w.drew row := ⟨h.os, h.tape, h.output, h.size, h.block⟩
theorem only_alloc {a w : World} {row : Option Nat} (h : a.grownBy w row) (o : Obj) : a.grownBy (w.alloc o) row :=
  ⟨h.os, h.tape, h.output, Nat.le_trans h.size (by simp), fun i hi hne => (Below.heap_alloc w o i (Nat.lt_of_lt_of_le hi h.size)).trans (h.block i hi hne)⟩
theorem only_setCell {a w : World} {g : Nat} (h : a.grownBy w (some g)) {p : Addr} (hp : p.block = g ∨ a.heap.size ≤ p.block) (u : Value) : a.grownBy (w.setCell p u) (some g) :=
  ⟨h.os, h.tape, h.output, by simpa [World.setCell] using h.size, fun i hi hne => (Below.heap_setCell w p u i (by
    rintro rfl
    rcases hp with hp | hp
    · exact hne (by rw [hp])
    · omega)).trans (h.block i hi hne)⟩
theorem only_of_below {a w : World} (h : Below a.heap.size a w) (row : Option Nat) : a.grownBy w row := ⟨h.os, h.tape, h.output, h.size, fun i hi _ => h.block i hi⟩
theorem run_make_rowN {P : Program} (t e : TypeId) (i : TypeInfo) (z : Value) (ht : P.underlying t = some (.slice e)) (hi : P.info? e = some i) (hz : i.zero = some z)
    (kl kc : IntKind) (n c : Nat) (hnc : n ≤ c) (hbytes : i.bytes * c ≤ 281474976710656) (h63 : c ≤ 9223372036854775807) (w : World) :
    (Instr.makeSlice t (.int kl (n : Int)) (.int kc (c : Int))).run P w = .ok (.slice (some ⟨w.heap.size, 0, none⟩) n c) (w.alloc (.cells (madeCells z.cells (c * i.size)) e)) := by
  have hb : (i.bytes : Int) * (c : Int) ≤ 281474976710656 := by
    have h : ((i.bytes * c : Nat) : Int) ≤ 281474976710656 := by omega
    rwa [Int.natCast_mul] at h
  have hr := run_make (P := P) w t e i z ht hi hz kl kc n c (by omega) (by omega) hb (by omega)
  simp only [Int.toNat_natCast] at hr
  exact hr
theorem run_makeMap_hint {P : Program} (t k e : TypeId) (kd : IntKind) (n : Int) (ht : P.underlying t = some (.map k e)) (w : World) :
    (Instr.makeMap t (some (.int kd n))).run P w = .ok (.map (some w.heap.size)) (w.alloc (.map #[] 0)) := by
  simp [Instr.makeMap, run_underlying ht]; rfl
theorem run_neq_ptr_other {P : Program} (w : World) {tp te : TypeId} {j : TypeInfo} {a b : Addr} {ca cb : Array Value} {ta tb : TypeId} (hp : P.underlying tp = some (.pointer te)) (hte : P.info? te = some j) (hsz : j.size ≠ 0)
    (hne : a ≠ b) (ha : w.heap[a.block]? = some (.cells ca ta (0, 0))) (hb : w.heap[b.block]? = some (.cells cb tb (0, 0))) :
    (binOp .neq tp (.pointer (some a)) (.pointer (some b))).run P w = .ok (.bool true) w := by
  have h : ∀ d : Nat, (Op.equalIn (d + 1) tp (.pointer (some a)) (.pointer (some b))).run P w = .ok false w := fun d => by
    simp [Op.equalIn, run_underlying hp, sizeOf, typeInfo, hte, hsz, run_sameAddr_other w hne ha hb]
  simp only [binOp]
  simp [Op.equal, Op.maxDepth, h 9999]
theorem ofInt_i64 (a : Nat) (ha : a < 9223372036854775808) : (BitVec.ofInt 64 (a : Int)).toNat = a := by
  rw [BitVec.ofInt_natCast, BitVec.toNat_ofNat]; exact Nat.mod_eq_of_lt (by omega)
theorem i64_and_nat (a b : Nat) (ha : a < 9223372036854775808) (hb : b < 9223372036854775808) : bits .and .i64 (a : Int) (b : Int) = ((a &&& b : Nat) : Int) := by
  have hx : a &&& b < 2 ^ 63 := Nat.and_lt_two_pow _ (by omega)
  show IntKind.i64.wrap ((BitVec.ofInt 64 (a : Int) &&& BitVec.ofInt 64 (b : Int)).toNat : Int) = _
  rw [BitVec.toNat_and, ofInt_i64 a ha, ofInt_i64 b hb, IntKind.wrap_i64]
  omega
theorem i64_or_nat (a b : Nat) (ha : a < 9223372036854775808) (hb : b < 9223372036854775808) : bits .or .i64 (a : Int) (b : Int) = ((a ||| b : Nat) : Int) := by
  have hx : a ||| b < 2 ^ 63 := Nat.or_lt_two_pow (by omega) (by omega)
  show IntKind.i64.wrap ((BitVec.ofInt 64 (a : Int) ||| BitVec.ofInt 64 (b : Int)).toNat : Int) = _
  rw [BitVec.toNat_or, ofInt_i64 a ha, ofInt_i64 b hb, IntKind.wrap_i64]
  omega
theorem i64_xor_nat (a b : Nat) (ha : a < 9223372036854775808) (hb : b < 9223372036854775808) : bits .xor .i64 (a : Int) (b : Int) = ((a ^^^ b : Nat) : Int) := by
  have hx : a ^^^ b < 2 ^ 63 := Nat.xor_lt_two_pow (by omega) (by omega)
  show IntKind.i64.wrap ((BitVec.ofInt 64 (a : Int) ^^^ BitVec.ofInt 64 (b : Int)).toNat : Int) = _
  rw [BitVec.toNat_xor, ofInt_i64 a ha, ofInt_i64 b hb, IntKind.wrap_i64]
  omega
end small
section last
open Go.RowKit Go.WideShapes Go.ChangeShapes
section
variable {H : Type} {enc : TypeId × Value → H} {P : Program}
theorem post_of_below {f : Func} {s : ChangeSpec} {apart fresh handsOn again : Bool} {W W' : World} {args : Array Value} {v : Value} {ds gs : List (DataW H)} {before pa pv : List MemPlace}
    (hW : DataW.Whole enc P f.params.toList s.vars apart W args.toList ds gs before)
    (hres : ∀ (b : Nat) (sp : Nat → Bool) (hd : Bool), DataW.TrodAll enc P W' b sp hd f.resultTypes.toList (v.resultList f.resultTypes.size) (s.fn H (ds ++ gs)).results [])
    (hargs : ∀ sp : Nat → Bool, (∀ p ∈ before, sp p.block = true) → DataW.TrodAll enc P W' 0 sp true f.params.toList args.toList (s.fn H (ds ++ gs)).args pa)
    (hvars : ∀ sp : Nat → Bool, (∀ p ∈ before, sp p.block = true) → DataW.TrodVars enc P W' sp s.vars (s.fn H (ds ++ gs)).vars pv)
    (hps : before = pa ++ pv) (hb : Below W.heap.size W W')
    (hok : ∀ (j : Nat) (t : TypeId) (r : Value), f.resultTypes[j]? = some t → (v.resultList f.resultTypes.size)[j]? = some r → Value.okWide P W' .any 0 t r) :
    s.post enc P f apart fresh handsOn again W args v W' := by
  have hlt : ∀ p ∈ before, p.block < W.heap.size := fun p hp => hW.lt p hp
  have hold : ∀ p ∈ before, (fun b => decide (b < W.heap.size)) p.block = true := fun p hp => by simpa using hlt p hp
  refine ⟨ds, gs, before, [], pa, pv, hW, hres _ _ _, hargs _ hold, hvars _ hold, World.keptBut_mono (fun p hp => ⟨hp, ?_⟩) (hb.frame (· ∈ before)), fun _ => ?_⟩
  · rw [hps, List.mem_append] at hp
    exact Or.inr hp
  · obtain ⟨_, _, _, _, _, hz, hn⟩ := hW
    refine ⟨hok, _, _, ([] ++ pa) ++ pv, ⟨[] ++ pa, pv, trodAll_append (hargs _ (fun _ _ => rfl)) (hres _ _ _), hvars _ (fun _ _ => rfl), rfl, ?_, ?_⟩, ?_⟩
    · intro b off hp
      have hin : MemPlace.cell b off ∈ before := by rw [hps]; simpa using hp
      rw [hb.frozen (hlt _ hin)]
      exact hz b off hin
    · intro ha
      have := hn ha
      rw [hps] at this
      simpa using this
    · intro p hp _
      rw [hps]
      simpa using hp
end
end last
end Go.Proofs.Ytgkkilbeingleaa

/- Abstract values and abstract memory: what values and blocks of the model's memory stand for. Nothing of the program is named here. -/
namespace Go.Proofs.Ytgkkilbeingleaa
open Go.RowKit

/-- what a value stands for -/
inductive AV where
  | any
  | p (v : Value)
  | agg (cs : List AV)
  | tup (cs : List AV)
  | dsl (sz : Nat) (xs : List (List AV))
  | dptr (sz : Nat) (xs : List (List AV)) (i j : Nat)
  | ptr (id off : Nat)
  | eptr (id sz i j : Nat)
  | osl (id sz off n : Nat)
  | mp (id : Nat)
  | fn (f : Fn) (first captured : List AV)
/-- what a block stands for -/
inductive AO where
  | box (t : TypeId) (cs : List AV)
  | row (t : TypeId) (sz : Nat) (es : List (List AV))
  | frz (sz : Nat) (es : List (List AV))
  | map (kt : TypeId) (n : Nat) (f : Value → Option AV)
  | siter (s : ByteArray) (pos : Nat)
  | crow (t : TypeId) (sz c : Nat) (es : List (List AV))
  | dead
  | smap (kt : TypeId) (n : Nat) (f : Value → Option AV) (st : Value → Nat) (c : Nat)
  | miter (m : Nat) (st : Value → Nat) (c : Nat) (vis : List Value)
structure AH where
  nx : Nat
  l : List (Nat × AO)
def lget : List (Nat × AO) → Nat → Option AO
  | [], _ => none
  | (i, o) :: r, k => if i = k then some o else lget r k
def lput : List (Nat × AO) → Nat → AO → List (Nat × AO)
  | [], k, o => [(k, o)]
  | (i, x) :: r, k, o => if k < i then (k, o) :: (i, x) :: r else if k = i then (k, o) :: r else (i, x) :: lput r k o
def ldel : List (Nat × AO) → Nat → List (Nat × AO)
  | [], _ => []
  | (i, x) :: r, k => if i = k then ldel r k else (i, x) :: ldel r k
def AH.get (H : AH) (k : Nat) : Option AO := lget H.l k
def AH.put (H : AH) (k : Nat) (o : AO) : AH := ⟨H.nx, lput H.l k o⟩
def AH.del (H : AH) (k : Nat) : AH := ⟨H.nx, ldel H.l k⟩
def AH.kill (H : AH) (k : Nat) : AH := H.put k .dead
def AH.up (H : AH) (n : Nat) : AH := ⟨H.nx + n, H.l⟩

theorem lget_lput_ne {l : List (Nat × AO)} {k j : Nat} {o : AO} (h : j ≠ k) : lget (lput l k o) j = lget l j := by
  induction l with
  | nil => simp [lput, lget]; omega
  | cons a r ih =>
    obtain ⟨i, x⟩ := a
    unfold lput
    split
    · simp [lget]; omega
    · split
      · rename_i _ h2; subst h2; simp [lget]; rw [if_neg (by omega), if_neg (by omega)]
      · simp only [lget, ih]
theorem lget_ldel_ne {l : List (Nat × AO)} {k j : Nat} (h : j ≠ k) : lget (ldel l k) j = lget l j := by
  induction l with
  | nil => rfl
  | cons a r ih =>
    obtain ⟨i, x⟩ := a
    unfold ldel
    split
    · rename_i h2; subst h2; rw [ih]; simp only [lget]; rw [if_neg (fun e => h e.symm)]
    · simp only [lget, ih]
theorem lget_ldel_self {l : List (Nat × AO)} {k : Nat} : lget (ldel l k) k = none := by
  induction l with
  | nil => rfl
  | cons a r ih =>
    obtain ⟨i, x⟩ := a
    unfold ldel
    split
    · exact ih
    · rename_i h2; simp only [lget]; rw [if_neg h2]; exact ih
/-- each number stands below those behind it -/
def sortedL : List (Nat × AO) → Prop
  | [] => True
  | (i, _) :: r => (∀ k, k ≤ i → lget r k = none) ∧ sortedL r
theorem lget_lput_self {l : List (Nat × AO)} {k : Nat} {o : AO} : lget (lput l k o) k = some o := by
  induction l with
  | nil => simp [lput, lget]
  | cons a r ih =>
    obtain ⟨i, x⟩ := a
    unfold lput
    split
    · simp [lget]
    · split
      · simp [lget]
      · rename_i h1 h2; simp only [lget]; rw [if_neg (fun e => h2 e.symm), ih]
theorem lput_comm {l : List (Nat × AO)} {i j : Nat} {x y : AO} (h : i ≠ j) : lput (lput l i x) j y = lput (lput l j y) i x := by
  induction l with
  | nil => grind [lput]
  | cons a r ih =>
    obtain ⟨k, z⟩ := a
    grind [lput]

/-- data: no block of the call's own in it -/
inductive RpD (w : World) (S : Nat → Prop) : AV → Value → Prop
  | p (v : Value) : v.oneCell' = true → RpD w S (.p v) v
  | agg (cs : List AV) (vs : Array Value) : cs.length = vs.size → (∀ (i : Nat) (a : AV) (v : Value), cs[i]? = some a → vs[i]? = some v → RpD w S a v) → (∀ v ∈ vs, v.oneCell' = true) → RpD w S (.agg cs) (.agg vs)
  | dsl (sz : Nat) (xs : List (List AV)) (A : Option Addr) (c : Nat) (z : Nat → Nat → Value) : xs.length ≤ c → c ≤ maxLen → (∀ e ∈ xs, e.length = sz) →
      (∀ (i : Nat) (e : List AV) (j : Nat) (a : AV), xs[i]? = some e → e[j]? = some a → ∃ g o, A = some ⟨g, o, none⟩ ∧ S g ∧ w.cell? ⟨g, o + i * sz + j, none⟩ = some (z i j)) →
      (∀ (i : Nat) (e : List AV) (j : Nat) (a : AV), xs[i]? = some e → e[j]? = some a → RpD w S a (z i j)) → (∀ i j, (z i j).oneCell' = true) → RpD w S (.dsl sz xs) (.slice A xs.length c)
inductive Rp (w : World) (S : Nat → Prop) (σ : Nat → Option Value) : AV → Value → Prop
  | any (v : Value) : Rp w S σ .any v
  | data (a : AV) (v : Value) : RpD w S a v → Rp w S σ a v
  | agg (cs : List AV) (vs : Array Value) : cs.length = vs.size → (∀ (i : Nat) (a : AV) (v : Value), cs[i]? = some a → vs[i]? = some v → Rp w S σ a v) → (∀ v ∈ vs, v.oneCell' = true) → Rp w S σ (.agg cs) (.agg vs)
  | tup (cs : List AV) (vs : Array Value) : cs.length = vs.size → (∀ (i : Nat) (a : AV) (v : Value), cs[i]? = some a → vs[i]? = some v → Rp w S σ a v) → Rp w S σ (.tup cs) (.tuple vs)
  | dptr (sz : Nat) (xs : List (List AV)) (i j g o c : Nat) : RpD w S (.dsl sz xs) (.slice (some ⟨g, o, none⟩) xs.length c) → i < xs.length → Rp w S σ (.dptr sz xs i j) (.pointer (some ⟨g, o + i * sz + j, none⟩))
  | ptr (id off g : Nat) : σ id = some (.pointer (some ⟨g, 0, none⟩)) → Rp w S σ (.ptr id off) (.pointer (some ⟨g, off, none⟩))
  | eptr (id sz i j g o n c : Nat) : σ id = some (.slice (some ⟨g, o, none⟩) n c) → Rp w S σ (.eptr id sz i j) (.pointer (some ⟨g, o + i * sz + j, none⟩))
  | osl (id sz off n : Nat) (A B : Option Addr) (N c cc : Nat) : σ id = some (.slice A N c) → n ≤ cc → off + cc = c → (0 < cc → B = A.map (·.add (off * sz))) → Rp w S σ (.osl id sz off n) (.slice B n cc)
  | mp (id g : Nat) : σ id = some (.map (some g)) → Rp w S σ (.mp id) (.map (some g))
  | fn (f : Fn) (first captured : List AV) (fs cs : Array Value) : first.length = fs.size → captured.length = cs.size → (∀ (i : Nat) (a : AV) (v : Value), first[i]? = some a → fs[i]? = some v → Rp w S σ a v) →
      (∀ (i : Nat) (a : AV) (v : Value), captured[i]? = some a → cs[i]? = some v → Rp w S σ a v) → Rp w S σ (.fn f first captured) (.func f fs cs)

section
variable {w w' : World} {S S' : Nat → Prop} {σ σ' : Nat → Option Value} {a : AV} {v : Value}
theorem RpD.mono (h : RpD w S a v) (hs : ∀ b, S b → S' b) (hw : ∀ b, S b → w'.heap[b]? = w.heap[b]?) : RpD w' S' a v := by
  induction h with
  | p v h => exact .p v h
  | agg cs vs hl _ h1 ih => exact .agg cs vs hl (fun i a v ha hv => ih i a v ha hv) h1
  | dsl sz xs A c z h1 h2 h3 h4 _ h6 ih =>
    refine .dsl sz xs A c z h1 h2 h3 (fun i e j a he ha => ?_) (fun i e j a he ha => ih i e j a he ha) h6
    obtain ⟨g, o, rfl, hg, hc⟩ := h4 i e j a he ha
    exact ⟨g, o, rfl, hs g hg, (World.cell?_of_block (hw g hg)).trans hc⟩
theorem Rp.mono (h : Rp w S σ a v) (hs : ∀ b, S b → S' b) (hw : ∀ b, S b → w'.heap[b]? = w.heap[b]?) (hg : ∀ id u, σ id = some u → σ' id = some u) : Rp w' S' σ' a v := by
  induction h with
  | any v => exact .any v
  | data a v h => exact .data a v (h.mono hs hw)
  | agg cs vs hl _ h1 ih => exact .agg cs vs hl (fun i a v ha hv => ih i a v ha hv) h1
  | tup cs vs hl _ ih => exact .tup cs vs hl (fun i a v ha hv => ih i a v ha hv)
  | dptr sz xs i j g o c h hi => exact .dptr sz xs i j g o c (h.mono hs hw) hi
  | ptr id off g h => exact .ptr id off g (hg _ _ h)
  | eptr id sz i j g o n c h => exact .eptr id sz i j g o n c (hg _ _ h)
  | osl id sz off n A B N c cc h h1 h2 h3 => exact .osl id sz off n A B N c cc (hg _ _ h) h1 h2 h3
  | mp id g h => exact .mp id g (hg _ _ h)
  | fn f first captured fs cs h1 h2 _ _ ih1 ih2 => exact .fn f first captured fs cs h1 h2 (fun i a v ha hv => ih1 i a v ha hv) (fun i a v ha hv => ih2 i a v ha hv)
/-- list by array -/
def Rps (w : World) (S : Nat → Prop) (σ : Nat → Option Value) (ps : List AV) (vs : List Value) : Prop := ps.length = vs.length ∧ ∀ (i : Nat) (a : AV) (v : Value), ps[i]? = some a → vs[i]? = some v → Rp w S σ a v
theorem Rps.nil : Rps w S σ [] [] := ⟨rfl, by simp⟩
theorem Rps.cons {ps : List AV} {vs : List Value} (h : Rp w S σ a v) (hs : Rps w S σ ps vs) : Rps w S σ (a :: ps) (v :: vs) := by
  refine ⟨by simp [hs.1], fun i b u hb hu => ?_⟩
  cases i with
  | zero => simp at hb hu; subst hb; subst hu; exact h
  | succ i => exact hs.2 i b u (by simpa using hb) (by simpa using hu)
theorem Rps.uncons {ps : List AV} {vs : List Value} (h : Rps w S σ (a :: ps) vs) : ∃ v r, vs = v :: r ∧ Rp w S σ a v ∧ Rps w S σ ps r := by
  obtain ⟨hl, h⟩ := h
  match vs, hl with
  | v :: r, hl => exact ⟨v, r, rfl, h 0 a v rfl rfl, by simpa using hl, fun i b u hb hu => h (i + 1) b u (by simpa using hb) (by simpa using hu)⟩
theorem Rps.nil_inv {vs : List Value} (h : Rps w S σ [] vs) : vs = [] := List.eq_nil_of_length_eq_zero h.1.symm
theorem Rps.mono {ps : List AV} {vs : List Value} (h : Rps w S σ ps vs) (hs : ∀ b, S b → S' b) (hw : ∀ b, S b → w'.heap[b]? = w.heap[b]?) (hg : ∀ id u, σ id = some u → σ' id = some u) : Rps w' S' σ' ps vs :=
  ⟨h.1, fun i a v ha hv => (h.2 i a v ha hv).mono hs hw hg⟩
theorem Rps.append {ps bs : List AV} {vs us : List Value} (h : Rps w S σ ps vs) (h' : Rps w S σ bs us) : Rps w S σ (ps ++ bs) (vs ++ us) := by
  refine ⟨by simp [h.1, h'.1], fun i a v ha hv => ?_⟩
  by_cases hi : i < ps.length
  · rw [List.getElem?_append_left hi] at ha
    rw [List.getElem?_append_left (by rw [← h.1]; exact hi)] at hv
    exact h.2 i a v ha hv
  · rw [List.getElem?_append_right (by omega)] at ha
    rw [List.getElem?_append_right (by rw [← h.1]; omega), ← h.1] at hv
    exact h'.2 _ a v ha hv
theorem Rp.p_inv {u : Value} (h : Rp w S σ (.p u) v) : v = u ∧ u.oneCell' = true := by
  cases h with
  | data _ _ h => cases h with | p _ h => exact ⟨rfl, h⟩
theorem Rp.agg_inv {cs : List AV} (h : Rp w S σ (.agg cs) v) : ∃ vs : Array Value, v = .agg vs ∧ Rps w S σ cs vs.toList ∧ ∀ u ∈ vs, u.oneCell' = true := by
  cases h with
  | data _ _ h => cases h with
    | agg _ vs hl h h1 => exact ⟨vs, rfl, ⟨by simpa using hl, fun i a u ha hu => .data _ _ (h i a u ha (by simpa using hu))⟩, h1⟩
  | agg _ vs hl h h1 => exact ⟨vs, rfl, ⟨by simpa using hl, fun i a u ha hu => h i a u ha (by simpa using hu)⟩, h1⟩
theorem Rp.tup_inv {cs : List AV} (h : Rp w S σ (.tup cs) v) : ∃ vs : Array Value, v = .tuple vs ∧ Rps w S σ cs vs.toList := by
  cases h with
  | data _ _ h => cases h
  | tup _ vs hl h => exact ⟨vs, rfl, by simpa using hl, fun i a u ha hu => h i a u ha (by simpa using hu)⟩
theorem Rp.dsl_inv {sz : Nat} {xs : List (List AV)} (h : Rp w S σ (.dsl sz xs) v) : RpD w S (.dsl sz xs) v := by
  cases h with
  | data _ _ h => exact h
theorem RpD.dsl_inv {sz : Nat} {xs : List (List AV)} (h : RpD w S (.dsl sz xs) v) : ∃ (A : Option Addr) (c : Nat) (z : Nat → Nat → Value), v = .slice A xs.length c ∧ xs.length ≤ c ∧ c ≤ maxLen ∧ (∀ e ∈ xs, e.length = sz) ∧
      (∀ (i : Nat) (e : List AV) (j : Nat) (a : AV), xs[i]? = some e → e[j]? = some a → ∃ g o, A = some ⟨g, o, none⟩ ∧ S g ∧ w.cell? ⟨g, o + i * sz + j, none⟩ = some (z i j)) ∧
      (∀ (i : Nat) (e : List AV) (j : Nat) (a : AV), xs[i]? = some e → e[j]? = some a → RpD w S a (z i j)) ∧ (∀ i j, (z i j).oneCell' = true) := by
  cases h with
  | dsl _ _ A c z h1 h2 h3 h4 h5 h6 => exact ⟨A, c, z, rfl, h1, h2, h3, h4, h5, h6⟩
theorem Rp.dptr_inv {sz i j : Nat} {xs : List (List AV)} (h : Rp w S σ (.dptr sz xs i j) v) : ∃ g o c, v = .pointer (some ⟨g, o + i * sz + j, none⟩) ∧ RpD w S (.dsl sz xs) (.slice (some ⟨g, o, none⟩) xs.length c) ∧ i < xs.length := by
  cases h with
  | data _ _ h => cases h
  | dptr _ _ _ _ g o c h hi => exact ⟨g, o, c, rfl, h, hi⟩
theorem Rp.ptr_inv {id off : Nat} (h : Rp w S σ (.ptr id off) v) : ∃ g, v = .pointer (some ⟨g, off, none⟩) ∧ σ id = some (.pointer (some ⟨g, 0, none⟩)) := by
  cases h with
  | data _ _ h => cases h
  | ptr _ _ g h => exact ⟨g, rfl, h⟩
theorem Rp.eptr_inv {id sz i j : Nat} (h : Rp w S σ (.eptr id sz i j) v) : ∃ g o n c, v = .pointer (some ⟨g, o + i * sz + j, none⟩) ∧ σ id = some (.slice (some ⟨g, o, none⟩) n c) := by
  cases h with
  | data _ _ h => cases h
  | eptr _ _ _ _ g o n c h => exact ⟨g, o, n, c, rfl, h⟩
theorem Rp.osl_inv {id sz off n : Nat} (h : Rp w S σ (.osl id sz off n) v) : ∃ (A B : Option Addr) (N c cc : Nat), v = .slice B n cc ∧ σ id = some (.slice A N c) ∧ n ≤ cc ∧ off + cc = c ∧ (0 < cc → B = A.map (·.add (off * sz))) := by
  cases h with
  | data _ _ h => cases h
  | osl _ _ _ _ A B N c cc h h1 h2 h3 => exact ⟨A, B, N, c, cc, rfl, h, h1, h2, h3⟩
theorem Rp.mp_inv {id : Nat} (h : Rp w S σ (.mp id) v) : ∃ g, v = .map (some g) ∧ σ id = some (.map (some g)) := by
  cases h with
  | data _ _ h => cases h
  | mp _ g h => exact ⟨g, rfl, h⟩
theorem Rp.fn_inv {f : Fn} {first captured : List AV} (h : Rp w S σ (.fn f first captured) v) : ∃ fs cs : Array Value, v = .func f fs cs ∧ Rps w S σ first fs.toList ∧ Rps w S σ captured cs.toList := by
  cases h with
  | data _ _ h => cases h
  | fn _ _ _ fs cs h1 h2 h3 h4 => exact ⟨fs, cs, rfl, ⟨by simpa using h1, fun i a u ha hu => h3 i a u ha (by simpa using hu)⟩, by simpa using h2, fun i a u ha hu => h4 i a u ha (by simpa using hu)⟩
theorem Rps.agg {cs : List AV} {vs : Array Value} (h : Rps w S σ cs vs.toList) (h1 : ∀ u ∈ vs, u.oneCell' = true) : Rp w S σ (.agg cs) (.agg vs) :=
  .agg cs vs (by simpa using h.1) (fun i a v ha hv => h.2 i a v ha (by simpa using hv)) h1
theorem Rps.tup {cs : List AV} {vs : Array Value} (h : Rps w S σ cs vs.toList) : Rp w S σ (.tup cs) (.tuple vs) :=
  .tup cs vs (by simpa using h.1) (fun i a v ha hv => h.2 i a v ha (by simpa using hv))
end
/-- one cell's worth -/
def AV.one : AV → Bool
  | .any | .agg _ | .tup _ => false
  | _ => true
theorem Rp.one_cell {w : World} {S : Nat → Prop} {σ : Nat → Option Value} {a : AV} {v : Value} (h : Rp w S σ a v) (h1 : a.one = true) : v.oneCell' = true := by
  cases h with
  | data _ _ h => cases h with
    | p _ h => exact h
    | agg _ _ _ _ => cases h1
    | dsl => rfl
  | any | agg | tup => cases h1
  | dptr | ptr | eptr | osl | mp | fn => rfl
end Go.Proofs.Ytgkkilbeingleaa

/- The last step of every law: where the call returns true and turns nothing that was there, the row's claim is met. Nothing of the program is named here. -/
namespace Go.Proofs.Ytgkkilbeingleaa
open Go.ChangeShapes Go.WideShapes Go.ChangeAt Go.RowKit

theorem own : ownKnob Try.prog.godebug = none := by kernel_rfl
theorem laidOut : laidOutB Try.prog = true := by kernel_rfl

section
variable {H : Type} {enc : TypeId × Value → H} {P : Program}
theorem trodAll_stays (hl : laidOutB P = true) {W W' : World} {sp' : Nat → Bool} : ∀ {ts : List TypeId} {vs : List Value} {ds : List (DataW H)} {ps : List MemPlace},
    (ts.all fun t => P.readableRec t && decide (t < P.types.size)) = true → DataW.TrodAll enc P W 0 (fun _ => true) true ts vs ds ps → (∀ p ∈ ps, W.sameAt W' p) → (∀ p ∈ ps, sp' p.block = true) →
    DataW.TrodAll enc P W' 0 sp' true ts vs ds ps
  | [], vs, ds, ps, _, h, _, _ => by
    obtain ⟨rfl, rfl, rfl⟩ := trodAll_nil h
    exact trodAll_mk0
  | t :: ts, vs, ds, ps, hr, h, hs, hp => by
    obtain ⟨v, vs', d, ds', p, q, rfl, rfl, rfl, h0, h1⟩ := trodAll_cons h
    simp only [List.all_cons, Bool.and_eq_true, decide_eq_true_eq] at hr
    exact trodAll_cons_mk (WideElems.Trod_stays hl hr.1.1 hr.1.2 h0 (fun x hx => hs x (by simp [hx])) (fun x hx => hp x (by simp [hx])))
      (trodAll_stays hl (by simpa using hr.2) h1 (fun x hx => hs x (by simp [hx])) (fun x hx => hp x (by simp [hx])))

theorem post_true {f : Func} {s : ChangeSpec} {apart fresh handsOn again : Bool} {W W' : World} {args : Array Value} {ds gs : List (DataW H)} {before : List MemPlace} {tb : TypeId}
    (hrt : f.resultTypes = #[tb]) (hb : P.underlying tb = some .bool) (hvars : s.vars = []) (hl : laidOutB P = true)
    (hr : (f.params.toList.all fun t => P.readableRec t && decide (t < P.types.size)) = true)
    (hW : DataW.Whole enc P f.params.toList s.vars apart W args.toList ds gs before) (hfn : s.fn H (ds ++ gs) = { results := [.lit (.bool true)], args := ds })
    (hbelow : Below W.heap.size W W') : s.post enc P f apart fresh handsOn again W args (.bool true) W' := by
  have hW' := hW
  obtain ⟨p, q, hA, hV, rfl, hfz, hnd⟩ := hW
  rw [hvars] at hV
  obtain ⟨rfl, rfl⟩ := trodVars_none hV
  have hlt : ∀ x ∈ p ++ [], x.block < W.heap.size := fun x hx => hW'.lt x hx
  refine post_of_below (pa := p) (pv := []) hW' (fun b sp hd => ?_) (fun sp hsp => ?_) (fun sp _ => ?_) rfl hbelow (ok_one hrt rfl (okWide_bool_mk hb _))
  · rw [hfn, hrt]; exact trodAll_mk1 (shut_bool hb _)
  · rw [hfn]; exact trodAll_stays hl hr hA (fun x hx => hbelow.same (hlt x (by simp [hx]))) (fun x hx => hsp x (by simp [hx]))
  · rw [hfn, hvars]; exact rfl
end
end Go.Proofs.Ytgkkilbeingleaa

/- Small facts of use in many walks: returns, a string's iterator anywhere in memory, new cells. Nothing of the program is named here. -/
namespace Go.Proofs.Ytgkkilbeingleaa
open Go.RowKit

theorem ret_tup2 {k l : IntKind} {a b c d : Int} (h : a = b) (h' : c = d) : Ending.returned (.tuple #[.int k a, .int l c]) = .returned (.tuple #[.int k b, .int l d]) := by rw [h, h']
theorem ret_tup3 {k l m : IntKind} {a b c d e f : Int} (h : a = b) (h' : c = d) (h'' : e = f) : Ending.returned (.tuple #[.int k a, .int l c, .int m e]) = .returned (.tuple #[.int k b, .int l d, .int m f]) := by rw [h, h', h'']
theorem ret_bool {a b : Bool} (h : a = b) : Ending.returned (.bool a) = .returned (.bool b) := by rw [h]
theorem ret_int {k : IntKind} {a b : Int} (h : a = b) : Ending.returned (.int k a) = .returned (.int k b) := by rw [h]

theorem cells_new (w : World) (xs : List Value) (t : TypeId) : ∀ (j : Nat) (u : Value), xs[j]? = some u → (w.alloc (.cells xs.toArray t)).cell? (Addr.add ⟨w.heap.size, 0, none⟩ j) = some u := by
  intro j u hu
  have hb := (Blk.new w t xs.toArray).cell j
  have : Addr.add ⟨w.heap.size, 0, none⟩ j = ⟨w.heap.size, j, none⟩ := by
    unfold Addr.add; split
    · rename_i h; simp
    · simp
  rw [this, hb]; simpa using hu
theorem one3 (k1 k2 k3 : IntKind) (a b c : Int) : ∀ u ∈ [Value.int k1 a, .int k2 b, .int k3 c], u.oneCell' = true := by
  intro u hu; simp at hu; rcases hu with rfl | rfl | rfl <;> rfl
theorem own_ge {w : World} {base : Nat} {e : TypeId} {size n : Nat} {v : Value} {xs : List Value} (h : w.ownsRow base e size v n xs) : ∀ k, v.ownBlock = some k → base ≤ k := by
  intro k hk
  rcases h.2 with ⟨rfl, _⟩ | ⟨g, cap, cur, rfl, hg, _⟩
  · simp [Value.ownBlock] at hk
  · simp [Value.ownBlock] at hk; omega
theorem ownsRow_none (w : World) (base : Nat) (e : TypeId) (size : Nat) : w.ownsRow base e size (.slice none 0 0) 0 [] := ⟨by simp, .inl ⟨rfl, rfl⟩⟩

theorem own_drewN {w : World} {base : Nat} {e : TypeId} {size n : Nat} {v : Value} {xs : List Value} (h : w.ownsRow base e size v n xs) (k : Nat) : (w.drewN k).ownsRow base e size v n xs := h

/-- the iterator in block g moves to p -/
def setIter (w : World) (g : Nat) (s : ByteArray) (p : Nat) : World := { w with heap := w.heap.setIfInBounds g (.stringIter s p) }
section
variable {P : Program} {w : World} {g : Nat} {s : ByteArray} {p : Nat}
theorem run_next_at (ty : TypeId) (hg : w.heap[g]? = some (.stringIter s p)) (h : p < s.size) :
    (Instr.next (.pointer (some ⟨g, 0, none⟩)) true ty).run P w =
      .ok (.tuple #[.bool true, .int .i64 p, .int .i32 (Utf8.decode s p).1]) (setIter w g s (p + (Utf8.decode s p).2)) := by
  simp only [Instr.next, getObj, setObj, Sem.run_bind, Sem.run, hg, Result.andThen, h, if_true]
  simp [goInt, setIter]
theorem run_next_over (ty : TypeId) (hg : w.heap[g]? = some (.stringIter s p)) (h : ¬ p < s.size) :
    (Instr.next (.pointer (some ⟨g, 0, none⟩)) true ty).run P w = .ok (.tuple #[.bool false]) w := by
  simp [Instr.next, getObj, Sem.run, hg, h]
theorem setIter_get (q : Nat) (hg : w.heap[g]? = some (.stringIter s p)) : (setIter w g s q).heap[g]? = some (.stringIter s q) := by
  have : g < w.heap.size := (Array.getElem?_eq_some_iff.1 hg).1
  simp [setIter, this]
theorem setIter_size (q : Nat) : (setIter w g s q).heap.size = w.heap.size := by simp [setIter]
theorem setIter_far (q k : Nat) (h : k ≠ g) : (setIter w g s q).heap[k]? = w.heap[k]? := by
  simp [setIter, Array.getElem?_setIfInBounds]; intro e; exact absurd e.symm h
theorem below_setIter {B : Nat} {a : World} (h : Below B a w) (hB : B ≤ g) (q : Nat) : Below B a (setIter w g s q) :=
  h.trans ⟨rfl, rfl, rfl, by simp [setIter], fun k hk => setIter_far q k (by omega)⟩
theorem own_setIter {base : Nat} {e : TypeId} {size n : Nat} {v : Value} {xs : List Value} (h : w.ownsRow base e size v n xs) (hg : w.heap[g]? = some (.stringIter s p)) (q : Nat) :
    (setIter w g s q).ownsRow base e size v n xs := by
  refine ⟨h.1, ?_⟩
  rcases h.2 with h2 | ⟨g', cap, cur, hv, hb, hh, hr⟩
  · exact .inl h2
  · refine .inr ⟨g', cap, cur, hv, hb, ?_, hr⟩
    rw [setIter_far]
    · exact hh
    · rintro rfl; rw [hh] at hg; cases hg
theorem own_ne_iter {base : Nat} {e : TypeId} {size n : Nat} {v : Value} {xs : List Value} (h : w.ownsRow base e size v n xs) (hg : w.heap[g]? = some (.stringIter s p)) : some g ≠ v.ownBlock := by
  rcases h.2 with ⟨rfl, _⟩ | ⟨g', cap, cur, rfl, _, hh, _⟩
  · simp [Value.ownBlock]
  · intro he
    have : g = g' := by simpa [Value.ownBlock] using he
    subst this; rw [hh] at hg; cases hg
theorem iter_new (w : World) (s : ByteArray) (p : Nat) : (w.iter s p).heap[w.heap.size]? = some (.stringIter s p) := World.iter_heap w s p
theorem below_iter {B : Nat} {a : World} (h : Below B a w) (hB : B ≤ w.heap.size) (s : ByteArray) (q : Nat) : Below B a (w.iter s q) := h.alloc hB _
end

/-- two drawn strings -/
theorem decode_width (s : ByteArray) (a : Nat) (ha : a < s.size) : 1 ≤ (Utf8.decode s a).2 ∧ a + (Utf8.decode s a).2 ≤ s.size := by
  simp only [Utf8.decode]
  repeat' split
  all_goals (first | (constructor <;> simp_all <;> omega) | (simp_all; omega) | skip)
end Go.Proofs.Ytgkkilbeingleaa

/- Rows of structs of three integers: elements read, rows kept. Nothing of the program is named here. -/
namespace Go.Proofs.Ytgkkilbeingleaa
open Go.RowKit

/-- the cells of rows of three integers -/
def unitCells (l : List (Int × Int × Int)) : List Value := l.flatMap fun u => [.int .i64 u.1, .int .i64 u.2.1, .int .i64 u.2.2]
theorem unitCells_len (l : List (Int × Int × Int)) : (unitCells l).length = l.length * 3 := by
  induction l with
  | nil => rfl
  | cons u l ih =>
    have e : unitCells (u :: l) = [.int .i64 u.1, .int .i64 u.2.1, .int .i64 u.2.2] ++ unitCells l := rfl
    rw [e, List.length_append, ih]; simp; omega
theorem unitCells_get (l : List (Int × Int × Int)) (k : Nat) (hk : k < l.length) :
    (unitCells l)[k * 3]? = some (.int .i64 (l[k]'hk).1) ∧ (unitCells l)[k * 3 + 1]? = some (.int .i64 (l[k]'hk).2.1) ∧ (unitCells l)[k * 3 + 2]? = some (.int .i64 (l[k]'hk).2.2) := by
  induction l generalizing k with
  | nil => simp at hk
  | cons u l ih =>
    match k with
    | 0 => simp [unitCells]
    | k + 1 =>
      have h := ih k (by simpa using hk)
      have e : unitCells (u :: l) = [.int .i64 u.1, .int .i64 u.2.1, .int .i64 u.2.2] ++ unitCells l := rfl
      rw [e]
      have q : ∀ j, ([Value.int .i64 u.1, .int .i64 u.2.1, .int .i64 u.2.2] ++ unitCells l)[(k + 1) * 3 + j]? = (unitCells l)[k * 3 + j]? := by
        intro j
        rw [List.getElem?_append_right (by simp; omega)]
        congr 1; simp; omega
      have q0 := q 0; simp only [Nat.add_zero] at q0
      rw [q0, q 1, q 2]
      exact h
/-- an element of an owned row -/
theorem row3_at {w : World} {B e n c k : Nat} {A : Option Addr} {l : List (Int × Int × Int)} (h : w.ownsRow B e 3 (.slice A n c) l.length (unitCells l)) (hk : k < l.length) :
    ∃ g, A = some ⟨g, 0, none⟩ ∧ n = l.length ∧ B ≤ g ∧ g < w.heap.size ∧ w.cell? ⟨g, k * 3, none⟩ = some (.int .i64 (l[k]'hk).1) ∧ w.cell? ⟨g, k * 3 + 1, none⟩ = some (.int .i64 (l[k]'hk).2.1) ∧ w.cell? ⟨g, k * 3 + 2, none⟩ = some (.int .i64 (l[k]'hk).2.2) := by
  rcases h.2 with ⟨_, h0⟩ | ⟨g, cap, cur, hv, hB, hh, hn, hc, hs, ht⟩
  · omega
  · simp only [Value.slice.injEq] at hv
    obtain ⟨rfl, rfl, rfl⟩ := hv
    obtain ⟨u0, u1, u2⟩ := unitCells_get l k hk
    have hb : Blk w g e cur := hh
    have get : ∀ j v, (unitCells l)[j]? = some v → w.cell? ⟨g, j, none⟩ = some v := by
      intro j v hj
      rw [hb.cell]
      rw [← ht] at hj
      rw [List.getElem?_take] at hj
      split at hj
      · rw [← hj, Array.getElem?_toList]
      · cases hj
    exact ⟨g, rfl, rfl, hB, hb.lt, get _ _ u0, get _ _ u1, get _ _ u2⟩
theorem own_slice {w : World} {B e s n : Nat} {v : Value} {xs : List Value} (h : w.ownsRow B e s v n xs) : ∃ A c, v = .slice A n c := by
  rcases h.2 with ⟨hv, h0⟩ | ⟨g, cap, cur, hv, _⟩
  · exact ⟨none, 0, by rw [hv, h0]⟩
  · exact ⟨_, _, hv⟩
/-- a row of another type is kept -/
theorem own_others {w w' : World} {B e e' b s n : Nat} {v : Value} {xs : List Value} (h : w.ownsRow B e s v n xs) (hk : Lib.OthersKept e' (some b) w w') (hne : e ≠ e') (hb : v.ownBlock ≠ some b) : w'.ownsRow B e s v n xs := by
  refine ⟨h.1, ?_⟩
  rcases h.2 with h2 | ⟨g, cap, cur, hv, hB, hh, hr⟩
  · exact .inl h2
  · exact .inr ⟨g, cap, cur, hv, hB, hk g _ hh (by rw [hv] at hb; simpa [Value.ownBlock] using hb) (by intro c fz hc; simp only [Obj.cells.injEq] at hc; exact hne hc.2.1), hr⟩
theorem own_below {w w' : World} {B e s n K : Nat} {v : Value} {xs : List Value} (h : w.ownsRow B e s v n xs) (hb : Below K w w') (hlt : ∀ g, v.ownBlock = some g → g < K) : w'.ownsRow B e s v n xs := by
  refine ⟨h.1, ?_⟩
  rcases h.2 with h2 | ⟨g, cap, cur, hv, hB, hh, hr⟩
  · exact .inl h2
  · exact .inr ⟨g, cap, cur, hv, hB, (hb.block g (hlt g (by rw [hv]; rfl))).trans hh, hr⟩
theorem own_lt {w : World} {B e s n : Nat} {v : Value} {xs : List Value} (h : w.ownsRow B e s v n xs) : ∀ g, v.ownBlock = some g → g < w.heap.size := by
  intro g hg
  rcases h.2 with ⟨rfl, _⟩ | ⟨g', cap, cur, rfl, _, hh, _⟩
  · simp [Value.ownBlock] at hg
  · simp [Value.ownBlock] at hg; subst hg; exact (Array.getElem?_eq_some_iff.1 hh).1
theorem own_below_all {w w' : World} {B e s n : Nat} {v : Value} {xs : List Value} (h : w.ownsRow B e s v n xs) (hb : Below w.heap.size w w') : w'.ownsRow B e s v n xs :=
  own_below h hb (own_lt h)
theorem unitCells_append (l r : List (Int × Int × Int)) : unitCells (l ++ r) = unitCells l ++ unitCells r := by simp [unitCells]
theorem unitCells_set (o : List (Int × Int × Int)) (a b c x : Int) : (unitCells (o ++ [(a, b, c)])).set (o.length * 3 + 2) (.int .i64 x) = unitCells (o ++ [(a, b, x)]) := by
  rw [unitCells_append, unitCells_append, List.set_append, if_neg (by rw [unitCells_len]; omega)]
  congr 1
  rw [unitCells_len]
  have : o.length * 3 + 2 - o.length * 3 = 2 := by omega
  rw [this]; rfl
/-- rows of two types lie in two blocks -/
theorem own_ne {w : World} {B B' e e' s s' n n' g g' c c' : Nat} {xs xs' : List Value} (h : w.ownsRow B e s (.slice (some ⟨g, 0, none⟩) n c) n xs) (h' : w.ownsRow B' e' s' (.slice (some ⟨g', 0, none⟩) n' c') n' xs') (hne : e ≠ e') : g ≠ g' := by
  rintro rfl
  obtain ⟨c1, f1, h1⟩ := (show ∃ c fz, w.heap[g]? = some (.cells c e fz) from by
    rcases h.2 with ⟨hv, _⟩ | ⟨g1, cap, cur, hv, _, hh, _⟩
    · simp at hv
    · simp only [Value.slice.injEq, Option.some.injEq, Addr.mk.injEq] at hv; obtain ⟨⟨rfl, _⟩, _⟩ := hv; exact ⟨_, _, hh⟩)
  obtain ⟨c2, f2, h2⟩ := (show ∃ c fz, w.heap[g]? = some (.cells c e' fz) from by
    rcases h'.2 with ⟨hv, _⟩ | ⟨g1, cap, cur, hv, _, hh, _⟩
    · simp at hv
    · simp only [Value.slice.injEq, Option.some.injEq, Addr.mk.injEq] at hv; obtain ⟨⟨rfl, _⟩, _⟩ := hv; exact ⟨_, _, hh⟩)
  rw [h1] at h2; simp only [Option.some.injEq, Obj.cells.injEq] at h2; exact hne h2.2.1
end Go.Proofs.Ytgkkilbeingleaa

/- Readings: what a list of cells stands for: integers, bools, texts, slices of these, one in the other; kept by whatever leaves their blocks alone. Nothing of the program is named here. -/
namespace Go.Proofs.Ytgkkilbeingleaa
open Go.RowKit

/-- what cells stand for; S: the blocks that are read -/
structure Rep (α : Type) where
  size : Nat
  bulk : α → Nat
  R : World → (Nat → Prop) → List Value → α → Prop
  len : ∀ {w S cs x}, R w S cs x → cs.length = size
  one : ∀ {w S cs x}, R w S cs x → ∀ u ∈ cs, u.oneCell' = true
  keep : ∀ {w w' : World} {S cs x}, R w S cs x → (∀ p : Addr, S p.block → w'.cell? p = w.cell? p) → R w' S cs x
  more : ∀ {w : World} {S S' : Nat → Prop} {cs x}, R w S cs x → (∀ b, S b → S' b) → R w S' cs x

def I64 (x : Int) : Prop := -9223372036854775808 ≤ x ∧ x ≤ 9223372036854775807
theorem i64_of {x : Int} (h : -9223372036854775808 ≤ x) (h' : x ≤ 9223372036854775807) : I64 x := ⟨h, h'⟩
theorem I64.lo {x : Int} (h : I64 x) : -9223372036854775808 ≤ x := h.1
theorem I64.hi {x : Int} (h : I64 x) : x ≤ 9223372036854775807 := h.2
theorem I64.wf {x : Int} (h : I64 x) : (Lit.int .i64 x).wf = true := WalkArith.wf_i64 ⟨h.1, h.2⟩

def rInt : Rep Int where
  size := 1
  bulk _ := 1
  R _ _ cs x := cs = [.int .i64 x] ∧ I64 x
  len h := by rw [h.1]; rfl
  one h := by rw [h.1]; intro u hu; simp at hu; subst hu; rfl
  keep h _ := h
  more h _ := h
def rBool : Rep Bool where
  size := 1
  bulk _ := 1
  R _ _ cs x := cs = [.bool x]
  len h := by rw [h]; rfl
  one h := by rw [h]; intro u hu; simp at hu; subst hu; rfl
  keep h _ := h
  more h _ := h
def rStr : Rep ByteArray where
  size := 1
  bulk s := s.size + 1
  R _ _ cs x := cs = [.string x] ∧ x.size ≤ maxLen
  len h := by rw [h.1]; rfl
  one h := by rw [h.1]; intro u hu; simp at hu; subst hu; rfl
  keep h _ := h
  more h _ := h

section
variable {α : Type} {ρ : Rep α} {w w' : World} {S S' : Nat → Prop} {A : Option Addr} {c : Nat} {xs : List α}

/-- a slice's elements -/
def Sl (ρ : Rep α) (w : World) (S : Nat → Prop) (A : Option Addr) (c : Nat) (xs : List α) : Prop :=
  xs.length ≤ c ∧ c ≤ maxLen ∧ ∀ i x, xs[i]? = some x → ∃ ad u, A = some ad ∧ S ad.block ∧ ρ.R w S u x ∧ ∀ j z, u[j]? = some z → w.cell? (ad.add (i * ρ.size + j)) = some z

theorem Sl.keep (h : Sl ρ w S A c xs) (hk : ∀ p : Addr, S p.block → w'.cell? p = w.cell? p) : Sl ρ w' S A c xs :=
  ⟨h.1, h.2.1, fun i x hx => by
    obtain ⟨ad, u, e, hs, hr, hc⟩ := h.2.2 i x hx
    exact ⟨ad, u, e, hs, ρ.keep hr hk, fun j z hz => (hk _ (by rw [block_of_add]; exact hs)).trans (hc j z hz)⟩⟩
theorem Sl.more (h : Sl ρ w S A c xs) (hm : ∀ b, S b → S' b) : Sl ρ w S' A c xs :=
  ⟨h.1, h.2.1, fun i x hx => by
    obtain ⟨ad, u, e, hs, hr, hc⟩ := h.2.2 i x hx
    exact ⟨ad, u, e, hm _ hs, ρ.more hr hm, hc⟩⟩
theorem Sl.below (h : Sl ρ w S A c xs) (hS : ∀ b, S b → b < w.heap.size) (hb : Below w.heap.size w w') : Sl ρ w' S A c xs := h.keep fun p hp => hb.cell (hS _ hp)
theorem in_below (hS : ∀ b, S b → b < w.heap.size) (hb : Below w.heap.size w w') : ∀ b, S b → b < w'.heap.size := fun b h => Nat.lt_of_lt_of_le (hS b h) hb.size
theorem Sl.nil_ : Sl ρ w S none 0 [] := ⟨by simp, by simp [maxLen], by simp⟩
theorem Sl.le (h : Sl ρ w S A c xs) : xs.length ≤ c := h.1
theorem Sl.max (h : Sl ρ w S A c xs) : c ≤ maxLen := h.2.1
theorem Sl.at_ (h : Sl ρ w S A c xs) {k : Nat} (hk : k < xs.length) : ∃ ad u, A = some ad ∧ S ad.block ∧ ρ.R w S u (xs[k]'hk) ∧ ∀ j z, u[j]? = some z → w.cell? (ad.add (k * ρ.size + j)) = some z :=
  h.2.2 k _ (List.getElem?_eq_getElem hk)
/-- an element of several cells, as the walk spells them -/
theorem Sl.fields (h : Sl ρ w S A c xs) {k : Nat} (hk : k < xs.length) : ∃ ad u, A = some ad ∧ S ad.block ∧ ρ.R w S u (xs[k]'hk) ∧ (∀ z, u[0]? = some z → w.cell? (ad.add (k * ρ.size)) = some z) ∧
    ∀ j z, u[j + 1]? = some z → w.cell? ⟨(ad.add (k * ρ.size)).block, (ad.add (k * ρ.size)).off + (j + 1), none⟩ = some z := by
  obtain ⟨ad, u, e, hs, hr, hc⟩ := h.at_ hk
  refine ⟨ad, u, e, hs, hr, fun z hz => hc 0 z hz, fun j z hz => ?_⟩
  have := hc (j + 1) z hz
  rw [← add_of_add] at this
  exact this
/-- s[k:] -/
theorem Sl.cut (h : Sl ρ w S A c xs) (k : Nat) : Sl ρ w S (if c = k then A else A.map (·.add (k * ρ.size))) (c - k) (xs.drop k) := by
  obtain ⟨h1, h2, h3⟩ := h
  refine ⟨by rw [List.length_drop]; omega, by omega, fun i x hx => ?_⟩
  rw [List.getElem?_drop] at hx
  have hlt : k + i < xs.length := (List.getElem?_eq_some_iff.1 hx).1
  obtain ⟨ad, u, e, hs, hr, hc⟩ := h3 (k + i) x hx
  rw [if_neg (by omega), e]
  refine ⟨_, u, rfl, by rw [block_of_add]; exact hs, hr, fun j z hz => ?_⟩
  rw [add_of_add]
  have := hc j z hz
  rwa [show k * ρ.size + (i * ρ.size + j) = (k + i) * ρ.size + j from by rw [Nat.add_mul]; omega]
/-- s[:k] -/
theorem Sl.top (h : Sl ρ w S A c xs) (k : Nat) : Sl ρ w S A c (xs.take k) := by
  obtain ⟨h1, h2, h3⟩ := h
  refine ⟨by rw [List.length_take]; omega, h2, fun i x hx => h3 i x ?_⟩
  rw [List.getElem?_take] at hx
  split at hx
  · exact hx
  · cases hx

def rList (ρ : Rep α) : Rep (List α) where
  size := 1
  bulk xs := (xs.map ρ.bulk).sum + 1
  R w S cs xs := ∃ A c, cs = [.slice A xs.length c] ∧ Sl ρ w S A c xs
  len := fun ⟨_, _, e, _⟩ => by rw [e]; rfl
  one := fun ⟨_, _, e, _⟩ => by rw [e]; intro u hu; simp at hu; subst hu; rfl
  keep := fun ⟨A, c, e, h⟩ hk => ⟨A, c, e, h.keep hk⟩
  more := fun ⟨A, c, e, h⟩ hm => ⟨A, c, e, h.more hm⟩

/-- cells that stand for a list, one behind the other -/
def Elems (ρ : Rep α) (w : World) (S : Nat → Prop) (cs : List Value) (xs : List α) : Prop :=
  cs.length = xs.length * ρ.size ∧ (∀ u ∈ cs, u.oneCell' = true) ∧ ∀ i x, xs[i]? = some x → ∃ u, ρ.R w S u x ∧ ∀ j z, u[j]? = some z → cs[i * ρ.size + j]? = some z
theorem Elems.nil_ : Elems ρ w S [] [] := ⟨by simp, by simp, by simp⟩
theorem Elems.keep {cs : List Value} (h : Elems ρ w S cs xs) (hk : ∀ p : Addr, S p.block → w'.cell? p = w.cell? p) : Elems ρ w' S cs xs :=
  ⟨h.1, h.2.1, fun i x hx => by obtain ⟨u, hr, hc⟩ := h.2.2 i x hx; exact ⟨u, ρ.keep hr hk, hc⟩⟩
theorem Elems.more {cs : List Value} (h : Elems ρ w S cs xs) (hm : ∀ b, S b → S' b) : Elems ρ w S' cs xs :=
  ⟨h.1, h.2.1, fun i x hx => by obtain ⟨u, hr, hc⟩ := h.2.2 i x hx; exact ⟨u, ρ.more hr hm, hc⟩⟩
theorem Elems.below_ {cs : List Value} (h : Elems ρ w S cs xs) (hS : ∀ b, S b → b < w.heap.size) (hb : Below w.heap.size w w') : Elems ρ w' S cs xs := h.keep fun p hp => hb.cell (hS _ hp)
theorem Elems.app {cs ds : List Value} {ys : List α} (h : Elems ρ w S cs xs) (h' : Elems ρ w S ds ys) : Elems ρ w S (cs ++ ds) (xs ++ ys) := by
  obtain ⟨h1, h2, h3⟩ := h
  obtain ⟨g1, g2, g3⟩ := h'
  refine ⟨by rw [List.length_append, List.length_append, h1, g1, Nat.add_mul], fun u hu => ?_, fun i x hx => ?_⟩
  · rcases List.mem_append.1 hu with hu | hu
    · exact h2 u hu
    · exact g2 u hu
  · by_cases hi : i < xs.length
    · rw [List.getElem?_append_left hi] at hx
      obtain ⟨u, hr, hc⟩ := h3 i x hx
      refine ⟨u, hr, fun j z hz => ?_⟩
      have := hc j z hz
      rw [List.getElem?_append_left (List.getElem?_eq_some_iff.1 this).1]; exact this
    · rw [List.getElem?_append_right (by omega)] at hx
      obtain ⟨u, hr, hc⟩ := g3 _ x hx
      refine ⟨u, hr, fun j z hz => ?_⟩
      have := hc j z hz
      have he : i * ρ.size = (i - xs.length) * ρ.size + cs.length := by rw [h1, ← Nat.add_mul]; congr 1; omega
      rw [he, List.getElem?_append_right (by omega), ← this]
      congr 1; omega
theorem Elems.single {u : List Value} {x : α} (h : ρ.R w S u x) : Elems ρ w S u [x] :=
  ⟨by rw [ρ.len h]; simp, ρ.one h, fun i y hy => by
    have : i = 0 := by have := (List.getElem?_eq_some_iff.1 hy).1; simpa using this
    subst this
    simp at hy; subst hy
    exact ⟨u, h, fun j z hz => by simpa using hz⟩⟩
theorem Elems.snoc {cs u : List Value} {x : α} (h : Elems ρ w S cs xs) (hu : ρ.R w S u x) : Elems ρ w S (cs ++ u) (xs ++ [x]) := h.app (.single hu)
/-- a row of the call's own stands for a list -/
theorem Sl.of_own {base : Nat} {e : TypeId} {cs : List Value} (h : w.ownsRow base e (ρ.size) (.slice A xs.length c) xs.length cs) (he : Elems ρ w S cs xs) (hS : ∀ g, (Value.slice A xs.length c).ownBlock = some g → S g) : Sl ρ w S A c xs := by
  obtain ⟨h1, h2⟩ := h
  rcases h2 with ⟨hv, h0⟩ | ⟨g, cap, cur, hv, hB, hh, hn, hc, hs, ht⟩
  · have : xs = [] := List.eq_nil_of_length_eq_zero h0
    subst this
    simp only [Value.slice.injEq] at hv
    obtain ⟨rfl, _, rfl⟩ := hv
    exact Sl.nil_
  · simp only [Value.slice.injEq] at hv
    obtain ⟨rfl, _, rfl⟩ := hv
    refine ⟨hn, hc, fun i x hx => ?_⟩
    obtain ⟨u, hr, hcs⟩ := he.2.2 i x hx
    refine ⟨_, u, rfl, hS g rfl, hr, fun j z hz => ?_⟩
    have hz2 := hcs j z hz
    have hb : Blk w g e cur := hh
    have e1 : Addr.add ⟨g, 0, none⟩ (i * ρ.size + j) = ⟨g, i * ρ.size + j, none⟩ := by
      unfold Addr.add; split
      · rename_i h; rw [h]
      · simp
    rw [e1, hb.cell]
    rw [← ht, List.getElem?_take] at hz2
    split at hz2
    · rw [← hz2, Array.getElem?_toList]
    · cases hz2
/-- the cells of a slice, for an append -/
theorem Sl.flat (h : Sl ρ w S A c xs) : ∃ cs, Elems ρ w S cs xs ∧ ∀ ad, A = some ad → ∀ j z, cs[j]? = some z → w.cell? (ad.add j) = some z := by
  obtain ⟨_, _, h3⟩ := h
  have key : ∀ n, n ≤ xs.length → ∃ cs, Elems ρ w S cs (xs.take n) ∧ ∀ ad, A = some ad → ∀ j z, cs[j]? = some z → w.cell? (ad.add j) = some z := by
    intro n
    induction n with
    | zero => intro _; exact ⟨[], by simpa using Elems.nil_, by simp⟩
    | succ n ih =>
      intro hn
      obtain ⟨cs, he, hc⟩ := ih (by omega)
      obtain ⟨ad, u, ea, hs, hr, hu⟩ := h3 n _ (List.getElem?_eq_getElem (by omega))
      refine ⟨cs ++ u, ?_, fun ad' ea' j z hz => ?_⟩
      · rw [List.take_succ_eq_append_getElem (by omega)]
        exact he.snoc hr
      · rw [ea] at ea'; injection ea' with ea'; subst ea'
        by_cases hj : j < cs.length
        · rw [List.getElem?_append_left hj] at hz
          exact hc _ ea j z hz
        · rw [List.getElem?_append_right (by omega)] at hz
          have := hu _ z hz
          rwa [show n * ρ.size + (j - cs.length) = j from by have := he.1; rw [List.length_take, Nat.min_eq_left (by omega)] at this; omega] at this
  obtain ⟨cs, he, hc⟩ := key xs.length (Nat.le_refl _)
  exact ⟨cs, by simpa using he, hc⟩
theorem Sl.reads (h : Sl ρ w S A c xs) {B : Nat} (hB : ∀ b, S b → b < B) : ∃ cs, Elems ρ w S cs xs ∧ Reads w B (ρ.size) A xs.length cs := by
  obtain ⟨cs, he, hc⟩ := h.flat
  refine ⟨cs, he, he.1, fun hn => ?_⟩
  obtain ⟨ad, u, ea, hs, _, _⟩ := h.at_ hn
  exact ⟨ad, ea, hB _ hs, hc ad ea⟩
end

/-- two things side by side -/
def rPair {α β : Type} (ρ : Rep α) (σ : Rep β) : Rep (α × β) where
  size := ρ.size + σ.size
  bulk x := ρ.bulk x.1 + σ.bulk x.2
  R w S cs x := ∃ c d, cs = c ++ d ∧ ρ.R w S c x.1 ∧ σ.R w S d x.2
  len := fun ⟨c, d, e, h, h'⟩ => by rw [e, List.length_append, ρ.len h, σ.len h']
  one := fun ⟨c, d, e, h, h'⟩ => by
    rw [e]; intro u hu
    rcases List.mem_append.1 hu with hu | hu
    · exact ρ.one h u hu
    · exact σ.one h' u hu
  keep := fun ⟨c, d, e, h, h'⟩ hk => ⟨c, d, e, ρ.keep h hk, σ.keep h' hk⟩
  more := fun ⟨c, d, e, h, h'⟩ hm => ⟨c, d, e, ρ.more h hm, σ.more h' hm⟩

/-- integers -/
def ints (xs : List Int) : List Value := xs.map (Value.int .i64)
theorem elems_ints {w : World} {S : Nat → Prop} {xs : List Int} (h : ∀ x ∈ xs, I64 x) : Elems rInt w S (ints xs) xs := by
  refine ⟨by simp [ints, rInt], fun u hu => ?_, fun i x hx => ?_⟩
  · simp [ints] at hu; obtain ⟨x, _, rfl⟩ := hu; rfl
  · refine ⟨[.int .i64 x], ⟨rfl, h x (List.mem_of_getElem? hx)⟩, fun j z hz => ?_⟩
    have : j = 0 := by have := (List.getElem?_eq_some_iff.1 hz).1; simpa using this
    subst this
    simp at hz; subst hz
    simp [ints, rInt, hx]
theorem ints_of_elems {w : World} {S : Nat → Prop} {cs : List Value} {xs : List Int} (h : Elems rInt w S cs xs) : cs = ints xs ∧ ∀ x ∈ xs, I64 x := by
  obtain ⟨h1, _, h3⟩ := h
  have hs : rInt.size = 1 := rfl
  simp only [hs, Nat.mul_one] at h1 h3
  refine ⟨List.ext_getElem? fun i => ?_, fun x hx => ?_⟩
  · by_cases hi : i < xs.length
    · obtain ⟨u, ⟨rfl, _⟩, hc⟩ := h3 i _ (List.getElem?_eq_getElem hi)
      have := hc 0 _ rfl
      rw [Nat.add_zero] at this
      rw [this]; simp [ints, hi]
    · rw [List.getElem?_eq_none (by omega), List.getElem?_eq_none (by simp [ints]; omega)]
  · obtain ⟨i, hi⟩ := List.getElem?_of_mem hx
    obtain ⟨u, ⟨_, h⟩, _⟩ := h3 i x hi
    exact h
theorem Sl.int_at {w : World} {S : Nat → Prop} {A : Option Addr} {c : Nat} {xs : List Int} (h : Sl rInt w S A c xs) {k : Nat} (hk : k < xs.length) : ∃ ad, A = some ad ∧ S ad.block ∧ I64 (xs[k]'hk) ∧ w.cell? (ad.add k) = some (.int .i64 (xs[k]'hk)) := by
  obtain ⟨ad, u, e, hs, ⟨rfl, hi⟩, hc⟩ := h.at_ hk
  have := hc 0 _ rfl
  exact ⟨ad, e, hs, hi, by simpa [rInt] using this⟩
theorem Sl.int_reads {w : World} {S : Nat → Prop} {A : Option Addr} {c : Nat} {xs : List Int} (h : Sl rInt w S A c xs) {B : Nat} (hB : ∀ b, S b → b < B) : Reads w B 1 A xs.length (ints xs) := by
  obtain ⟨cs, he, hr⟩ := h.reads hB
  rw [(ints_of_elems he).1] at hr; exact hr
theorem Sl.int_mem {w : World} {S : Nat → Prop} {A : Option Addr} {c : Nat} {xs : List Int} (h : Sl rInt w S A c xs) : ∀ x ∈ xs, I64 x := by
  obtain ⟨cs, he, _⟩ := h.flat
  exact (ints_of_elems he).2
/-- what lies below -/
theorem keep_below {w w' : World} {B : Nat} (h : Below B w w') : ∀ p : Addr, p.block < B → w'.cell? p = w.cell? p := fun _ hp => h.cell hp
end Go.Proofs.Ytgkkilbeingleaa
