/- Texts that the proof rests on, part 1: what each holds stands at its head. -/
import Derived.Test.YtgkkilbeingleaaRows
import Derived.WalkKit
import Derived.WalkSpells
import Derived.WalkLawsBesides
import Derived.ProofKit
import Derived.Lib.Hide
import Derived.Below
import Derived.Carry
import Derived.Laws.OwnMore
import Derived.Laws.Rows
import Derived.Laws.MakeOwn
import Derived.Laws.Entries
import Derived.Laws.AppendOwn
import Derived.Deep.AppendLies
import Derived.Deep.Draws
import Derived.Deep.Slices
import Derived.Deep.Fields
import Derived.Deep.OwnRows
import Derived.Deep.QuietTactic
import Derived.Deep.RegionWith
import Derived.BigQuiet
import Derived.Maps.AppendAt
import Derived.RegionTactic
import Derived.OwnWalk
import Derived.ChangeSame
import Derived.Lib.SmallJoins
import Derived.OpenShut
import Derived.JoinedCond
import Derived.LaidEqlPtr
import Derived.Laws.BitsAllLaws
import Derived.Laws.BitsLemmas
import Derived.Deep.DeepFit
import Derived.Outline
import Derived.Lib.OthersKept
import Derived.Maps.OwnOps
import Derived.Maps.Views
import Derived.Maps.RangeWalk
import Derived.DeepKeys4

/- Words for memory, general lemmas that every text of this seat uses: slices that read as lists, blocks known whole, appends onto rows of the call's own, the last step of a row. Nothing of the program is named here. -/
namespace Go.Proofs.Ytgkkilbeingleaa
section words
open Go.RowKit
theorem block_of_add (a : Addr) (n : Nat) : (a.add n).block = a.block := by unfold Addr.add; split <;> rfl
theorem add_of_add (a : Addr) (i j : Nat) : (a.add i).add j = a.add (i + j) := by
  unfold Addr.add
  by_cases hi : i = 0 <;> by_cases hj : j = 0 <;> simp [hi, hj, Nat.add_assoc]

def Reads (w : World) (B size : Nat) (A : Option Addr) (n : Nat) (xs : List Value) : Prop :=
  xs.length = n * size ∧ (0 < n → ∃ ad, A = some ad ∧ ad.block < B ∧ ∀ j u, xs[j]? = some u → w.cell? (ad.add j) = some u)

section
variable {w w' : World} {B B' size n : Nat} {A : Option Addr} {xs : List Value}
theorem Reads.at_ {k : Nat} (h : Reads w B 1 A n xs) (hk : k < n) : ∃ ad u, A = some ad ∧ ad.block < B ∧ xs[k]? = some u ∧ w.cell? (ad.add k) = some u := by
  obtain ⟨ad, e, hb, hc⟩ := h.2 (by omega)
  have hl : k < xs.length := by have := h.1; omega
  exact ⟨ad, xs[k], e, hb, List.getElem?_eq_getElem hl, hc k _ (List.getElem?_eq_getElem hl)⟩
theorem Reads.keep (h : Reads w B size A n xs) (hk : ∀ p : Addr, p.block < B → w'.cell? p = w.cell? p) : Reads w' B size A n xs :=
  ⟨h.1, fun hn => by
    obtain ⟨ad, e, hb, hc⟩ := h.2 hn
    exact ⟨ad, e, hb, fun j u hu => (hk _ (by rw [block_of_add]; exact hb)).trans (hc j u hu)⟩⟩
theorem Reads.more (h : Reads w B size A n xs) (hB : B ≤ B') : Reads w B' size A n xs :=
  ⟨h.1, fun hn => by
    obtain ⟨ad, e, hb, hc⟩ := h.2 hn
    exact ⟨ad, e, by omega, hc⟩⟩
theorem Reads.below (h : Reads w B size A n xs) (hb : Below B w w') : Reads w' B size A n xs := h.keep fun _ hp => hb.cell hp
theorem Reads.drew (h : Reads w B size A n xs) : Reads w.drew B size A n xs := h
theorem Reads.drewN (h : Reads w B size A n xs) (k : Nat) : Reads (w.drewN k) B size A n xs := h
theorem Reads.alloc (h : Reads w B size A n xs) (hB : B ≤ w.heap.size) (o : Obj) : Reads (w.alloc o) B size A n xs := h.keep fun p hp => World.cell?_alloc_lt w o p (by omega)
theorem Reads.setCell (h : Reads w B size A n xs) {p : Addr} (hB : B ≤ p.block) (u : Value) : Reads (w.setCell p u) B size A n xs :=
  h.keep fun q hq => World.cell?_setCell_other w p q u (fun e => by subst e; omega)
theorem Reads.grown (h : Reads w B size A n xs) {row : Option Nat} (hg : w.grownBy w' row) (hB : B ≤ w.heap.size) (hr : ∀ g, row = some g → B ≤ g) : Reads w' B size A n xs :=
  h.keep fun p hp => World.cell?_of_block (hg.block p.block (by omega) (fun e => by have := hr _ e.symm; omega))
theorem Reads.cut (h : Reads w B size A n xs) {k cap : Nat} (hk : k ≤ n) (hc : n ≤ cap) :
    Reads w B size (if cap = k then A else A.map (·.add (k * size))) (n - k) (xs.drop (k * size)) := by
  refine ⟨by rw [List.length_drop, h.1, Nat.sub_mul], fun hn => ?_⟩
  obtain ⟨ad, rfl, hb, hcell⟩ := h.2 (by omega)
  rw [if_neg (by omega)]
  refine ⟨ad.add (k * size), rfl, by rw [block_of_add]; exact hb, fun j u hu => ?_⟩
  rw [add_of_add]
  exact hcell _ u (by rw [← hu, List.getElem?_drop])
end
def Blk (w : World) (g : Nat) (t : TypeId) (cs : Array Value) : Prop := w.heap[g]? = some (.cells cs t (0, 0))

section
variable {w w' : World} {g : Nat} {t : TypeId} {cs : Array Value}
theorem Blk.lt (h : Blk w g t cs) : g < w.heap.size := by
  rcases Nat.lt_or_ge g w.heap.size with hlt | hge
  · exact hlt
  · unfold Blk at h; rw [Array.getElem?_eq_none hge] at h; cases h
theorem Blk.cell (h : Blk w g t cs) (i : Nat) : w.cell? ⟨g, i, none⟩ = cs[i]? := cell_of_row w g i cs t (0, 0) h
theorem Blk.frozen (h : Blk w g t cs) (i : Nat) : w.frozen? ⟨g, i, none⟩ = false := by
  unfold Blk at h
  simp [World.frozen?, h]
theorem Blk.new (w : World) (t : TypeId) (cs : Array Value) : Blk (w.alloc (.cells cs t)) w.heap.size t cs := heap_alloc_new w _
theorem Blk.drew (h : Blk w g t cs) : Blk w.drew g t cs := h
theorem Blk.drewN (h : Blk w g t cs) (n : Nat) : Blk (w.drewN n) g t cs := h
theorem Blk.alloc (h : Blk w g t cs) (o : Obj) : Blk (w.alloc o) g t cs := (Below.heap_alloc w o g h.lt).trans h
theorem Blk.far (h : Blk w g t cs) {p : Addr} (hp : g ≠ p.block) (u : Value) : Blk (w.setCell p u) g t cs := (Below.heap_setCell w p u g hp).trans h
theorem Blk.below {B : Nat} (h : Blk w g t cs) (hb : Below B w w') (hg : g < B) : Blk w' g t cs := (hb.block g hg).trans h
theorem Blk.grown {row : Option Nat} (h : Blk w g t cs) (hb : w.grownBy w' row) (hg : some g ≠ row) : Blk w' g t cs := (hb.block g h.lt hg).trans h
end
section
variable {P : Program} (w : World)

end
end words
section structs
open Go.ChangeShapes Go.WideShapes Go.Deep
section
variable {H : Type} {enc : TypeId × Value → H} {P : Program} {w : World} {base : Nat} {spare : Nat → Bool} {held : Bool}
end
end structs
section aggs
open Go.Joins Go.ChangeShapes Go.WideShapes Go.RowKit Go.Deep
section
variable {H : Type} {enc : TypeId × Value → H} {P : Program} {w : World} {base : Nat} {spare : Nat → Bool} {held : Bool}
end
end aggs
section small
open Go.RowKit
end small
section last
open Go.RowKit Go.WideShapes Go.ChangeShapes
section
variable {H : Type} {enc : TypeId × Value → H} {P : Program}
theorem post_of_below {f : Func} {s : ChangeSpec} {apart fresh handsOn again : Bool} {W W' : World} {args : Array Value} {v : Value} {ds gs : List (DataW H)} {before pa pv : List MemPlace}
    (hW : DataW.Whole enc P f.params.toList s.vars apart W args.toList ds gs before)
    (hres : ∀ (b : Nat) (sp : Nat → Bool) (hd : Bool), DataW.TrodAll enc P W' b sp hd f.resultTypes.toList (v.resultList f.resultTypes.size) (s.fn H (ds ++ gs)).results [])
    (hargs : ∀ sp : Nat → Bool, (∀ p ∈ before, sp p.block = true) → DataW.TrodAll enc P W' 0 sp true f.params.toList args.toList (s.fn H (ds ++ gs)).args pa)
    (hvars : ∀ sp : Nat → Bool, (∀ p ∈ before, sp p.block = true) → DataW.TrodVars enc P W' sp s.vars (s.fn H (ds ++ gs)).vars pv)
    (hps : before = pa ++ pv) (hb : Below W.heap.size W W')
    (hok : ∀ (j : Nat) (t : TypeId) (r : Value), f.resultTypes[j]? = some t → (v.resultList f.resultTypes.size)[j]? = some r → Value.okWide P W' .any 0 t r) :
    s.post enc P f apart fresh handsOn again W args v W' := by
  have hlt : ∀ p ∈ before, p.block < W.heap.size := fun p hp => hW.lt p hp
  have hold : ∀ p ∈ before, (fun b => decide (b < W.heap.size)) p.block = true := fun p hp => by simpa using hlt p hp
  refine ⟨ds, gs, before, [], pa, pv, hW, hres _ _ _, hargs _ hold, hvars _ hold, World.keptBut_mono (fun p hp => ⟨hp, ?_⟩) (hb.frame (· ∈ before)), fun _ => ?_⟩
  · rw [hps, List.mem_append] at hp
    exact Or.inr hp
  · obtain ⟨_, _, _, _, _, hz, hn⟩ := hW
    refine ⟨hok, _, _, ([] ++ pa) ++ pv, ⟨[] ++ pa, pv, trodAll_append (hargs _ (fun _ _ => rfl)) (hres _ _ _), hvars _ (fun _ _ => rfl), rfl, ?_, ?_⟩, ?_⟩
    · intro b off hp
      have hin : MemPlace.cell b off ∈ before := by rw [hps]; simpa using hp
      rw [hb.frozen (hlt _ hin)]
      exact hz b off hin
    · intro ha
      have := hn ha
      rw [hps] at this
      simpa using this
    · intro p hp _
      rw [hps]
      simpa using hp
end
end last
end Go.Proofs.Ytgkkilbeingleaa

/- Abstract values and abstract memory: what values and blocks of the model's memory stand for. Nothing of the program is named here. -/
namespace Go.Proofs.Ytgkkilbeingleaa
open Go.RowKit

/-- what a value stands for -/
inductive AV where
  | any
  | p (v : Value)
  | agg (cs : List AV)
  | tup (cs : List AV)
  | dsl (sz : Nat) (xs : List (List AV))
  | dptr (sz : Nat) (xs : List (List AV)) (i j : Nat)
  | ptr (id off : Nat)
  | eptr (id sz i j : Nat)
  | osl (id sz off n : Nat)
  | mp (id : Nat)
  | fn (f : Fn) (first captured : List AV)
/-- what a block stands for -/
inductive AO where
  | box (t : TypeId) (cs : List AV)
  | row (t : TypeId) (sz : Nat) (es : List (List AV))
  | frz (sz : Nat) (es : List (List AV))
  | map (kt : TypeId) (n : Nat) (f : Value → Option AV)
  | siter (s : ByteArray) (pos : Nat)
  | crow (t : TypeId) (sz c : Nat) (es : List (List AV))
  | dead
  | smap (kt : TypeId) (n : Nat) (f : Value → Option AV) (st : Value → Nat) (c : Nat)
  | miter (m : Nat) (st : Value → Nat) (c : Nat) (vis : List Value)
structure AH where
  nx : Nat
  l : List (Nat × AO)
def lget : List (Nat × AO) → Nat → Option AO
  | [], _ => none
  | (i, o) :: r, k => if i = k then some o else lget r k
def lput : List (Nat × AO) → Nat → AO → List (Nat × AO)
  | [], k, o => [(k, o)]
  | (i, x) :: r, k, o => if k < i then (k, o) :: (i, x) :: r else if k = i then (k, o) :: r else (i, x) :: lput r k o
def ldel : List (Nat × AO) → Nat → List (Nat × AO)
  | [], _ => []
  | (i, x) :: r, k => if i = k then ldel r k else (i, x) :: ldel r k
def AH.get (H : AH) (k : Nat) : Option AO := lget H.l k
def AH.put (H : AH) (k : Nat) (o : AO) : AH := ⟨H.nx, lput H.l k o⟩
def AH.del (H : AH) (k : Nat) : AH := ⟨H.nx, ldel H.l k⟩
def AH.kill (H : AH) (k : Nat) : AH := H.put k .dead
def AH.up (H : AH) (n : Nat) : AH := ⟨H.nx + n, H.l⟩

theorem lget_lput_ne {l : List (Nat × AO)} {k j : Nat} {o : AO} (h : j ≠ k) : lget (lput l k o) j = lget l j := by
  induction l with
  | nil => simp [lput, lget]; omega
  | cons a r ih =>
    obtain ⟨i, x⟩ := a
    unfold lput
    split
    · simp [lget]; omega
    · split
      · rename_i _ h2; subst h2; simp [lget]; rw [if_neg (by omega), if_neg (by omega)]
      · simp only [lget, ih]
theorem lget_ldel_ne {l : List (Nat × AO)} {k j : Nat} (h : j ≠ k) : lget (ldel l k) j = lget l j := by
  induction l with
  | nil => rfl
  | cons a r ih =>
    obtain ⟨i, x⟩ := a
    unfold ldel
    split
    · rename_i h2; subst h2; rw [ih]; simp only [lget]; rw [if_neg (fun e => h e.symm)]
    · simp only [lget, ih]
theorem lget_ldel_self {l : List (Nat × AO)} {k : Nat} : lget (ldel l k) k = none := by
  induction l with
  | nil => rfl
  | cons a r ih =>
    obtain ⟨i, x⟩ := a
    unfold ldel
    split
    · exact ih
    · rename_i h2; simp only [lget]; rw [if_neg h2]; exact ih
theorem lget_lput_self {l : List (Nat × AO)} {k : Nat} {o : AO} : lget (lput l k o) k = some o := by
  induction l with
  | nil => simp [lput, lget]
  | cons a r ih =>
    obtain ⟨i, x⟩ := a
    unfold lput
    split
    · simp [lget]
    · split
      · simp [lget]
      · rename_i h1 h2; simp only [lget]; rw [if_neg (fun e => h2 e.symm), ih]
theorem lput_comm {l : List (Nat × AO)} {i j : Nat} {x y : AO} (h : i ≠ j) : lput (lput l i x) j y = lput (lput l j y) i x := by
  induction l with
  | nil => grind [lput]
  | cons a r ih =>
    obtain ⟨k, z⟩ := a
    grind [lput]

/-- data: no block of the call's own in it -/
inductive RpD (w : World) (S : Nat → Prop) : AV → Value → Prop
  | p (v : Value) : v.oneCell' = true → RpD w S (.p v) v
  | agg (cs : List AV) (vs : Array Value) : cs.length = vs.size → (∀ (i : Nat) (a : AV) (v : Value), cs[i]? = some a → vs[i]? = some v → RpD w S a v) → (∀ v ∈ vs, v.oneCell' = true) → RpD w S (.agg cs) (.agg vs)
  | dsl (sz : Nat) (xs : List (List AV)) (A : Option Addr) (c : Nat) (z : Nat → Nat → Value) : xs.length ≤ c → c ≤ maxLen → (∀ e ∈ xs, e.length = sz) →
      (∀ (i : Nat) (e : List AV) (j : Nat) (a : AV), xs[i]? = some e → e[j]? = some a → ∃ g o, A = some ⟨g, o, none⟩ ∧ S g ∧ w.cell? ⟨g, o + i * sz + j, none⟩ = some (z i j)) →
      (∀ (i : Nat) (e : List AV) (j : Nat) (a : AV), xs[i]? = some e → e[j]? = some a → RpD w S a (z i j)) → (∀ i j, (z i j).oneCell' = true) → RpD w S (.dsl sz xs) (.slice A xs.length c)
inductive Rp (w : World) (S : Nat → Prop) (σ : Nat → Option Value) : AV → Value → Prop
  | any (v : Value) : Rp w S σ .any v
  | data (a : AV) (v : Value) : RpD w S a v → Rp w S σ a v
  | agg (cs : List AV) (vs : Array Value) : cs.length = vs.size → (∀ (i : Nat) (a : AV) (v : Value), cs[i]? = some a → vs[i]? = some v → Rp w S σ a v) → (∀ v ∈ vs, v.oneCell' = true) → Rp w S σ (.agg cs) (.agg vs)
  | tup (cs : List AV) (vs : Array Value) : cs.length = vs.size → (∀ (i : Nat) (a : AV) (v : Value), cs[i]? = some a → vs[i]? = some v → Rp w S σ a v) → Rp w S σ (.tup cs) (.tuple vs)
  | dptr (sz : Nat) (xs : List (List AV)) (i j g o c : Nat) : RpD w S (.dsl sz xs) (.slice (some ⟨g, o, none⟩) xs.length c) → i < xs.length → Rp w S σ (.dptr sz xs i j) (.pointer (some ⟨g, o + i * sz + j, none⟩))
  | ptr (id off g : Nat) : σ id = some (.pointer (some ⟨g, 0, none⟩)) → Rp w S σ (.ptr id off) (.pointer (some ⟨g, off, none⟩))
  | eptr (id sz i j g o n c : Nat) : σ id = some (.slice (some ⟨g, o, none⟩) n c) → Rp w S σ (.eptr id sz i j) (.pointer (some ⟨g, o + i * sz + j, none⟩))
  | osl (id sz off n : Nat) (A B : Option Addr) (N c cc : Nat) : σ id = some (.slice A N c) → n ≤ cc → off + cc = c → (0 < cc → B = A.map (·.add (off * sz))) → Rp w S σ (.osl id sz off n) (.slice B n cc)
  | mp (id g : Nat) : σ id = some (.map (some g)) → Rp w S σ (.mp id) (.map (some g))
  | fn (f : Fn) (first captured : List AV) (fs cs : Array Value) : first.length = fs.size → captured.length = cs.size → (∀ (i : Nat) (a : AV) (v : Value), first[i]? = some a → fs[i]? = some v → Rp w S σ a v) →
      (∀ (i : Nat) (a : AV) (v : Value), captured[i]? = some a → cs[i]? = some v → Rp w S σ a v) → Rp w S σ (.fn f first captured) (.func f fs cs)

section
variable {w w' : World} {S S' : Nat → Prop} {σ σ' : Nat → Option Value} {a : AV} {v : Value}
theorem RpD.mono (h : RpD w S a v) (hs : ∀ b, S b → S' b) (hw : ∀ b, S b → w'.heap[b]? = w.heap[b]?) : RpD w' S' a v := by
  induction h with
  | p v h => exact .p v h
  | agg cs vs hl _ h1 ih => exact .agg cs vs hl (fun i a v ha hv => ih i a v ha hv) h1
  | dsl sz xs A c z h1 h2 h3 h4 _ h6 ih =>
    refine .dsl sz xs A c z h1 h2 h3 (fun i e j a he ha => ?_) (fun i e j a he ha => ih i e j a he ha) h6
    obtain ⟨g, o, rfl, hg, hc⟩ := h4 i e j a he ha
    exact ⟨g, o, rfl, hs g hg, (World.cell?_of_block (hw g hg)).trans hc⟩
theorem Rp.mono (h : Rp w S σ a v) (hs : ∀ b, S b → S' b) (hw : ∀ b, S b → w'.heap[b]? = w.heap[b]?) (hg : ∀ id u, σ id = some u → σ' id = some u) : Rp w' S' σ' a v := by
  induction h with
  | any v => exact .any v
  | data a v h => exact .data a v (h.mono hs hw)
  | agg cs vs hl _ h1 ih => exact .agg cs vs hl (fun i a v ha hv => ih i a v ha hv) h1
  | tup cs vs hl _ ih => exact .tup cs vs hl (fun i a v ha hv => ih i a v ha hv)
  | dptr sz xs i j g o c h hi => exact .dptr sz xs i j g o c (h.mono hs hw) hi
  | ptr id off g h => exact .ptr id off g (hg _ _ h)
  | eptr id sz i j g o n c h => exact .eptr id sz i j g o n c (hg _ _ h)
  | osl id sz off n A B N c cc h h1 h2 h3 => exact .osl id sz off n A B N c cc (hg _ _ h) h1 h2 h3
  | mp id g h => exact .mp id g (hg _ _ h)
  | fn f first captured fs cs h1 h2 _ _ ih1 ih2 => exact .fn f first captured fs cs h1 h2 (fun i a v ha hv => ih1 i a v ha hv) (fun i a v ha hv => ih2 i a v ha hv)
/-- list by array -/
def Rps (w : World) (S : Nat → Prop) (σ : Nat → Option Value) (ps : List AV) (vs : List Value) : Prop := ps.length = vs.length ∧ ∀ (i : Nat) (a : AV) (v : Value), ps[i]? = some a → vs[i]? = some v → Rp w S σ a v
theorem Rps.nil : Rps w S σ [] [] := ⟨rfl, by simp⟩
theorem Rps.cons {ps : List AV} {vs : List Value} (h : Rp w S σ a v) (hs : Rps w S σ ps vs) : Rps w S σ (a :: ps) (v :: vs) := by
  refine ⟨by simp [hs.1], fun i b u hb hu => ?_⟩
  cases i with
  | zero => simp at hb hu; subst hb; subst hu; exact h
  | succ i => exact hs.2 i b u (by simpa using hb) (by simpa using hu)
theorem Rps.uncons {ps : List AV} {vs : List Value} (h : Rps w S σ (a :: ps) vs) : ∃ v r, vs = v :: r ∧ Rp w S σ a v ∧ Rps w S σ ps r := by
  obtain ⟨hl, h⟩ := h
  match vs, hl with
  | v :: r, hl => exact ⟨v, r, rfl, h 0 a v rfl rfl, by simpa using hl, fun i b u hb hu => h (i + 1) b u (by simpa using hb) (by simpa using hu)⟩
theorem Rps.nil_inv {vs : List Value} (h : Rps w S σ [] vs) : vs = [] := List.eq_nil_of_length_eq_zero h.1.symm
theorem Rps.mono {ps : List AV} {vs : List Value} (h : Rps w S σ ps vs) (hs : ∀ b, S b → S' b) (hw : ∀ b, S b → w'.heap[b]? = w.heap[b]?) (hg : ∀ id u, σ id = some u → σ' id = some u) : Rps w' S' σ' ps vs :=
  ⟨h.1, fun i a v ha hv => (h.2 i a v ha hv).mono hs hw hg⟩
theorem Rps.append {ps bs : List AV} {vs us : List Value} (h : Rps w S σ ps vs) (h' : Rps w S σ bs us) : Rps w S σ (ps ++ bs) (vs ++ us) := by
  refine ⟨by simp [h.1, h'.1], fun i a v ha hv => ?_⟩
  by_cases hi : i < ps.length
  · rw [List.getElem?_append_left hi] at ha
    rw [List.getElem?_append_left (by rw [← h.1]; exact hi)] at hv
    exact h.2 i a v ha hv
  · rw [List.getElem?_append_right (by omega)] at ha
    rw [List.getElem?_append_right (by rw [← h.1]; omega), ← h.1] at hv
    exact h'.2 _ a v ha hv
theorem Rp.p_inv {u : Value} (h : Rp w S σ (.p u) v) : v = u ∧ u.oneCell' = true := by
  cases h with
  | data _ _ h => cases h with | p _ h => exact ⟨rfl, h⟩
theorem Rp.agg_inv {cs : List AV} (h : Rp w S σ (.agg cs) v) : ∃ vs : Array Value, v = .agg vs ∧ Rps w S σ cs vs.toList ∧ ∀ u ∈ vs, u.oneCell' = true := by
  cases h with
  | data _ _ h => cases h with
    | agg _ vs hl h h1 => exact ⟨vs, rfl, ⟨by simpa using hl, fun i a u ha hu => .data _ _ (h i a u ha (by simpa using hu))⟩, h1⟩
  | agg _ vs hl h h1 => exact ⟨vs, rfl, ⟨by simpa using hl, fun i a u ha hu => h i a u ha (by simpa using hu)⟩, h1⟩
theorem Rp.tup_inv {cs : List AV} (h : Rp w S σ (.tup cs) v) : ∃ vs : Array Value, v = .tuple vs ∧ Rps w S σ cs vs.toList := by
  cases h with
  | data _ _ h => cases h
  | tup _ vs hl h => exact ⟨vs, rfl, by simpa using hl, fun i a u ha hu => h i a u ha (by simpa using hu)⟩
theorem Rp.dsl_inv {sz : Nat} {xs : List (List AV)} (h : Rp w S σ (.dsl sz xs) v) : RpD w S (.dsl sz xs) v := by
  cases h with
  | data _ _ h => exact h
theorem RpD.dsl_inv {sz : Nat} {xs : List (List AV)} (h : RpD w S (.dsl sz xs) v) : ∃ (A : Option Addr) (c : Nat) (z : Nat → Nat → Value), v = .slice A xs.length c ∧ xs.length ≤ c ∧ c ≤ maxLen ∧ (∀ e ∈ xs, e.length = sz) ∧
      (∀ (i : Nat) (e : List AV) (j : Nat) (a : AV), xs[i]? = some e → e[j]? = some a → ∃ g o, A = some ⟨g, o, none⟩ ∧ S g ∧ w.cell? ⟨g, o + i * sz + j, none⟩ = some (z i j)) ∧
      (∀ (i : Nat) (e : List AV) (j : Nat) (a : AV), xs[i]? = some e → e[j]? = some a → RpD w S a (z i j)) ∧ (∀ i j, (z i j).oneCell' = true) := by
  cases h with
  | dsl _ _ A c z h1 h2 h3 h4 h5 h6 => exact ⟨A, c, z, rfl, h1, h2, h3, h4, h5, h6⟩
theorem Rp.dptr_inv {sz i j : Nat} {xs : List (List AV)} (h : Rp w S σ (.dptr sz xs i j) v) : ∃ g o c, v = .pointer (some ⟨g, o + i * sz + j, none⟩) ∧ RpD w S (.dsl sz xs) (.slice (some ⟨g, o, none⟩) xs.length c) ∧ i < xs.length := by
  cases h with
  | data _ _ h => cases h
  | dptr _ _ _ _ g o c h hi => exact ⟨g, o, c, rfl, h, hi⟩
theorem Rp.ptr_inv {id off : Nat} (h : Rp w S σ (.ptr id off) v) : ∃ g, v = .pointer (some ⟨g, off, none⟩) ∧ σ id = some (.pointer (some ⟨g, 0, none⟩)) := by
  cases h with
  | data _ _ h => cases h
  | ptr _ _ g h => exact ⟨g, rfl, h⟩
theorem Rp.eptr_inv {id sz i j : Nat} (h : Rp w S σ (.eptr id sz i j) v) : ∃ g o n c, v = .pointer (some ⟨g, o + i * sz + j, none⟩) ∧ σ id = some (.slice (some ⟨g, o, none⟩) n c) := by
  cases h with
  | data _ _ h => cases h
  | eptr _ _ _ _ g o n c h => exact ⟨g, o, n, c, rfl, h⟩
theorem Rp.osl_inv {id sz off n : Nat} (h : Rp w S σ (.osl id sz off n) v) : ∃ (A B : Option Addr) (N c cc : Nat), v = .slice B n cc ∧ σ id = some (.slice A N c) ∧ n ≤ cc ∧ off + cc = c ∧ (0 < cc → B = A.map (·.add (off * sz))) := by
  cases h with
  | data _ _ h => cases h
  | osl _ _ _ _ A B N c cc h h1 h2 h3 => exact ⟨A, B, N, c, cc, rfl, h, h1, h2, h3⟩
theorem Rp.mp_inv {id : Nat} (h : Rp w S σ (.mp id) v) : ∃ g, v = .map (some g) ∧ σ id = some (.map (some g)) := by
  cases h with
  | data _ _ h => cases h
  | mp _ g h => exact ⟨g, rfl, h⟩
theorem Rp.fn_inv {f : Fn} {first captured : List AV} (h : Rp w S σ (.fn f first captured) v) : ∃ fs cs : Array Value, v = .func f fs cs ∧ Rps w S σ first fs.toList ∧ Rps w S σ captured cs.toList := by
  cases h with
  | data _ _ h => cases h
  | fn _ _ _ fs cs h1 h2 h3 h4 => exact ⟨fs, cs, rfl, ⟨by simpa using h1, fun i a u ha hu => h3 i a u ha (by simpa using hu)⟩, by simpa using h2, fun i a u ha hu => h4 i a u ha (by simpa using hu)⟩
theorem Rps.agg {cs : List AV} {vs : Array Value} (h : Rps w S σ cs vs.toList) (h1 : ∀ u ∈ vs, u.oneCell' = true) : Rp w S σ (.agg cs) (.agg vs) :=
  .agg cs vs (by simpa using h.1) (fun i a v ha hv => h.2 i a v ha (by simpa using hv)) h1
theorem Rps.tup {cs : List AV} {vs : Array Value} (h : Rps w S σ cs vs.toList) : Rp w S σ (.tup cs) (.tuple vs) :=
  .tup cs vs (by simpa using h.1) (fun i a v ha hv => h.2 i a v ha (by simpa using hv))
end
/-- one cell's worth -/
def AV.one : AV → Bool
  | .any | .agg _ | .tup _ => false
  | _ => true
theorem Rp.one_cell {w : World} {S : Nat → Prop} {σ : Nat → Option Value} {a : AV} {v : Value} (h : Rp w S σ a v) (h1 : a.one = true) : v.oneCell' = true := by
  cases h with
  | data _ _ h => cases h with
    | p _ h => exact h
    | agg _ _ _ _ => cases h1
    | dsl => rfl
  | any | agg | tup => cases h1
  | dptr | ptr | eptr | osl | mp | fn => rfl
end Go.Proofs.Ytgkkilbeingleaa

/- The last step of every law: where the call returns true and turns nothing that was there, the row's claim is met. Nothing of the program is named here. -/
namespace Go.Proofs.Ytgkkilbeingleaa
open Go.ChangeShapes Go.WideShapes Go.ChangeAt Go.RowKit

theorem own : ownKnob Try.prog.godebug = none := by kernel_rfl
theorem laidOut : laidOutB Try.prog = true := by kernel_rfl

section
variable {H : Type} {enc : TypeId × Value → H} {P : Program}
theorem trodAll_stays (hl : laidOutB P = true) {W W' : World} {sp' : Nat → Bool} : ∀ {ts : List TypeId} {vs : List Value} {ds : List (DataW H)} {ps : List MemPlace},
    (ts.all fun t => P.readableRec t && decide (t < P.types.size)) = true → DataW.TrodAll enc P W 0 (fun _ => true) true ts vs ds ps → (∀ p ∈ ps, W.sameAt W' p) → (∀ p ∈ ps, sp' p.block = true) →
    DataW.TrodAll enc P W' 0 sp' true ts vs ds ps
  | [], vs, ds, ps, _, h, _, _ => by
    obtain ⟨rfl, rfl, rfl⟩ := trodAll_nil h
    exact trodAll_mk0
  | t :: ts, vs, ds, ps, hr, h, hs, hp => by
    obtain ⟨v, vs', d, ds', p, q, rfl, rfl, rfl, h0, h1⟩ := trodAll_cons h
    simp only [List.all_cons, Bool.and_eq_true, decide_eq_true_eq] at hr
    exact trodAll_cons_mk (WideElems.Trod_stays hl hr.1.1 hr.1.2 h0 (fun x hx => hs x (by simp [hx])) (fun x hx => hp x (by simp [hx])))
      (trodAll_stays hl (by simpa using hr.2) h1 (fun x hx => hs x (by simp [hx])) (fun x hx => hp x (by simp [hx])))

theorem post_true {f : Func} {s : ChangeSpec} {apart fresh handsOn again : Bool} {W W' : World} {args : Array Value} {ds gs : List (DataW H)} {before : List MemPlace} {tb : TypeId}
    (hrt : f.resultTypes = #[tb]) (hb : P.underlying tb = some .bool) (hvars : s.vars = []) (hl : laidOutB P = true)
    (hr : (f.params.toList.all fun t => P.readableRec t && decide (t < P.types.size)) = true)
    (hW : DataW.Whole enc P f.params.toList s.vars apart W args.toList ds gs before) (hfn : s.fn H (ds ++ gs) = { results := [.lit (.bool true)], args := ds })
    (hbelow : Below W.heap.size W W') : s.post enc P f apart fresh handsOn again W args (.bool true) W' := by
  have hW' := hW
  obtain ⟨p, q, hA, hV, rfl, hfz, hnd⟩ := hW
  rw [hvars] at hV
  obtain ⟨rfl, rfl⟩ := trodVars_none hV
  have hlt : ∀ x ∈ p ++ [], x.block < W.heap.size := fun x hx => hW'.lt x hx
  refine post_of_below (pa := p) (pv := []) hW' (fun b sp hd => ?_) (fun sp hsp => ?_) (fun sp _ => ?_) rfl hbelow (ok_one hrt rfl (okWide_bool_mk hb _))
  · rw [hfn, hrt]; exact trodAll_mk1 (shut_bool hb _)
  · rw [hfn]; exact trodAll_stays hl hr hA (fun x hx => hbelow.same (hlt x (by simp [hx]))) (fun x hx => hsp x (by simp [hx]))
  · rw [hfn, hvars]; exact rfl
end
end Go.Proofs.Ytgkkilbeingleaa

/- Small facts of use in many walks: returns, a string's iterator anywhere in memory, new cells. Nothing of the program is named here. -/
namespace Go.Proofs.Ytgkkilbeingleaa
open Go.RowKit

/-- the iterator in block g moves to p -/
def setIter (w : World) (g : Nat) (s : ByteArray) (p : Nat) : World := { w with heap := w.heap.setIfInBounds g (.stringIter s p) }
section
variable {P : Program} {w : World} {g : Nat} {s : ByteArray} {p : Nat}
theorem run_next_at (ty : TypeId) (hg : w.heap[g]? = some (.stringIter s p)) (h : p < s.size) :
    (Instr.next (.pointer (some ⟨g, 0, none⟩)) true ty).run P w =
      .ok (.tuple #[.bool true, .int .i64 p, .int .i32 (Utf8.decode s p).1]) (setIter w g s (p + (Utf8.decode s p).2)) := by
  simp only [Instr.next, getObj, setObj, Sem.run_bind, Sem.run, hg, Result.andThen, h, if_true]
  simp [goInt, setIter]
end

end Go.Proofs.Ytgkkilbeingleaa

/- Rows of structs of three integers: elements read, rows kept. Nothing of the program is named here. -/
namespace Go.Proofs.Ytgkkilbeingleaa
open Go.RowKit

end Go.Proofs.Ytgkkilbeingleaa

/- Readings: what a list of cells stands for: integers, bools, texts, slices of these, one in the other; kept by whatever leaves their blocks alone. Nothing of the program is named here. -/
namespace Go.Proofs.Ytgkkilbeingleaa
open Go.RowKit

/-- what cells stand for; S: the blocks that are read -/
structure Rep (α : Type) where
  size : Nat
  bulk : α → Nat
  R : World → (Nat → Prop) → List Value → α → Prop
  len : ∀ {w S cs x}, R w S cs x → cs.length = size
  one : ∀ {w S cs x}, R w S cs x → ∀ u ∈ cs, u.oneCell' = true
  keep : ∀ {w w' : World} {S cs x}, R w S cs x → (∀ p : Addr, S p.block → w'.cell? p = w.cell? p) → R w' S cs x
  more : ∀ {w : World} {S S' : Nat → Prop} {cs x}, R w S cs x → (∀ b, S b → S' b) → R w S' cs x

def I64 (x : Int) : Prop := -9223372036854775808 ≤ x ∧ x ≤ 9223372036854775807
theorem I64.lo {x : Int} (h : I64 x) : -9223372036854775808 ≤ x := h.1
theorem I64.hi {x : Int} (h : I64 x) : x ≤ 9223372036854775807 := h.2
theorem I64.wf {x : Int} (h : I64 x) : (Lit.int .i64 x).wf = true := WalkArith.wf_i64 ⟨h.1, h.2⟩

def rInt : Rep Int where
  size := 1
  bulk _ := 1
  R _ _ cs x := cs = [.int .i64 x] ∧ I64 x
  len h := by rw [h.1]; rfl
  one h := by rw [h.1]; intro u hu; simp at hu; subst hu; rfl
  keep h _ := h
  more h _ := h
section
variable {α : Type} {ρ : Rep α} {w w' : World} {S S' : Nat → Prop} {A : Option Addr} {c : Nat} {xs : List α}

/-- a slice's elements -/
def Sl (ρ : Rep α) (w : World) (S : Nat → Prop) (A : Option Addr) (c : Nat) (xs : List α) : Prop :=
  xs.length ≤ c ∧ c ≤ maxLen ∧ ∀ i x, xs[i]? = some x → ∃ ad u, A = some ad ∧ S ad.block ∧ ρ.R w S u x ∧ ∀ j z, u[j]? = some z → w.cell? (ad.add (i * ρ.size + j)) = some z

theorem Sl.keep (h : Sl ρ w S A c xs) (hk : ∀ p : Addr, S p.block → w'.cell? p = w.cell? p) : Sl ρ w' S A c xs :=
  ⟨h.1, h.2.1, fun i x hx => by
    obtain ⟨ad, u, e, hs, hr, hc⟩ := h.2.2 i x hx
    exact ⟨ad, u, e, hs, ρ.keep hr hk, fun j z hz => (hk _ (by rw [block_of_add]; exact hs)).trans (hc j z hz)⟩⟩
theorem Sl.more (h : Sl ρ w S A c xs) (hm : ∀ b, S b → S' b) : Sl ρ w S' A c xs :=
  ⟨h.1, h.2.1, fun i x hx => by
    obtain ⟨ad, u, e, hs, hr, hc⟩ := h.2.2 i x hx
    exact ⟨ad, u, e, hm _ hs, ρ.more hr hm, hc⟩⟩
theorem Sl.below (h : Sl ρ w S A c xs) (hS : ∀ b, S b → b < w.heap.size) (hb : Below w.heap.size w w') : Sl ρ w' S A c xs := h.keep fun p hp => hb.cell (hS _ hp)
theorem Sl.nil_ : Sl ρ w S none 0 [] := ⟨by simp, by simp [maxLen], by simp⟩
theorem Sl.le (h : Sl ρ w S A c xs) : xs.length ≤ c := h.1
theorem Sl.max (h : Sl ρ w S A c xs) : c ≤ maxLen := h.2.1
theorem Sl.at_ (h : Sl ρ w S A c xs) {k : Nat} (hk : k < xs.length) : ∃ ad u, A = some ad ∧ S ad.block ∧ ρ.R w S u (xs[k]'hk) ∧ ∀ j z, u[j]? = some z → w.cell? (ad.add (k * ρ.size + j)) = some z :=
  h.2.2 k _ (List.getElem?_eq_getElem hk)
/-- an element of several cells, as the walk spells them -/
theorem Sl.fields (h : Sl ρ w S A c xs) {k : Nat} (hk : k < xs.length) : ∃ ad u, A = some ad ∧ S ad.block ∧ ρ.R w S u (xs[k]'hk) ∧ (∀ z, u[0]? = some z → w.cell? (ad.add (k * ρ.size)) = some z) ∧
    ∀ j z, u[j + 1]? = some z → w.cell? ⟨(ad.add (k * ρ.size)).block, (ad.add (k * ρ.size)).off + (j + 1), none⟩ = some z := by
  obtain ⟨ad, u, e, hs, hr, hc⟩ := h.at_ hk
  refine ⟨ad, u, e, hs, hr, fun z hz => hc 0 z hz, fun j z hz => ?_⟩
  have := hc (j + 1) z hz
  rw [← add_of_add] at this
  exact this
/-- s[k:] -/
theorem Sl.cut (h : Sl ρ w S A c xs) (k : Nat) : Sl ρ w S (if c = k then A else A.map (·.add (k * ρ.size))) (c - k) (xs.drop k) := by
  obtain ⟨h1, h2, h3⟩ := h
  refine ⟨by rw [List.length_drop]; omega, by omega, fun i x hx => ?_⟩
  rw [List.getElem?_drop] at hx
  have hlt : k + i < xs.length := (List.getElem?_eq_some_iff.1 hx).1
  obtain ⟨ad, u, e, hs, hr, hc⟩ := h3 (k + i) x hx
  rw [if_neg (by omega), e]
  refine ⟨_, u, rfl, by rw [block_of_add]; exact hs, hr, fun j z hz => ?_⟩
  rw [add_of_add]
  have := hc j z hz
  rwa [show k * ρ.size + (i * ρ.size + j) = (k + i) * ρ.size + j from by rw [Nat.add_mul]; omega]
/-- s[:k] -/
theorem Sl.top (h : Sl ρ w S A c xs) (k : Nat) : Sl ρ w S A c (xs.take k) := by
  obtain ⟨h1, h2, h3⟩ := h
  refine ⟨by rw [List.length_take]; omega, h2, fun i x hx => h3 i x ?_⟩
  rw [List.getElem?_take] at hx
  split at hx
  · exact hx
  · cases hx

def rList (ρ : Rep α) : Rep (List α) where
  size := 1
  bulk xs := (xs.map ρ.bulk).sum + 1
  R w S cs xs := ∃ A c, cs = [.slice A xs.length c] ∧ Sl ρ w S A c xs
  len := fun ⟨_, _, e, _⟩ => by rw [e]; rfl
  one := fun ⟨_, _, e, _⟩ => by rw [e]; intro u hu; simp at hu; subst hu; rfl
  keep := fun ⟨A, c, e, h⟩ hk => ⟨A, c, e, h.keep hk⟩
  more := fun ⟨A, c, e, h⟩ hm => ⟨A, c, e, h.more hm⟩

/-- cells that stand for a list, one behind the other -/
def Elems (ρ : Rep α) (w : World) (S : Nat → Prop) (cs : List Value) (xs : List α) : Prop :=
  cs.length = xs.length * ρ.size ∧ (∀ u ∈ cs, u.oneCell' = true) ∧ ∀ i x, xs[i]? = some x → ∃ u, ρ.R w S u x ∧ ∀ j z, u[j]? = some z → cs[i * ρ.size + j]? = some z
theorem Elems.nil_ : Elems ρ w S [] [] := ⟨by simp, by simp, by simp⟩
theorem Elems.keep {cs : List Value} (h : Elems ρ w S cs xs) (hk : ∀ p : Addr, S p.block → w'.cell? p = w.cell? p) : Elems ρ w' S cs xs :=
  ⟨h.1, h.2.1, fun i x hx => by obtain ⟨u, hr, hc⟩ := h.2.2 i x hx; exact ⟨u, ρ.keep hr hk, hc⟩⟩
theorem Elems.more {cs : List Value} (h : Elems ρ w S cs xs) (hm : ∀ b, S b → S' b) : Elems ρ w S' cs xs :=
  ⟨h.1, h.2.1, fun i x hx => by obtain ⟨u, hr, hc⟩ := h.2.2 i x hx; exact ⟨u, ρ.more hr hm, hc⟩⟩
theorem Elems.app {cs ds : List Value} {ys : List α} (h : Elems ρ w S cs xs) (h' : Elems ρ w S ds ys) : Elems ρ w S (cs ++ ds) (xs ++ ys) := by
  obtain ⟨h1, h2, h3⟩ := h
  obtain ⟨g1, g2, g3⟩ := h'
  refine ⟨by rw [List.length_append, List.length_append, h1, g1, Nat.add_mul], fun u hu => ?_, fun i x hx => ?_⟩
  · rcases List.mem_append.1 hu with hu | hu
    · exact h2 u hu
    · exact g2 u hu
  · by_cases hi : i < xs.length
    · rw [List.getElem?_append_left hi] at hx
      obtain ⟨u, hr, hc⟩ := h3 i x hx
      refine ⟨u, hr, fun j z hz => ?_⟩
      have := hc j z hz
      rw [List.getElem?_append_left (List.getElem?_eq_some_iff.1 this).1]; exact this
    · rw [List.getElem?_append_right (by omega)] at hx
      obtain ⟨u, hr, hc⟩ := g3 _ x hx
      refine ⟨u, hr, fun j z hz => ?_⟩
      have := hc j z hz
      have he : i * ρ.size = (i - xs.length) * ρ.size + cs.length := by rw [h1, ← Nat.add_mul]; congr 1; omega
      rw [he, List.getElem?_append_right (by omega), ← this]
      congr 1; omega
theorem Elems.single {u : List Value} {x : α} (h : ρ.R w S u x) : Elems ρ w S u [x] :=
  ⟨by rw [ρ.len h]; simp, ρ.one h, fun i y hy => by
    have : i = 0 := by have := (List.getElem?_eq_some_iff.1 hy).1; simpa using this
    subst this
    simp at hy; subst hy
    exact ⟨u, h, fun j z hz => by simpa using hz⟩⟩
theorem Elems.snoc {cs u : List Value} {x : α} (h : Elems ρ w S cs xs) (hu : ρ.R w S u x) : Elems ρ w S (cs ++ u) (xs ++ [x]) := h.app (.single hu)
/-- the cells of a slice, for an append -/
theorem Sl.flat (h : Sl ρ w S A c xs) : ∃ cs, Elems ρ w S cs xs ∧ ∀ ad, A = some ad → ∀ j z, cs[j]? = some z → w.cell? (ad.add j) = some z := by
  obtain ⟨_, _, h3⟩ := h
  have key : ∀ n, n ≤ xs.length → ∃ cs, Elems ρ w S cs (xs.take n) ∧ ∀ ad, A = some ad → ∀ j z, cs[j]? = some z → w.cell? (ad.add j) = some z := by
    intro n
    induction n with
    | zero => intro _; exact ⟨[], by simpa using Elems.nil_, by simp⟩
    | succ n ih =>
      intro hn
      obtain ⟨cs, he, hc⟩ := ih (by omega)
      obtain ⟨ad, u, ea, hs, hr, hu⟩ := h3 n _ (List.getElem?_eq_getElem (by omega))
      refine ⟨cs ++ u, ?_, fun ad' ea' j z hz => ?_⟩
      · rw [List.take_succ_eq_append_getElem (by omega)]
        exact he.snoc hr
      · rw [ea] at ea'; injection ea' with ea'; subst ea'
        by_cases hj : j < cs.length
        · rw [List.getElem?_append_left hj] at hz
          exact hc _ ea j z hz
        · rw [List.getElem?_append_right (by omega)] at hz
          have := hu _ z hz
          rwa [show n * ρ.size + (j - cs.length) = j from by have := he.1; rw [List.length_take, Nat.min_eq_left (by omega)] at this; omega] at this
  obtain ⟨cs, he, hc⟩ := key xs.length (Nat.le_refl _)
  exact ⟨cs, by simpa using he, hc⟩
theorem Sl.reads (h : Sl ρ w S A c xs) {B : Nat} (hB : ∀ b, S b → b < B) : ∃ cs, Elems ρ w S cs xs ∧ Reads w B (ρ.size) A xs.length cs := by
  obtain ⟨cs, he, hc⟩ := h.flat
  refine ⟨cs, he, he.1, fun hn => ?_⟩
  obtain ⟨ad, u, ea, hs, _, _⟩ := h.at_ hn
  exact ⟨ad, ea, hB _ hs, hc ad ea⟩
end

/-- two things side by side -/
def rPair {α β : Type} (ρ : Rep α) (σ : Rep β) : Rep (α × β) where
  size := ρ.size + σ.size
  bulk x := ρ.bulk x.1 + σ.bulk x.2
  R w S cs x := ∃ c d, cs = c ++ d ∧ ρ.R w S c x.1 ∧ σ.R w S d x.2
  len := fun ⟨c, d, e, h, h'⟩ => by rw [e, List.length_append, ρ.len h, σ.len h']
  one := fun ⟨c, d, e, h, h'⟩ => by
    rw [e]; intro u hu
    rcases List.mem_append.1 hu with hu | hu
    · exact ρ.one h u hu
    · exact σ.one h' u hu
  keep := fun ⟨c, d, e, h, h'⟩ hk => ⟨c, d, e, ρ.keep h hk, σ.keep h' hk⟩
  more := fun ⟨c, d, e, h, h'⟩ hm => ⟨c, d, e, ρ.more h hm, σ.more h' hm⟩

end Go.Proofs.Ytgkkilbeingleaa

/- A map of the call's own, as a function from keys to what is there: made, looked up (with ok, too), written, ranged over. Nothing of the program is named here. -/
namespace Go.Proofs.Ytgkkilbeingleaa
open Go.RowKit Go.Maps

def rHeld (v : Value) : Option (DataW Value × List MemPlace) := some (.held v, [])
theorem rHeld_inv {v : Value} {y : DataW Value × List MemPlace} (h : rHeld v = some y) : y = (.held v, []) := by unfold rHeld at h; injection h with h; exact h.symm
/-- a datum reads as a function -/
def Reads1 (P : Program) (k : TypeId) (D : DataW Value) (f : Value → Option Value) : Prop :=
  ∀ (key : Value) (l : Lit), keyOf P k key = some l → ∀ zd, D.atKey l zd = match f key with
    | some v => .held v
    | none => zd
/-- block b is a map of at most n entries; what is there is f's -/
def MapOf (P : Program) (k : TypeId) (w : World) (b n : Nat) (f : Value → Option Value) : Prop :=
  ∃ D : DataW Value, w.ownsMap P k rHeld b n D ∧ Reads1 P k D f
open Classical in
noncomputable def putO (f : Value → Option Value) (key v : Value) : Value → Option Value := fun x => if x = key then some v else f x
theorem putO_same (f : Value → Option Value) (key v : Value) : putO f key v key = some v := by simp [putO]
theorem putO_other (f : Value → Option Value) {key x : Value} (v : Value) (h : x ≠ key) : putO f key v x = f x := by simp [putO, h]
section
variable {P : Program} {k : TypeId} {w w' : World} {b n : Nat} {f : Value → Option Value}
theorem MapOf.made (w : World) (P : Program) (k : TypeId) : MapOf P k (w.alloc (.map #[] 0)) w.heap.size 0 (fun _ => none) :=
  ⟨_, World.ownsMap_made w P k rHeld, fun _ _ _ _ => rfl⟩
theorem MapOf.lt (h : MapOf P k w b n f) : b < w.heap.size := by obtain ⟨D, h, _⟩ := h; exact h.lt
theorem MapOf.mono (h : MapOf P k w b n f) {n' : Nat} (hn : n ≤ n') : MapOf P k w b n' f := by obtain ⟨D, h, hf⟩ := h; exact ⟨D, h.mono hn, hf⟩
theorem MapOf.grown {row : Option Nat} (h : MapOf P k w b n f) (hg : w.grownBy w' row) (hne : some b ≠ row) : MapOf P k w' b n f := by
  obtain ⟨D, h, hf⟩ := h; exact ⟨D, h.kept hg hne, hf⟩
theorem MapOf.alloc (h : MapOf P k w b n f) (o : Obj) : MapOf P k (w.alloc o) b n f := h.grown (World.grownBy_alloc w o none) (by simp)
theorem MapOf.drew (h : MapOf P k w b n f) : MapOf P k w.drew b n f := h
theorem MapOf.drewN (h : MapOf P k w b n f) (m : Nat) : MapOf P k (w.drewN m) b n f := h
theorem MapOf.below {B : Nat} (h : MapOf P k w b n f) (hb : Below B w w') (hlt : b < B) : MapOf P k w' b n f := by
  obtain ⟨D, ⟨es, clock, hm, h1, h2, h3⟩, hf⟩ := h
  exact ⟨D, ⟨es, clock, (hb.block b hlt).trans hm, h1, h2, h3⟩, hf⟩
theorem MapOf.lookAny {t e : TypeId} (c : Bool) (h : MapOf P k w b n f) (K : Keyed P k) (ht : P.underlying t = some (.map k e)) {z : Value} (hz : (zeroValue e).run P w = .ok z w) {key : Value} (hk : (keyOf P k key).isSome = true) :
    (Instr.lookup t (.map (some b)) key c).run P w = .ok (if c then .tuple #[(f key).getD z, .bool (f key).isSome] else (f key).getD z) w := by
  obtain ⟨D, ⟨es, clock, hb, F, hs, rfl⟩, hf⟩ := h
  obtain ⟨l, hl⟩ := Option.isSome_iff_exists.1 hk
  have hfl := hf key l hl
  rcases Maps.fit_look c K ht hz hb F hl with ⟨h1, _, h3⟩ | ⟨e0, y, _, _, h1, h2, h3, _⟩
  · have hn : f key = none := by
      have a1 := hfl (.held z)
      have a2 := hfl (.lit (.int .i64 0))
      rw [h3] at a1 a2
      cases hk : f key with
      | none => rfl
      | some v => rw [hk] at a1 a2; simp only at a1 a2; rw [← a1] at a2; cases a2
    rw [h1, hn]; cases c <;> rfl
  · have hv := rHeld_inv h2
    subst hv
    have hs : f key = some e0.val := by
      cases hk : f key with
      | none =>
        have a1 := hfl (.lit (.int .i64 0))
        rw [h3, hk] at a1; simp only at a1; cases a1
      | some v =>
        have a1 := hfl (.held z)
        rw [h3, hk] at a1; simp only at a1; injection a1 with a1; rw [a1]
    rw [h1, hs]; cases c <;> rfl
theorem MapOf.look {t e : TypeId} (h : MapOf P k w b n f) (K : Keyed P k) (ht : P.underlying t = some (.map k e)) {z : Value} (hz : (zeroValue e).run P w = .ok z w) {key : Value} (hk : (keyOf P k key).isSome = true) :
    (Instr.lookup t (.map (some b)) key false).run P w = .ok ((f key).getD z) w := h.lookAny false K ht hz hk
theorem Reads1.put {D : DataW Value} {key v : Value} {l : Lit} (h : Reads1 P k D f) (K : Keyed P k) (hD : IsMap D) (hl : keyOf P k key = some l) : Reads1 P k (D.put l (.held v)) (putO f key v) := by
  intro x l' hl' zd
  by_cases hx : x = key
  · subst hx
    rw [hl] at hl'; injection hl' with hl'; subst hl'
    rw [putO_same, atKey_put_same hD (K.key hl)]
  · have hll : l' ≠ l := fun e => hx (K.inj hl' (by rw [e]; exact hl))
    rw [putO_other _ _ hx, atKey_put_other hll]
    exact h x l' hl' zd
theorem MapOf.store {t e : TypeId} (h : MapOf P k w b n f) (K : Keyed P k) (ht : P.underlying t = some (.map k e)) (hn : n < maxLen) {key : Value} (hk : (keyOf P k key).isSome = true) (v : Value) :
    ∃ w', (Instr.mapUpdate t (.map (some b)) key v).run P w = .ok () w' ∧ MapOf P k w' b (n + 1) (putO f key v) ∧ w.grownBy w' (some b) := by
  obtain ⟨D, h, hf⟩ := h
  obtain ⟨l, hl⟩ := Option.isSome_iff_exists.1 hk
  obtain ⟨w', h1, h2, h3⟩ := h.update K ht hn hl (val := v) (d := .held v) (ps := []) rfl
  obtain ⟨es, clock, _, _, _, hD⟩ := h
  exact ⟨w', h1, ⟨_, h2, hf.put K ⟨_, hD⟩ hl⟩, h3⟩

/-- a range under way: which keys are still to come -/
def RangeOf (P : Program) (k : TypeId) (w : World) (b r n : Nat) (f : Value → Option Value) (left : Value → Bool) (cnt : Nat) : Prop :=
  ∃ (D : DataW Value) (lf : Lit → Bool), w.ranges P k rHeld b r n D lf cnt ∧ Reads1 P k D f ∧ ∀ key l, keyOf P k key = some l → lf l = left key
theorem RangeOf.map {r cnt : Nat} {left : Value → Bool} (h : RangeOf P k w b r n f left cnt) : MapOf P k w b n f := by obtain ⟨D, lf, h, hf, _⟩ := h; exact ⟨D, h.owns, hf⟩
theorem RangeOf.kept {row : Option Nat} {r cnt : Nat} {left : Value → Bool} (h : RangeOf P k w b r n f left cnt) (hg : w.grownBy w' row) (hb : some b ≠ row) (hr : some r ≠ row) : RangeOf P k w' b r n f left cnt := by
  obtain ⟨D, lf, h, hf, hl⟩ := h; exact ⟨D, lf, h.kept hg hb hr, hf, hl⟩
theorem MapOf.range {t e : TypeId} (h : MapOf P k w b n f) (K : Keyed P k) (ht : P.underlying t = some (.map k e)) :
    ∃ w' cnt, (Instr.range t (.map (some b))).run P w = .ok (.pointer (some ⟨w.heap.size, 0, none⟩)) w' ∧ RangeOf P k w' b w.heap.size n f (fun key => (f key).isSome) cnt ∧ w.grownBy w' none ∧ w'.heap.size = w.heap.size + 1 := by
  obtain ⟨D, h, hf⟩ := h
  obtain ⟨w', h1, h2, h3, h4⟩ := h.range K ht
  refine ⟨w', _, h1, ⟨D, _, h2, hf, fun key l hl => ?_⟩, h3, h4⟩
  cases hk : f key with
  | some v => simp only [hk, Option.isSome]; exact has_true_of_atKey (y := .held v) (fun z => by rw [hf key l hl z, hk])
  | none => simp only [hk, Option.isSome]; exact has_false_of_atKey (fun z => by rw [hf key l hl z, hk])
theorem RangeOf.next {r cnt : Nat} {left : Value → Bool} (h : RangeOf P k w b r n f left cnt) (K : Keyed P k) (ty : TypeId) :
    ((∀ key, (keyOf P k key).isSome = true → left key = false) ∧ (Instr.next (.pointer (some ⟨r, 0, none⟩)) false ty).run P w = .ok (.tuple #[.bool false]) w) ∨
    ∃ key v w' cnt', (keyOf P k key).isSome = true ∧ left key = true ∧ f key = some v ∧ (Instr.next (.pointer (some ⟨r, 0, none⟩)) false ty).run P w = .ok (.tuple #[.bool true, key, v]) w' ∧
      (∀ left' : Value → Bool, (∀ x, (keyOf P k x).isSome = true → (x = key → left' x = false) ∧ (x ≠ key → left' x = left x)) → RangeOf P k w' b r n f left' cnt') ∧ cnt' < cnt ∧ w.grownBy w' (some r) ∧ w'.heap.size = w.heap.size ∧ (Instr.entry (.pointer (some ⟨r, 0, none⟩))).run P w' = .ok (.tuple #[key, v]) w' := by
  obtain ⟨D, lf, h, hf, hl⟩ := h
  rcases h.next K ty with ⟨_, h2, h3⟩ | ⟨key, v, kl, y, w', cnt', hk, hleft, hy, hat, hrun, hrg, hlt, hg, hs, hen⟩
  · refine Or.inl ⟨fun key hk => ?_, h3⟩
    obtain ⟨l, hkl⟩ := Option.isSome_iff_exists.1 hk
    rw [← hl key l hkl]; exact h2 l
  · have hv := rHeld_inv hy
    subst hv
    refine Or.inr ⟨key, v, w', cnt', by rw [hk]; rfl, by rw [← hl key kl hk]; exact hleft, ?_, hrun, fun left' hleft' => ⟨D, _, hrg, hf, fun x l hx => ?_⟩, hlt, hg, hs, hen⟩
    · have a1 := hf key kl hk (.lit (.int .i64 0))
      rw [hat] at a1
      cases hfk : f key with
      | none => rw [hfk] at a1; simp only at a1; cases a1
      | some u => rw [hfk] at a1; simp only at a1; injection a1 with a1; rw [a1]
    · obtain ⟨q1, q2⟩ := hleft' x (by rw [hx]; rfl)
      by_cases hxk : x = key
      · rw [q1 hxk]
        subst hxk
        rw [hk] at hx; injection hx with hx; subst hx
        simp [WideAt.sameKey_self (K.key hk)]
      · have hll : l ≠ kl := fun e => hxk (K.inj hx (by rw [e]; exact hk))
        rw [q2 hxk, hl x l hx, sameKey_ne hll]; simp
end
theorem keyOf_int {P : Program} {k : TypeId} (hk : P.underlying k = some (.int .i64)) {x : Int} (h : I64 x) : (keyOf P k (.int .i64 x)).isSome = true := by rw [keyOf_int_mk hk h.wf]; rfl
end Go.Proofs.Ytgkkilbeingleaa

/- Abstract memory against the model's memory: when it stands, what keeps it, what changes it. Nothing of the program is named here. -/
namespace Go.Proofs.Ytgkkilbeingleaa
open Go.RowKit

def blkOf : Value → Option Nat
  | .pointer (some a) => some a.block
  | .slice (some a) _ _ => some a.block
  | .map (some g) => some g
  | _ => none
def AO.owned : AO → Bool
  | .frz .. => false
  | .dead => false
  | _ => true
def ObjOk (P : Program) (w : World) (S : Nat → Prop) (σ : Nat → Option Value) (id : Nat) : AO → Prop
  | .box t cs => ∃ g arr, σ id = some (.pointer (some ⟨g, 0, none⟩)) ∧ Blk w g t arr ∧ Rps w S σ cs arr.toList ∧ ∀ u ∈ arr, u.oneCell' = true
  | .row t sz es => ∃ A c, σ id = some (.slice A es.length c) ∧ (∀ e ∈ es, e.length = sz) ∧ es.length ≤ c ∧ c ≤ maxLen ∧ ((A = none ∧ c = 0) ∨
      ∃ g o arr, A = some ⟨g, o, none⟩ ∧ Blk w g t arr ∧ o + c * sz ≤ arr.size ∧ (∀ u ∈ arr, u.oneCell' = true) ∧
        ∀ (i : Nat) (e : List AV) (j : Nat) (a : AV), es[i]? = some e → e[j]? = some a → ∃ v, arr[o + i * sz + j]? = some v ∧ Rp w S σ a v)
  | .frz sz es => ∃ A c, σ id = some (.slice A es.length c) ∧ RpD w S (.dsl sz es) (.slice A es.length c)
  | .map kt n f => ∃ g f', σ id = some (.map (some g)) ∧ MapOf P kt w g n f' ∧ ∀ k, (f k = none ∧ f' k = none) ∨ ∃ a v, f k = some a ∧ f' k = some v ∧ Rp w S σ a v
  | .crow t sz c es => ∃ A N, σ id = some (.slice A N c) ∧ (∀ e ∈ es, e.length = sz) ∧ es.length ≤ c ∧ c ≤ maxLen ∧ ((A = none ∧ c = 0) ∨
      ∃ g o arr, A = some ⟨g, o, none⟩ ∧ Blk w g t arr ∧ o + c * sz ≤ arr.size ∧ (∀ u ∈ arr, u.oneCell' = true) ∧
        ∀ (i : Nat) (e : List AV) (j : Nat) (a : AV), es[i]? = some e → e[j]? = some a → ∃ v, arr[o + i * sz + j]? = some v ∧ Rp w S σ a v)
  | .siter s pos => ∃ g, σ id = some (.pointer (some ⟨g, 0, none⟩)) ∧ w.heap[g]? = some (.stringIter s pos)
  | .dead => (σ id).isSome = true
  | .smap kt n f st c => ∃ g f' es, σ id = some (.map (some g)) ∧ MapOf P kt w g n f' ∧ w.heap[g]? = some (.map es c) ∧ (∀ x ∈ es.toList, st x.key = x.born) ∧ ∀ k, (f k = none ∧ f' k = none) ∨ ∃ a v, f k = some a ∧ f' k = some v ∧ Rp w S σ a v
  | .miter m st c vis => ∃ r g seen, σ id = some (.pointer (some ⟨r, 0, none⟩)) ∧ σ m = some (.map (some g)) ∧ w.heap[r]? = some (.mapIter (some g) c seen c) ∧ seen.toList = vis.map st
theorem MapOf.keep {P : Program} {k : TypeId} {w w' : World} {b n : Nat} {f : Value → Option Value} (h : MapOf P k w b n f) (hb : w'.heap[b]? = w.heap[b]?) : MapOf P k w' b n f := by
  obtain ⟨D, ⟨es, clock, hm, h1, h2, h3⟩, hf⟩ := h
  exact ⟨D, ⟨es, clock, hb.trans hm, h1, h2, h3⟩, hf⟩

section
variable {P : Program} {w w' : World} {S S' : Nat → Prop} {σ σ' : Nat → Option Value} {id : Nat} {o : AO} {H H' : AH}
theorem ObjOk.mono (h : ObjOk P w S σ id o) (hs : ∀ b, S b → S' b) (hw : ∀ b, S b → w'.heap[b]? = w.heap[b]?) (hg : ∀ id u, σ id = some u → σ' id = some u)
    (hb : o.owned = true → ∀ b, (σ id).bind blkOf = some b → w'.heap[b]? = w.heap[b]?) : ObjOk P w' S' σ' id o := by
  cases o with
  | box t cs =>
    obtain ⟨g, arr, h1, h2, h3, h4⟩ := h
    exact ⟨g, arr, hg _ _ h1, (hb rfl g (by rw [h1]; rfl)).trans h2, h3.mono hs hw hg, h4⟩
  | row t sz es =>
    obtain ⟨A, c, h1, h2, h3, h4, h5⟩ := h
    refine ⟨A, c, hg _ _ h1, h2, h3, h4, ?_⟩
    rcases h5 with h5 | ⟨g, o, arr, rfl, k1, k2, k3, k4⟩
    · exact .inl h5
    · refine .inr ⟨g, o, arr, rfl, (hb rfl g (by rw [h1]; rfl)).trans k1, k2, k3, fun i e j a he ha => ?_⟩
      obtain ⟨v, hv, hr⟩ := k4 i e j a he ha
      exact ⟨v, hv, hr.mono hs hw hg⟩
  | crow t sz c es =>
    obtain ⟨A, N, h1, h2, h3, h4, h5⟩ := h
    refine ⟨A, N, hg _ _ h1, h2, h3, h4, ?_⟩
    rcases h5 with h5 | ⟨g, o, arr, rfl, k1, k2, k3, k4⟩
    · exact .inl h5
    · refine .inr ⟨g, o, arr, rfl, (hb rfl g (by rw [h1]; rfl)).trans k1, k2, k3, fun i e j a he ha => ?_⟩
      obtain ⟨v, hv, hr⟩ := k4 i e j a he ha
      exact ⟨v, hv, hr.mono hs hw hg⟩
  | frz sz es =>
    obtain ⟨A, c, h1, h2⟩ := h
    exact ⟨A, c, hg _ _ h1, h2.mono hs hw⟩
  | map kt n f =>
    obtain ⟨g, f', h1, h2, h3⟩ := h
    refine ⟨g, f', hg _ _ h1, h2.keep (hb rfl g (by rw [h1]; rfl)), fun k => ?_⟩
    rcases h3 k with h3 | ⟨a, v, q1, q2, q3⟩
    · exact .inl h3
    · exact .inr ⟨a, v, q1, q2, q3.mono hs hw hg⟩
  | siter s pos =>
    obtain ⟨g, h1, h2⟩ := h
    exact ⟨g, hg _ _ h1, (hb rfl g (by rw [h1]; rfl)).trans h2⟩
  | dead =>
    obtain ⟨u, hu⟩ := Option.isSome_iff_exists.1 h
    show (σ' id).isSome = true
    rw [hg _ _ hu]; rfl
  | smap kt n f st c =>
    obtain ⟨g, f', es, h1, h2, h4, h5, h3⟩ := h
    refine ⟨g, f', es, hg _ _ h1, h2.keep (hb rfl g (by rw [h1]; rfl)), (hb rfl g (by rw [h1]; rfl)).trans h4, h5, fun k => ?_⟩
    rcases h3 k with h3 | ⟨a, v, q1, q2, q3⟩
    · exact .inl h3
    · exact .inr ⟨a, v, q1, q2, q3.mono hs hw hg⟩
  | miter m st c vis =>
    obtain ⟨r, g, seen, h1, h2, h3, h4⟩ := h
    exact ⟨r, g, seen, hg _ _ h1, hg _ _ h2, (hb rfl r (by rw [h1]; rfl)).trans h3, h4⟩
structure Sat (P : Program) (w : World) (S : Nat → Prop) (σ : Nat → Option Value) (H : AH) : Prop where
  sb : ∀ b, S b → b < w.heap.size
  dom : ∀ id u, σ id = some u → id < H.nx
  obj : ∀ id o, H.get id = some o → ObjOk P w S σ id o
  dj : ∀ i j o o' b, H.get i = some o → H.get j = some o' → o.owned = true → o'.owned = true → (σ i).bind blkOf = some b → (σ j).bind blkOf = some b → i = j
  sep : ∀ i o b, H.get i = some o → o.owned = true → (σ i).bind blkOf = some b → ¬ S b
  sl : ∀ i A n c, σ i = some (.slice A n c) → n ≤ c ∧ (0 < c → ∃ g o, A = some ⟨g, o, none⟩) ∧ c ≤ maxLen
def Foot (σ : Nat → Option Value) (H : AH) (b : Nat) : Prop := ∃ id o, H.get id = some o ∧ o.owned = true ∧ (σ id).bind blkOf = some b
structure Ext (w : World) (S : Nat → Prop) (σ : Nat → Option Value) (H : AH) (w' : World) (S' : Nat → Prop) (σ' : Nat → Option Value) (H' : AH) : Prop where
  os : w'.os = w.os
  tape : w'.tape = w.tape
  output : w'.output = w.output
  size : w.heap.size ≤ w'.heap.size
  keep : ∀ b, b < w.heap.size → ¬ Foot σ H b → w'.heap[b]? = w.heap[b]?
  sup : ∀ b, S b → S' b
  sub : ∀ b, S' b → S b ∨ Foot σ H b ∨ w.heap.size ≤ b
  foot : ∀ b, Foot σ' H' b → Foot σ H b ∨ w.heap.size ≤ b
  sig : ∀ id u, σ id = some u → σ' id = some u
theorem Sat.notS (h : Sat P w S σ H) {b : Nat} (hb : S b) : ¬ Foot σ H b := fun ⟨i, o, h1, h2, h3⟩ => h.sep i o b h1 h2 h3 hb
theorem Ext.S_keep (e : Ext w S σ H w' S' σ' H') (h : Sat P w S σ H) : ∀ b, S b → w'.heap[b]? = w.heap[b]? := fun b hb => e.keep b (h.sb b hb) (h.notS hb)
theorem Ext.rp (e : Ext w S σ H w' S' σ' H') (h : Sat P w S σ H) {a : AV} {v : Value} (hr : Rp w S σ a v) : Rp w' S' σ' a v := hr.mono e.sup (e.S_keep h) e.sig
theorem Ext.rps (e : Ext w S σ H w' S' σ' H') (h : Sat P w S σ H) {a : List AV} {v : List Value} (hr : Rps w S σ a v) : Rps w' S' σ' a v := hr.mono e.sup (e.S_keep h) e.sig
theorem Ext.refl (w : World) (S : Nat → Prop) (σ : Nat → Option Value) (H : AH) : Ext w S σ H w S σ H :=
  ⟨rfl, rfl, rfl, Nat.le_refl _, fun _ _ _ => rfl, fun _ h => h, fun _ h => .inl h, fun _ h => .inl h, fun _ _ h => h⟩
theorem Ext.trans {w2 : World} {S2 : Nat → Prop} {σ2 : Nat → Option Value} {H2 : AH} (e : Ext w S σ H w' S' σ' H') (f : Ext w' S' σ' H' w2 S2 σ2 H2) : Ext w S σ H w2 S2 σ2 H2 where
  os := f.os.trans e.os
  tape := f.tape.trans e.tape
  output := f.output.trans e.output
  size := Nat.le_trans e.size f.size
  keep b hb hn := by
    refine (f.keep b (Nat.lt_of_lt_of_le hb e.size) (fun hf => ?_)).trans (e.keep b hb hn)
    rcases e.foot b hf with h | h
    · exact hn h
    · omega
  sup b hb := f.sup b (e.sup b hb)
  sub b hb := by
    rcases f.sub b hb with h | h | h
    · exact e.sub b h
    · exact .inr (e.foot b h)
    · exact .inr (.inr (Nat.le_trans e.size h))
  foot b hb := by
    rcases f.foot b hb with h | h
    · exact e.foot b h
    · exact .inr (Nat.le_trans e.size h)
  sig id u h := f.sig id u (e.sig id u h)
theorem Sat.congr (h : Sat P w S σ H) (hg : ∀ id, H'.get id = H.get id) (hn : H.nx ≤ H'.nx) : Sat P w S σ H' where
  sb := h.sb
  dom id u hu := Nat.lt_of_lt_of_le (h.dom id u hu) hn
  obj id o ho := h.obj id o (by rw [← hg]; exact ho)
  dj i j o o' b h1 h2 := h.dj i j o o' b (by rw [← hg]; exact h1) (by rw [← hg]; exact h2)
  sep i o b h1 := h.sep i o b (by rw [← hg]; exact h1)
  sl := h.sl
/-- some of it is let go -/
theorem Sat.less (h : Sat P w S σ H) (hg : ∀ id o, H'.get id = some o → H.get id = some o) (hn : H.nx ≤ H'.nx) : Sat P w S σ H' where
  sb := h.sb
  dom id u hu := Nat.lt_of_lt_of_le (h.dom id u hu) hn
  obj id o ho := h.obj id o (hg _ _ ho)
  dj i j o o' b h1 h2 := h.dj i j o o' b (hg _ _ h1) (hg _ _ h2)
  sep i o b h1 := h.sep i o b (hg _ _ h1)
  sl := h.sl
theorem Foot.less (hg : ∀ id o, H'.get id = some o → H.get id = some o) {b : Nat} (h : Foot σ H' b) : Foot σ H b := by
  obtain ⟨i, o, h1, h2, h3⟩ := h; exact ⟨i, o, hg _ _ h1, h2, h3⟩
theorem AH.get_put_self {H : AH} {k : Nat} {o : AO} : (H.put k o).get k = some o := lget_lput_self
theorem AH.get_put_ne {H : AH} {k j : Nat} {o : AO} (h : j ≠ k) : (H.put k o).get j = H.get j := lget_lput_ne h
theorem AH.get_del_self {H : AH} {k : Nat} : (H.del k).get k = none := lget_ldel_self
theorem AH.get_del_ne {H : AH} {k j : Nat} (h : j ≠ k) : (H.del k).get j = H.get j := lget_ldel_ne h
theorem AH.get_del {H : AH} {k j : Nat} {o : AO} (h : (H.del k).get j = some o) : H.get j = some o ∧ j ≠ k := by
  by_cases e : j = k
  · subst e; rw [AH.get_del_self] at h; cases h
  · rw [AH.get_del_ne e] at h; exact ⟨h, e⟩
theorem AH.kill_get {H : AH} {k j : Nat} {o : AO} (h : (H.kill k).get j = some o) (ho : o.owned = true) : H.get j = some o ∧ j ≠ k := by
  by_cases e : j = k
  · subst e; unfold AH.kill at h; rw [AH.get_put_self] at h; injection h with h; subst h; cases ho
  · unfold AH.kill at h; rw [AH.get_put_ne e] at h; exact ⟨h, e⟩
theorem Sat.kill (h : Sat P w S σ H) {k : Nat} {o : AO} (hk : H.get k = some o) : Sat P w S σ (H.kill k) where
  sb := h.sb
  dom := h.dom
  obj id o2 ho := by
    by_cases e : id = k
    · subst e
      unfold AH.kill at ho; rw [AH.get_put_self] at ho; injection ho with ho; subst ho
      show (σ id).isSome = true
      have := h.obj id o hk
      cases o with
      | box t cs => obtain ⟨g, arr, h1, _⟩ := this; rw [h1]; rfl
      | row t sz es => obtain ⟨A, c, h1, _⟩ := this; rw [h1]; rfl
      | frz sz es => obtain ⟨A, c, h1, _⟩ := this; rw [h1]; rfl
      | crow t sz c es => obtain ⟨A, N, h1, _⟩ := this; rw [h1]; rfl
      | map kt m f => obtain ⟨g, f', h1, _⟩ := this; rw [h1]; rfl
      | siter s p => obtain ⟨g, h1, _⟩ := this; rw [h1]; rfl
      | dead => exact this
      | smap kt m f st c => obtain ⟨g, f', es, h1, _⟩ := this; rw [h1]; rfl
      | miter m st c vis => obtain ⟨r, g, seen, h1, _⟩ := this; rw [h1]; rfl
    · unfold AH.kill at ho; rw [AH.get_put_ne e] at ho; exact h.obj id o2 ho
  dj i j o o' b h1 h2 k1 k2 := h.dj i j o o' b (AH.kill_get h1 k1).1 (AH.kill_get h2 k2).1 k1 k2
  sep i o b h1 k1 := h.sep i o b (AH.kill_get h1 k1).1 k1
  sl := h.sl
theorem Foot.kill {k b : Nat} (h : Foot σ (H.kill k) b) : Foot σ H b := by
  obtain ⟨i, o, h1, h2, h3⟩ := h; exact ⟨i, o, (AH.kill_get h1 h2).1, h2, h3⟩
def sput (σ : Nat → Option Value) (k : Nat) (u : Value) : Nat → Option Value := fun i => if i = k then some u else σ i
theorem sput_ext {k : Nat} {u : Value} (h : ∀ x, σ k = some x → x = u) : ∀ id x, σ id = some x → sput σ k u id = some x := by
  intro id x hx
  unfold sput
  by_cases e : id = k
  · subst e; rw [if_pos rfl, h x hx]
  · rw [if_neg e]; exact hx
theorem sput_self {k : Nat} {u : Value} : sput σ k u k = some u := by unfold sput; rw [if_pos rfl]
theorem sput_ne {k j : Nat} {u : Value} (h : j ≠ k) : sput σ k u j = σ j := by unfold sput; rw [if_neg h]
/-- one thing is laid, or changed -/
theorem Sat.upd (h : Sat P w S σ H) {k : Nat} {o' : AO} {u : Value} (hk : k < H.nx) (hσ : ∀ x, σ k = some x → x = u)
    (hsz : w.heap.size ≤ w'.heap.size) (hkeep : ∀ b, b < w.heap.size → blkOf u ≠ some b → w'.heap[b]? = w.heap[b]?)
    (hfree : ∀ b, blkOf u = some b → ¬ S b ∧ ∀ j o, j ≠ k → H.get j = some o → o.owned = true → (σ j).bind blkOf ≠ some b)
    (hobj : ObjOk P w' S (sput σ k u) k o') (hlt : ∀ j o b, H.get j = some o → o.owned = true → (σ j).bind blkOf = some b → b < w.heap.size) (hsl : ∀ A n c, u = .slice A n c → n ≤ c ∧ (0 < c → ∃ g o, A = some ⟨g, o, none⟩) ∧ c ≤ maxLen) : Sat P w' S (sput σ k u) (H.put k o') := by
  have hS : ∀ b, S b → w'.heap[b]? = w.heap[b]? := fun b hb => hkeep b (h.sb b hb) (fun e => (hfree b e).1 hb)
  refine ⟨fun b hb => Nat.lt_of_lt_of_le (h.sb b hb) hsz, fun id x hx => ?_, fun id o ho => ?_, fun i j o o2 b h1 h2 k1 k2 q1 q2 => ?_, fun i o b h1 k1 q1 => ?_, fun i A n c hi => ?_⟩
  · by_cases e : id = k
    · subst e; exact hk
    · rw [sput_ne e] at hx; exact h.dom id x hx
  · by_cases e : id = k
    · subst e; rw [AH.get_put_self] at ho; injection ho with ho; subst ho; exact hobj
    · rw [AH.get_put_ne e] at ho
      refine (h.obj id o ho).mono (fun _ hb => hb) hS (sput_ext hσ) (fun how b hb => hkeep b (hlt id o b ho how hb) (fun e2 => ?_))
      exact (hfree b e2).2 id o e ho how hb
  · by_cases e : i = k <;> by_cases e' : j = k
    · rw [e, e']
    · subst e
      rw [sput_self] at q1
      rw [AH.get_put_ne e'] at h2
      rw [sput_ne e'] at q2
      exact absurd q2 ((hfree b q1).2 j o2 e' h2 k2)
    · subst e'
      rw [sput_self] at q2
      rw [AH.get_put_ne e] at h1
      rw [sput_ne e] at q1
      exact absurd q1 ((hfree b q2).2 i o e h1 k1)
    · rw [AH.get_put_ne e] at h1
      rw [AH.get_put_ne e'] at h2
      rw [sput_ne e] at q1
      rw [sput_ne e'] at q2
      exact h.dj i j o o2 b h1 h2 k1 k2 q1 q2
  · by_cases e : i = k
    · subst e
      rw [sput_self] at q1
      exact (hfree b q1).1
    · rw [AH.get_put_ne e] at h1
      rw [sput_ne e] at q1
      exact h.sep i o b h1 k1 q1
  · by_cases e : i = k
    · subst e; rw [sput_self] at hi; injection hi with hi; exact hsl A n c hi
    · rw [sput_ne e] at hi; exact h.sl i A n c hi
theorem heap_lt {w : World} {b : Nat} {o : Obj} (h : w.heap[b]? = some o) : b < w.heap.size := by
  rcases Nat.lt_or_ge b w.heap.size with h1 | h1
  · exact h1
  · rw [Array.getElem?_eq_none h1] at h; cases h
theorem ObjOk.lt (h : ObjOk P w S σ id o) (ho : o.owned = true) {b : Nat} (hb : (σ id).bind blkOf = some b) : b < w.heap.size := by
  cases o with
  | box t cs =>
    obtain ⟨g, arr, h1, h2, _⟩ := h
    rw [h1] at hb; simp [blkOf] at hb; subst hb; exact h2.lt
  | row t sz es =>
    obtain ⟨A, c, h1, h2, h3, h4, h5⟩ := h
    rw [h1] at hb
    rcases h5 with ⟨rfl, _⟩ | ⟨g, o, arr, rfl, k1, _⟩
    · simp [blkOf] at hb
    · simp [blkOf] at hb; subst hb; exact k1.lt
  | frz sz es => cases ho
  | crow t sz c es =>
    obtain ⟨A, N, h1, h2, h3, h4, h5⟩ := h
    rw [h1] at hb
    rcases h5 with ⟨rfl, _⟩ | ⟨g, o, arr, rfl, k1, _⟩
    · simp [blkOf] at hb
    · simp [blkOf] at hb; subst hb; exact k1.lt
  | map kt n f =>
    obtain ⟨g, f', h1, h2, _⟩ := h
    rw [h1] at hb; simp [blkOf] at hb; subst hb; exact h2.lt
  | siter s pos =>
    obtain ⟨g, h1, h2⟩ := h
    rw [h1] at hb; simp [blkOf] at hb; subst hb; exact heap_lt h2
  | dead => cases ho
  | smap kt n f st c =>
    obtain ⟨g, f', es, h1, h2, _⟩ := h
    rw [h1] at hb; simp [blkOf] at hb; subst hb; exact h2.lt
  | miter m st c vis =>
    obtain ⟨r, g, seen, h1, h2, h3, _⟩ := h
    rw [h1] at hb; simp [blkOf] at hb; subst hb; exact heap_lt h3
theorem Sat.lt (h : Sat P w S σ H) {j : Nat} {b : Nat} {o : AO} (h1 : H.get j = some o) (h2 : o.owned = true) (h3 : (σ j).bind blkOf = some b) : b < w.heap.size := (h.obj j o h1).lt h2 h3
theorem Foot.lt (h : Foot σ H id) (hs : Sat P w S σ H) : id < w.heap.size := by obtain ⟨j, o, h1, h2, h3⟩ := h; exact hs.lt h1 h2 h3
/-- the world's memory alone counts -/
theorem Rp.world {w w' : World} {a : AV} {v : Value} (h : Rp w S σ a v) (hw : w'.heap = w.heap) : Rp w' S σ a v := h.mono (fun _ h => h) (fun b _ => by rw [hw]) (fun _ _ h => h)
theorem Sat.world (h : Sat P w S σ H) (hw : w'.heap = w.heap) : Sat P w' S σ H where
  sb b hb := by rw [hw]; exact h.sb b hb
  dom := h.dom
  obj id o ho := (h.obj id o ho).mono (fun _ h => h) (fun b _ => by rw [hw]) (fun _ _ h => h) (fun _ b _ => by rw [hw])
  dj := h.dj
  sep := h.sep
  sl := h.sl
theorem Ext.draw (w : World) (S : Nat → Prop) (σ : Nat → Option Value) (H : AH) (n : Nat) : Ext w S σ H (w.drewN n) S σ H :=
  ⟨rfl, rfl, rfl, Nat.le_refl _, fun _ _ _ => rfl, fun _ h => h, fun _ h => .inl h, fun _ h => .inl h, fun _ _ h => h⟩
/-- one thing is laid, or changed: what is gained -/
theorem Ext.upd (h : Sat P w S σ H) {k : Nat} {o' : AO} {u : Value} (hσ : ∀ x, σ k = some x → x = u) (hos : w'.os = w.os) (htape : w'.tape = w.tape) (hout : w'.output = w.output)
    (hsz : w.heap.size ≤ w'.heap.size) (hkeep : ∀ b, b < w.heap.size → blkOf u ≠ some b → w'.heap[b]? = w.heap[b]?)
    (hb : ∀ b, blkOf u = some b → Foot σ H b ∨ w.heap.size ≤ b) : Ext w S σ H w' S (sput σ k u) (H.put k o') where
  os := hos
  tape := htape
  output := hout
  size := hsz
  keep b hlt hn := hkeep b hlt (fun e => by
    rcases hb b e with h | h
    · exact hn h
    · omega)
  sup _ h := h
  sub _ h := .inl h
  foot b := by
    rintro ⟨i, o, h1, h2, h3⟩
    by_cases e : i = k
    · subst e; rw [sput_self] at h3; exact hb b h3
    · rw [AH.get_put_ne e] at h1; rw [sput_ne e] at h3; exact .inl ⟨i, o, h1, h2, h3⟩
  sig := sput_ext hσ
end
end Go.Proofs.Ytgkkilbeingleaa
