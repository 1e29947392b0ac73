/- Operations that write, on abstract memory: stores, appends, maps. Nothing of the program is named here. -/
import Derived.Test.YtcmnjoepadjioaaAw7
namespace Go.Proofs.Ytcmnjoepadjioaa
open Go.RowKit Go.Maps

open Classical in
noncomputable def putA (f : Value → Option AV) (u : Value) (a : AV) : Value → Option AV := fun x => if x = u then some a else f x
theorem putA_same (f : Value → Option AV) (u : Value) (a : AV) : putA f u a u = some a := by simp [putA]
theorem putA_other (f : Value → Option AV) {u x : Value} (a : AV) (h : x ≠ u) : putA f u a x = f x := by simp [putA, h]
inductive WO where
  | st (n : Nat)
  | app (t sz bytes : Nat)
  | mset (kt : TypeId)
  | apz (t sz bytes : Nat) (z : List AV)
  | clr (sz : Nat) (z : List AV)
inductive WrR (P : Program) (id : Nat) : WO → List AV → AH → AV → AH → Prop
  | st_box (n i off : Nat) (t : TypeId) (cs : List AV) (a : AV) (H : AH) : H.get i = some (.box t cs) → a.part = true → a.cells.length = n → off + n ≤ cs.length → WrR P id (.st n) [.ptr i off, a] H .any (H.put i (.box t (cs.take off ++ a.cells ++ cs.drop (off + n))))
  | st_row (n i sz k j : Nat) (t : TypeId) (es : List (List AV)) (e : List AV) (a : AV) (H : AH) : H.get i = some (.row t sz es) → es[k]? = some e → a.part = true → a.cells.length = n → j + n ≤ sz →
      WrR P id (.st n) [.eptr i sz k j, a] H .any (H.put i (.row t sz (es.set k (e.take j ++ a.cells ++ e.drop (j + n)))))
  | app_row (t sz bytes r off n : Nat) (es ys : List (List AV)) (x : AV) (H : AH) : H.get r = some (.row t sz es) → off + n ≤ es.length → ElA H sz x ys → n + ys.length ≤ maxLen → (n + ys.length) * bytes ≤ 140737488355328 →
      WrR P id (.app t sz bytes) [.osl r sz off n, x] H (.osl id sz 0 (n + ys.length)) ((H.kill r).put id (.row t sz ((es.drop off).take n ++ ys)))
  | app_nil (t sz bytes : Nat) (ys : List (List AV)) (x : AV) (H : AH) : ElA H sz x ys → ys.length ≤ maxLen → ys.length * bytes ≤ 140737488355328 →
      WrR P id (.app t sz bytes) [.p (.slice none 0 0), x] H (.osl id sz 0 ys.length) (H.put id (.row t sz ys))
  | mset (kt : TypeId) (i n : Nat) (f : Value → Option AV) (key a : AV) (u : Value) (H : AH) : H.get i = some (.map kt n f) → Keyed P kt → key.val = some u → (keyOf P kt u).isSome = true → n < maxLen → WrR P id (.mset kt) [.mp i, key, a] H .any (H.put i (.map kt (n + 1) (putA f u a)))
  | apz (t sz bytes : Nat) (z : List AV) (k : IntKind) (n : Int) (H : AH) : 0 ≤ n → n ≤ maxLen → n * bytes ≤ 140737488355328 →
      WrR P id (.apz t sz bytes z) [.p (.slice none 0 0), .p (.int k n)] H (.osl id sz 0 n.toNat) (H.put id (.row t sz (List.replicate n.toNat z)))
  | clr (sz r off n : Nat) (z : List AV) (t : TypeId) (es : List (List AV)) (H : AH) : H.get r = some (.row t sz es) → off + n ≤ es.length → WrR P id (.clr sz z) [.osl r sz off n] H .any (H.put r (.row t sz (es.take off ++ List.replicate n z ++ es.drop (off + n))))
def clsW (P : Program) (o : Op) : Option (WO × List Operand) :=
  match o with
  | .store t x v => (P.info? t).map fun i => (.st i.size, [x, v])
  | .mapUpdate t m k v | .insert t m k v => match P.underlying t with
    | some (.map kt _) => some (.mset kt, [m, k, v])
    | _ => none
  | .call c => match c.callee, c.args.toList, c.argTypes.toList with
    | .builtin .append, [s, x], [t, t'] => match P.underlying t with
      | some (.slice e) => match zeroA P e, P.info? e with
        | some z, some j => if t ≠ t' ∨ j.size = 0 ∨ z.length ≠ j.size then (if j.size = 0 ∨ z.length ≠ j.size then none else match P.underlying t' with | some (.int _) => some (.apz e j.size j.bytes z, [s, x]) | _ => none) else some (.app e j.size j.bytes, [s, x])
        | _, _ => none
      | _ => none
    | .builtin .clear, [s], [t] => match P.underlying t with
      | some (.slice e) => match zeroA P e, P.info? e with
        | some z, some j => if j.size = 0 ∨ z.length ≠ j.size then none else some (.clr j.size z, [s])
        | _, _ => none
      | _ => none
    | _, _, _ => none
  | _ => none

section
variable {P : Program} {w : World} {S : Nat → Prop} {σ : Nat → Option Value} {ev : Operand → Value} {H : AH}
theorem splice_get {α : Type} (L vs : List α) (p q : Nat) (h : p + vs.length ≤ L.length) : (L.take p ++ vs ++ L.drop (p + vs.length))[q]? = if q < p then L[q]? else if q < p + vs.length then vs[q - p]? else L[q]? := by
  have hl : (L.take p).length = p := by rw [List.length_take]; omega
  by_cases h1 : q < p
  · rw [if_pos h1, List.append_assoc, List.getElem?_append_left (by omega), List.getElem?_take, if_pos h1]
  · rw [if_neg h1]
    by_cases h2 : q < p + vs.length
    · rw [if_pos h2, List.getElem?_append_left (by rw [List.length_append]; omega), List.getElem?_append_right (by omega), hl]
    · rw [if_neg h2, List.getElem?_append_right (by rw [List.length_append]; omega), List.length_append, hl, List.getElem?_drop]
      congr 1; omega
theorem splice_len {α : Type} (L vs : List α) (p : Nat) (h : p + vs.length ≤ L.length) : (L.take p ++ vs ++ L.drop (p + vs.length)).length = L.length := by
  simp; omega
theorem sput_id {i : Nat} {u : Value} (h : σ i = some u) : sput σ i u = σ := by
  funext k
  unfold sput
  split
  · rename_i e; rw [e, h]
  · rfl
/-- cells of a block of one's own are written -/
theorem set_eff1 (hs : Sat P w S σ H) {i : Nat} {o o' : AO} {u : Value} {g off : Nat} {t : TypeId} {arr : Array Value} {vs : List Value} {op : Oper} {nx : Next}
    (hg : H.get i = some o) (how : o.owned = true) (hσ : σ i = some u) (hu : blkOf u = some g) (hb : Blk w g t arr) {id : Nat} (hii : i < H.nx) (hnx : (∃ v, nx = .value v) ∨ nx = .skip)
    (hrun : (execOp ev op).run P w = .ok nx (w.setRow g (arr.toList.take off ++ vs ++ arr.toList.drop (off + vs.length)).toArray))
    (hobj : ∀ w', (∀ b, b ≠ g → w'.heap[b]? = w.heap[b]?) → Blk w' g t (arr.toList.take off ++ vs ++ arr.toList.drop (off + vs.length)).toArray → ObjOk P w' S σ i o') : Eff P w S σ H ev op id .any (H.put i o') := by
  have hkeep : ∀ b, b ≠ g → (w.setRow g (arr.toList.take off ++ vs ++ arr.toList.drop (off + vs.length)).toArray).heap[b]? = w.heap[b]? := fun b hb => setRow_other w g b _ hb
  have hnone : ∀ x, σ i = some x → x = u := fun x hx => by rw [hσ] at hx; injection hx with hx; exact hx.symm
  have hsp : sput σ i u = σ := sput_id hσ
  have hbk : (σ i).bind blkOf = some g := by rw [hσ]; exact hu
  have hsat := hs.upd (w' := w.setRow g (arr.toList.take off ++ vs ++ arr.toList.drop (off + vs.length)).toArray) (k := i) (o' := o') hii hnone (by simp) (fun b hb hne => hkeep b (fun e => hne (by rw [hu, e]))) (fun b hb => by
      rw [hu] at hb; injection hb with hb; subst hb
      exact ⟨hs.sep i o g hg how hbk, fun k o2 hk h2 h3 h4 => hk (hs.dj k i o2 o g h2 hg h3 how h4 hbk)⟩)
    (by rw [hsp]; exact hobj _ hkeep (setRow_heap w g arr _ t (0, 0) hb)) (fun j o b h1 h2 h3 => hs.lt h1 h2 h3) (fun A n c e => hs.sl i A n c (by rw [hσ, e]))
  have hext := Ext.upd (w' := w.setRow g (arr.toList.take off ++ vs ++ arr.toList.drop (off + vs.length)).toArray) (k := i) (o' := o') hs hnone rfl rfl rfl (by simp) (fun b hb hne => hkeep b (fun e => hne (by rw [hu, e]))) (fun b hb => by
      rw [hu] at hb; injection hb with hb; subst hb; exact .inl ⟨i, o, hg, how, hbk⟩)
  rw [hsp] at hsat hext
  exact ⟨nx, _, σ, hrun, hnx.elim (fun ⟨v, h⟩ => .inl ⟨v, h, .any _⟩) (fun h => .inr ⟨h, rfl⟩), hsat, hext, fun _ _ => rfl⟩
theorem set_eff (hs : Sat P w S σ H) {i : Nat} {o o' : AO} {u : Value} {g off : Nat} {t : TypeId} {arr : Array Value} {vs : List Value} {op : Oper} {T x : Operand} {ty : TypeId} {j : TypeInfo} {v : Value}
    (hop : op.op = .store ty T x) (hi : P.info? ty = some j) (hg : H.get i = some o) (how : o.owned = true) (hσ : σ i = some u) (hu : blkOf u = some g) (hb : Blk w g t arr)
    (hT : ev T = .pointer (some ⟨g, off, none⟩)) (hx : ev x = v) (hv : v.cells.toList = vs) (hvl : vs.length = j.size) (h1 : ∀ u ∈ vs, u.oneCell' = true) (hfit : off + vs.length ≤ arr.size) {id : Nat} (hii : i < H.nx)
    (hobj : ∀ w', (∀ b, b ≠ g → w'.heap[b]? = w.heap[b]?) → Blk w' g t (arr.toList.take off ++ vs ++ arr.toList.drop (off + vs.length)).toArray → ObjOk P w' S σ i o') : Eff P w S σ H ev op id .any (H.put i o') := by
  refine set_eff1 hs hg how hσ hu hb hii (.inr rfl) ?_ hobj
  have := run_storeCells_at (P := P) g off t vs 0 arr w hb (by omega) h1
  simp only [Nat.add_zero] at this
  have hsz : v.cells.size = j.size := by rw [← hvl, ← hv, Array.length_toList]
  simp [execOp, hop, Instr.storeAt, hT, hx, Instr.sureAddr, storeVar, sizeOf, typeInfo, hi, hsz, hv, this]
theorem wr_store {o : Oper} {t : TypeId} {x v : Operand} {j : TypeInfo} {a : AV} {args : List AV} {id : Nat} {H' : AH} (hs : Sat P w S σ H) (ho : o.op = .store t x v) (hi : P.info? t = some j) (hp : WrR P id (.st j.size) args H a H') (hr : Rps w S σ args [ev x, ev v]) :
    Eff P w S σ H ev o id a H' := by
  cases hp with
  | st_box _ i off t' cs a' _ hg hpart hlen hle =>
    obtain ⟨v1, v2, e1, q1, q2⟩ := hr.two_inv
    simp only [List.cons.injEq, and_true] at e1
    obtain ⟨rfl, rfl⟩ := e1
    obtain ⟨g, hx, hσ⟩ := q1.ptr_inv
    obtain ⟨c1, c2⟩ := q2.cells hpart
    obtain ⟨g', arr, m1, m2, m3, m4⟩ := hs.obj i _ hg
    rw [hσ] at m1
    simp only [Option.some.injEq, Value.pointer.injEq, Addr.mk.injEq, and_true] at m1
    subst m1
    have hcl : cs.length = arr.size := by rw [m3.1, Array.length_toList]
    have hvl : (ev v).cells.toList.length = j.size := by rw [← c1.1]; exact hlen
    refine set_eff hs ho hi hg rfl hσ rfl m2 hx rfl rfl hvl (fun u hu => c2 u (Array.mem_toList_iff.1 hu)) (by omega) (hs.dom _ _ hσ) (fun w' hk hb => ⟨g, _, hσ, hb, ?_, fun u hu => ?_⟩)
    · have hS : ∀ b, S b → w'.heap[b]? = w.heap[b]? := fun b hb' => hk b (fun e => hs.sep i _ b hg rfl (by rw [hσ, e]; rfl) hb')
      rw [List.toList_toArray, hvl]
      exact (((m3.take off).append c1).append (m3.drop _)).mono (fun _ h => h) hS (fun _ _ h => h)
    · rw [← Array.mem_toList_iff, List.toList_toArray] at hu
      rcases List.mem_append.1 hu with hu | hu
      · rcases List.mem_append.1 hu with hu | hu
        · exact m4 u (Array.mem_toList_iff.1 (List.mem_of_mem_take hu))
        · exact c2 u (Array.mem_toList_iff.1 hu)
      · exact m4 u (Array.mem_toList_iff.1 (List.mem_of_mem_drop hu))
  | st_row _ i sz k jj t' es e a' _ hg he hpart hlen hle =>
    obtain ⟨v1, v2, e1, q1, q2⟩ := hr.two_inv
    simp only [List.cons.injEq, and_true] at e1
    obtain ⟨rfl, rfl⟩ := e1
    obtain ⟨g, o1, n, c, hx, hσ⟩ := q1.eptr_inv
    obtain ⟨c1, c2⟩ := q2.cells hpart
    obtain ⟨A, c', m1, m2, m3, m4, m5⟩ := hs.obj i _ hg
    rw [hσ] at m1
    simp only [Option.some.injEq, Value.slice.injEq] at m1
    obtain ⟨rfl, rfl, rfl⟩ := m1
    rcases m5 with ⟨m5, _⟩ | ⟨g', o', arr, m5, k1, k2, k3, k4⟩
    · cases m5
    simp only [Option.some.injEq, Addr.mk.injEq, and_true] at m5
    obtain ⟨rfl, rfl⟩ := m5
    have hkl : k < es.length := (List.getElem?_eq_some_iff.1 he).1
    have hel : e.length = sz := m2 e (List.mem_of_getElem? he)
    have hvl : (ev v).cells.toList.length = j.size := by rw [← c1.1]; exact hlen
    have hks : (k + 1) * sz ≤ c * sz := Nat.mul_le_mul_right _ (by omega)
    rw [Nat.add_mul, Nat.one_mul] at hks
    have hfit : o1 + k * sz + jj + (ev v).cells.toList.length ≤ arr.size := by rw [hvl]; omega
    have hspl : ∀ q, (arr.toList.take (o1 + k * sz + jj) ++ (ev v).cells.toList ++ arr.toList.drop (o1 + k * sz + jj + (ev v).cells.toList.length))[q]? = _ := fun q => splice_get arr.toList (ev v).cells.toList (o1 + k * sz + jj) q (by rw [Array.length_toList]; exact hfit)
    refine set_eff hs ho hi hg rfl hσ rfl k1 hx rfl rfl hvl (fun u hu => c2 u (Array.mem_toList_iff.1 hu)) hfit (hs.dom _ _ hσ) (fun w' hk hb => ⟨_, c, by rw [hσ, List.length_set], fun x hx => ?_, by rw [List.length_set]; exact m3, m4, .inr ⟨g, o1, _, rfl, hb, ?_, fun u hu => ?_, fun i' e' j' b he' hb' => ?_⟩⟩)
    · rcases List.mem_or_eq_of_mem_set hx with hx | hx
      · exact m2 x hx
      · subst hx
        rw [← hlen, splice_len _ _ _ (by omega)]; exact hel
    · rw [List.size_toArray, splice_len _ _ _ (by rw [Array.length_toList]; exact hfit), Array.length_toList]; exact k2
    · rw [← Array.mem_toList_iff, List.toList_toArray] at hu
      rcases List.mem_append.1 hu with hu | hu
      · rcases List.mem_append.1 hu with hu | hu
        · exact k3 u (Array.mem_toList_iff.1 (List.mem_of_mem_take hu))
        · exact c2 u (Array.mem_toList_iff.1 hu)
      · exact k3 u (Array.mem_toList_iff.1 (List.mem_of_mem_drop hu))
    · have hS : ∀ b, S b → w'.heap[b]? = w.heap[b]? := fun b hb' => hk b (fun e => hs.sep i _ b hg rfl (by rw [hσ, e]; rfl) hb')
      have mono : ∀ {a : AV} {v : Value}, Rp w S σ a v → Rp w' S σ a v := fun h => h.mono (fun _ h => h) hS (fun _ _ h => h)
      rw [List.getElem?_toArray, hspl, hvl]
      by_cases hik : k = i'
      · subst hik
        rw [List.getElem?_set_self hkl] at he'
        injection he' with he'
        subst he'
        rw [← hlen, splice_get _ _ _ _ (by omega), hlen] at hb'
        by_cases d1 : j' < jj
        · rw [if_pos d1] at hb'
          obtain ⟨u, hu, hru⟩ := k4 k e j' b he hb'
          exact ⟨u, by rw [if_pos (by omega), Array.getElem?_toList]; exact hu, mono hru⟩
        · rw [if_neg d1] at hb'
          by_cases d2 : j' < jj + j.size
          · rw [if_pos d2] at hb'
            obtain ⟨u, hu, hru⟩ := c1.at_ hb'
            refine ⟨u, ?_, mono hru⟩
            rw [if_neg (by omega), if_pos (by omega), show o1 + k * sz + j' - (o1 + k * sz + jj) = j' - jj by omega]; exact hu
          · rw [if_neg d2] at hb'
            obtain ⟨u, hu, hru⟩ := k4 k e j' b he hb'
            exact ⟨u, by rw [if_neg (by omega), if_neg (by omega), Array.getElem?_toList]; exact hu, mono hru⟩
      · rw [List.getElem?_set_ne hik] at he'
        obtain ⟨u, hu, hru⟩ := k4 i' e' j' b he' hb'
        have hj' : j' < sz := by have := (List.getElem?_eq_some_iff.1 hb').1; rw [m2 e' (List.mem_of_getElem? he')] at this; exact this
        refine ⟨u, ?_, mono hru⟩
        rcases Nat.lt_or_gt_of_ne hik with hlt | hgt
        · have : (k + 1) * sz ≤ i' * sz := Nat.mul_le_mul_right _ (by omega)
          rw [Nat.add_mul, Nat.one_mul] at this
          rw [if_neg (by omega), if_neg (by omega), Array.getElem?_toList]; exact hu
        · have : (i' + 1) * sz ≤ k * sz := Nat.mul_le_mul_right _ (by omega)
          rw [Nat.add_mul, Nat.one_mul] at this
          rw [if_pos (by omega), Array.getElem?_toList]; exact hu
theorem wr_mset {o : Oper} {t kt ve : TypeId} {m k v : Operand} {a : AV} {args : List AV} {id : Nat} {H' : AH} (hs : Sat P w S σ H) (ho : o.op = .mapUpdate t m k v ∨ o.op = .insert t m k v) (hu : P.underlying t = some (.map kt ve)) (hp : WrR P id (.mset kt) args H a H')
    (hr : Rps w S σ args [ev m, ev k, ev v]) : Eff P w S σ H ev o id a H' := by
  cases hp with
  | mset _ i n f key a' u _ hg K hv hk hn =>
    obtain ⟨v1, v2, v3, e1, q1, q2, q3⟩ := hr.three_inv
    simp only [List.cons.injEq, and_true] at e1
    obtain ⟨rfl, rfl, rfl⟩ := e1
    obtain ⟨g, hx, hσ⟩ := q1.mp_inv
    have hku := AV.val_sound hv q2
    obtain ⟨g', f', m1, m2, m3⟩ := hs.obj i _ hg
    rw [hσ] at m1
    simp only [Option.some.injEq, Value.map.injEq] at m1
    subst m1
    obtain ⟨w', hrun0, hmap, hgr⟩ := m2.store K hu hn hk (ev v)
    have hrun : (execOp ev o).run P w = .ok .skip w' := by
      rcases ho with ho | ho <;> simp [execOp, ho, hx, hku, hrun0]
    have hnone : ∀ x, σ i = some x → x = .map (some g) := fun x hx => by rw [hσ] at hx; injection hx with hx; exact hx.symm
    have hsp : sput σ i (.map (some g)) = σ := sput_id hσ
    have hbk : (σ i).bind blkOf = some g := by rw [hσ]; rfl
    have hkeep : ∀ b, b < w.heap.size → blkOf (.map (some g)) ≠ some b → w'.heap[b]? = w.heap[b]? := fun b hb hne => hgr.block b hb (fun e => hne (by rw [e]; rfl))
    have hS : ∀ b, S b → w'.heap[b]? = w.heap[b]? := fun b hb => hkeep b (hs.sb b hb) (fun e => hs.sep i _ b hg rfl (by rw [hσ]; exact e) hb)
    have hsat := hs.upd (w' := w') (k := i) (o' := .map kt (n + 1) (putA f u a')) (hs.dom _ _ hσ) hnone hgr.size hkeep (fun b hb => by
        simp only [blkOf, Option.some.injEq] at hb; subst hb
        exact ⟨hs.sep i _ g hg rfl hbk, fun k o2 hk h2 h3 h4 => hk (hs.dj k i o2 _ g h2 hg h3 rfl h4 hbk)⟩)
      (by
        rw [hsp]
        refine ⟨g, _, hσ, hmap, fun x => ?_⟩
        by_cases hxu : x = u
        · subst hxu; exact .inr ⟨a', ev v, putA_same _ _ _, putO_same _ _ _, q3.mono (fun _ h => h) hS (fun _ _ h => h)⟩
        · rw [putA_other _ _ hxu, putO_other _ _ hxu]
          rcases m3 x with h | ⟨b, y, h1, h2, h3⟩
          · exact .inl h
          · exact .inr ⟨b, y, h1, h2, h3.mono (fun _ h => h) hS (fun _ _ h => h)⟩)
      (fun j o b h1 h2 h3 => hs.lt h1 h2 h3) (fun A n c e => by cases e)
    have hext := Ext.upd (w' := w') (k := i) (o' := .map kt (n + 1) (putA f u a')) hs hnone hgr.os hgr.tape hgr.output hgr.size hkeep (fun b hb => by
        simp only [blkOf, Option.some.injEq] at hb; subst hb; exact .inl ⟨i, _, hg, rfl, hbk⟩)
    rw [hsp] at hsat hext
    exact ⟨_, _, σ, hrun, .inr ⟨rfl, rfl⟩, hsat, hext, fun _ _ => rfl⟩
end
end Go.Proofs.Ytcmnjoepadjioaa
