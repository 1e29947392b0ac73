/- Struct and slice literals on abstract values; all operations that touch no memory, together. Nothing of the program is named here. -/
import Derived.Test.YtcmnjoepadjioaaAw4
namespace Go.Proofs.Ytcmnjoepadjioaa
open Go.RowKit

section
variable {P : Program} {w : World} {S : Nat → Prop} {σ : Nat → Option Value} {ev : Operand → Value}
theorem setFold (off : Nat) : ∀ (l : List Value) (k : Nat) (cs : Array Value), off + k + l.length ≤ cs.size →
    ((l.zipIdx k).foldl (fun (cs : Array Value) (x : Value × Nat) => cs.setIfInBounds (off + x.2) x.1) cs).toList = cs.toList.take (off + k) ++ l ++ cs.toList.drop (off + k + l.length)
  | [], k, cs, _ => by simp
  | v :: l, k, cs, h => by
    simp only [List.zipIdx_cons, List.foldl_cons, List.length_cons] at h ⊢
    rw [setFold off l (k + 1) _ (by rw [Array.size_setIfInBounds]; omega), Array.toList_setIfInBounds]
    have hlt : off + k < cs.toList.length := by rw [Array.length_toList]; omega
    rw [show off + (k + 1) = off + k + 1 by omega, List.take_set, List.drop_set_of_lt (by omega), List.take_succ_eq_append_getElem hlt, List.set_append_right _ _ (by rw [List.length_take]; omega), List.length_take,
      Nat.min_eq_left (by omega), Nat.sub_self]
    simp only [List.set_cons_zero, List.append_assoc, List.cons_append, List.nil_append]
    rw [show off + k + 1 + l.length = off + k + (l.length + 1) by omega]
theorem cells_fold (v : Value) (off : Nat) (cs : Array Value) (h : off + v.cells.size ≤ cs.size) :
    (v.cells.zipIdx.foldl (fun cs (c, j) => cs.setIfInBounds (off + j) c) cs).toList = cs.toList.take off ++ v.cells.toList ++ cs.toList.drop (off + v.cells.size) := by
  have := setFold off v.cells.toList 0 cs (by simpa using h)
  rw [Nat.add_zero, Array.length_toList] at this
  rw [← this, ← Array.foldl_toList, Array.toList_zipIdx]
theorem Rp.cells {a : AV} {v : Value} (h : Rp w S σ a v) (h1 : a.part = true) : Rps w S σ a.cells v.cells.toList ∧ ∀ u ∈ v.cells, u.oneCell' = true := by
  unfold AV.part at h1
  by_cases ho : a.one = true
  · have hv := h.one_cell ho
    have hc : v.cells = #[v] := by cases v <;> first | rfl | cases hv
    have ha : a.cells = [a] := by cases a <;> first | rfl | cases ho
    rw [hc, ha]
    exact ⟨.cons h .nil, fun u hu => by simp at hu; subst hu; exact hv⟩
  · cases a <;> first | (exfalso; exact ho rfl) | (exfalso; simp [AV.one] at h1; done) | skip
    obtain ⟨vs, rfl, q1, q2⟩ := h.agg_inv
    exact ⟨q1, q2⟩
theorem fillA_cells {cs : List AV} {off n : Nat} {pl : List (Nat × Nat)} {a : AV} {ps : List AV} {r : List AV} (h1 : a.part = true) (h : fillA cs ((off, n) :: pl) (a :: ps) = some r) :
    a.cells.length = n ∧ off + n ≤ cs.length ∧ fillA (cs.take off ++ a.cells ++ cs.drop (off + n)) pl ps = some r := by
  have one : ∀ b : AV, b.cells = [b] → (if n = 1 ∧ off + 1 ≤ cs.length then fillA (cs.set off b) pl ps else none) = some r → b.cells.length = n ∧ off + n ≤ cs.length ∧ fillA (cs.take off ++ b.cells ++ cs.drop (off + n)) pl ps = some r := by
    intro b hb hq
    by_cases hc : n = 1 ∧ off + 1 ≤ cs.length
    · rw [if_pos hc] at hq
      obtain ⟨hn, hc⟩ := hc
      subst hn
      rw [hb]
      refine ⟨rfl, hc, ?_⟩
      rw [List.set_eq_take_append_cons_drop, if_pos (by omega)] at hq
      simpa using hq
    · rw [if_neg hc] at hq; cases hq
  cases a <;> first | exact one _ rfl h | skip
  rename_i ds
  simp only [fillA] at h
  by_cases hc : ds.length = n ∧ off + n ≤ cs.length
  · rw [if_pos hc] at h; exact ⟨hc.1, hc.2, h⟩
  · rw [if_neg hc] at h; cases h
theorem fill_sound {place : Nat → Option (Nat × Nat)} : ∀ (xs : List (Nat × Value)) (pl : List (Nat × Nat)) (as_ : List AV) (cs r : List AV) (vs : Array Value), (as_.all AV.part) = true → Rps w S σ as_ (xs.map (·.2)) →
    xs.map (fun x => place x.1) = pl.map some → fillA cs pl as_ = some r → Rps w S σ cs vs.toList → (∀ u ∈ vs, u.oneCell' = true) → ∃ us : Array Value, Instr.fill place vs xs = some us ∧ Rps w S σ r us.toList ∧ ∀ u ∈ us, u.oneCell' = true
  | [], pl, as_, cs, r, vs, _, hr, hpl, hf, hc, h1 => by
    have : pl = [] := by cases pl with | nil => rfl | cons a b => simp at hpl
    subst this
    have : as_ = [] := List.eq_nil_of_length_eq_zero (by rw [hr.1]; rfl)
    subst this
    simp only [fillA, Option.some.injEq] at hf
    subst hf
    exact ⟨vs, rfl, hc, h1⟩
  | (i, v) :: xs, pl, as_, cs, r, vs, hall, hr, hpl, hf, hc, h1 => by
    match pl, as_, hpl, hr, hall with
    | (off, n) :: pl, a :: as_, hpl, hr, hall =>
      simp only [List.map_cons, List.cons.injEq] at hpl
      simp only [List.all_cons, Bool.and_eq_true] at hall
      obtain ⟨u, us, e, q1, q2⟩ := hr.uncons
      simp only [List.map_cons, List.cons.injEq] at e
      obtain ⟨rfl, rfl⟩ := e
      obtain ⟨k1, k2, k3⟩ := fillA_cells hall.1 hf
      obtain ⟨c1, c2⟩ := q1.cells hall.1
      have hsz : v.cells.size = n := by rw [← k1, c1.1, Array.length_toList]
      have hle : off + v.cells.size ≤ vs.size := by have h5 := hc.1; have h6 : vs.toList.length = vs.size := Array.length_toList; omega
      have hcf := cells_fold v off vs hle
      obtain ⟨us', g1, g2, g3⟩ := fill_sound xs pl as_ _ r (v.cells.zipIdx.foldl (fun cs (c, j) => cs.setIfInBounds (off + j) c) vs) hall.2 q2 hpl.2 k3
        (by rw [hcf, hsz]; exact ((hc.take off).append c1).append (hc.drop _))
        (fun u hu => by
          rw [← Array.mem_toList_iff, hcf] at hu
          rcases List.mem_append.1 hu with hu | hu
          · rcases List.mem_append.1 hu with hu | hu
            · exact h1 u (Array.mem_toList_iff.1 (List.mem_of_mem_take hu))
            · exact c2 u (Array.mem_toList_iff.1 hu)
          · exact h1 u (Array.mem_toList_iff.1 (List.mem_of_mem_drop hu)))
      refine ⟨us', ?_, g2, g3⟩
      rw [Instr.fill, hpl.1]
      simp only
      rw [if_neg (by simp only [Bool.or_eq_true, decide_eq_true_eq, not_or]; exact ⟨by omega, by omega⟩)]
      exact g1
theorem zeroA_run {t : TypeId} {z : List AV} (h : zeroA P t = some z) : ∃ v, (zeroValue t).run P w = .ok v w ∧ z = v.cells.toList.map .p ∧ Rps w S σ z v.cells.toList ∧ ∀ u ∈ v.cells, u.oneCell' = true := by
  unfold zeroA at h
  cases hi : P.info? t with
  | none => rw [hi] at h; cases h
  | some i =>
    rw [hi] at h
    simp only at h
    cases hz : i.zero with
    | none => rw [hz] at h; cases h
    | some v =>
      rw [hz] at h
      simp only at h
      split at h
      · rename_i hall
        injection h with h
        rw [Array.all_eq_true'] at hall
        refine ⟨v, by simp [zeroValue, typeInfo, hi, hz], h.symm, ?_, hall⟩
        subst h
        refine ⟨by simp, fun k a u ha hu => ?_⟩
        rw [List.getElem?_map, hu] at ha
        simp at ha; subst ha
        exact .data _ _ (.p _ (hall u (Array.mem_toList_iff.1 (List.mem_of_getElem? hu))))
      · cases h
theorem mapM_places {places : List (Nat × Nat)} : ∀ {xs : List (Nat × Operand)} {pl : List (Nat × Nat)}, xs.mapM (fun x => places[x.1]?) = some pl → xs.map (fun x => places[x.1]?) = pl.map some
  | [], pl, h => by simp at h; subst h; rfl
  | x :: xs, pl, h => by
    simp only [List.mapM_cons, Option.bind_eq_bind, Option.pure_def] at h
    cases h1 : places[x.1]? with
    | none => simp [h1] at h
    | some a =>
      cases h2 : xs.mapM (fun x => places[x.1]?) with
      | none => simp [h1, h2] at h
      | some r =>
        simp [h1, h2] at h
        subst h
        simp [h1, mapM_places h2]
theorem pu_bld {o : Oper} {t : TypeId} {parts : Array (Nat × Operand)} {a : AV} {args : List AV} {z : List AV} {pl : List (Nat × Nat)} (ho : o.op = .build t parts) (hc : clsP P o.op = some (.bld z pl, parts.toList.map (·.2)))
    (hp : PuR P (.bld z pl) args a) (hr : Rps w S σ args ((parts.toList.map (·.2)).map ev)) : Val1 P w S σ ev o a := by
  cases hp with
  | bld _ _ _ cs hall hf =>
    have hxs : ((parts.map fun x => (x.1, ev x.2)).toList).map (·.2) = (parts.toList.map (·.2)).map ev := by simp
    have fin : ∀ (place : Nat → Option (Nat × Nat)) (zv : Value), zeroA P t = some z → (P.info? t).bind (·.zero) = some zv → parts.toList.map (fun x => place x.1) = pl.map some →
        (∀ us, Instr.fill place zv.cells (parts.map fun x => (x.1, ev x.2)).toList = some us → P.built t (parts.map fun x => (x.1, ev x.2)).toList = some us) → Val1 P w S σ ev o (.agg cs) := by
      intro place zv hz hzv hpl hb
      obtain ⟨v, hv, _, q1, q2⟩ := zeroA_run (P := P) (w := w) (S := S) (σ := σ) hz
      have hvz : v = zv := by
        cases hi : P.info? t with
        | none => rw [hi] at hzv; cases hzv
        | some i =>
          rw [hi] at hzv
          simp only [Option.bind_some] at hzv
          simp [zeroValue, typeInfo, hi, hzv] at hv
          exact hv.symm
      subst hvz
      obtain ⟨us, g1, g2, g3⟩ := fill_sound (place := place) (parts.map fun x => (x.1, ev x.2)).toList pl args z cs v.cells hall (by rw [hxs]; exact hr) (by rw [← hpl]; simp) hf q1 q2
      exact ⟨.agg us, by simp [execOp, ho, run_build _ _ _ us (hb us g1)], Rps.agg g2 g3⟩
    rw [ho] at hc
    simp only [clsP] at hc
    cases hu : P.underlying t with
    | none => rw [hu] at hc; cases hc
    | some d =>
      rw [hu] at hc
      cases d <;> (try simp only at hc) <;> try (cases hc; done)
      case array n e =>
        cases hz : zeroA P t with
        | none => rw [hz] at hc; cases hc
        | some z' =>
          rw [hz] at hc
          simp only at hc
          cases hi : P.info? e with
          | none => rw [hi] at hc; cases hc
          | some j =>
            rw [hi] at hc
            simp only [Option.some.injEq, Prod.mk.injEq, PO.bld.injEq] at hc
            obtain ⟨⟨rfl, rfl⟩, _⟩ := hc
            cases hit : P.info? t with
            | none => unfold zeroA at hz; rw [hit] at hz; cases hz
            | some it =>
              cases hzz : it.zero with
              | none => unfold zeroA at hz; rw [hit] at hz; simp only [hzz] at hz; cases hz
              | some zv =>
                refine fin (fun i => some (i * j.size, j.size)) zv hz (by rw [hit]; exact hzz) (by simp) (fun us hus => ?_)
                unfold Program.built
                rw [hit, hu]
                simp only [hzz, hi]
                exact hus
      case struct fields =>
        cases hz : zeroA P t with
        | none => rw [hz] at hc; cases hc
        | some z' =>
          rw [hz] at hc
          simp only at hc
          cases hpl : fields.toList.mapM (fun f => (P.info? f.type).map fun i => (f.offset, i.size)) with
          | none => rw [hpl] at hc; cases hc
          | some places =>
            rw [hpl] at hc
            simp only at hc
            cases hp2 : parts.toList.mapM (fun x => places[x.1]?) with
            | none => rw [hp2] at hc; cases hc
            | some pl' =>
              rw [hp2] at hc
              simp only [Option.some.injEq, Prod.mk.injEq, PO.bld.injEq] at hc
              obtain ⟨⟨rfl, rfl⟩, _⟩ := hc
              cases hit : P.info? t with
              | none => unfold zeroA at hz; rw [hit] at hz; cases hz
              | some it =>
                cases hzz : it.zero with
                | none => unfold zeroA at hz; rw [hit] at hz; simp only [hzz] at hz; cases hz
                | some zv =>
                  refine fin (fun i => places[i]?) zv hz (by rw [hit]; exact hzz) (mapM_places hp2) (fun us hus => ?_)
                  unfold Program.built
                  rw [hit, hu]
                  simp only [hzz, hpl]
                  simpa using hus
/-- an operation that touches no memory -/
theorem pu_sound {o : Oper} {po : PO} {xs : List Operand} {args : List AV} {a : AV} (hc : clsP P o.op = some (po, xs)) (hp : PuR P po args a) (hr : Rps w S σ args (xs.map ev))
    (hsz : ∀ id A n c, σ id = some (.slice A n c) → n ≤ c ∧ (0 < c → ∃ g o, A = some ⟨g, o, none⟩)) : Val1 P w S σ ev o a := by
  have hc0 := hc
  cases ho : o.op <;> rw [ho] at hc <;> simp only [clsP] at hc <;> try (cases hc; done)
  case move x => obtain ⟨rfl, rfl⟩ := (by simpa using hc : PO.mv = po ∧ [x] = xs); exact pu_mv (.inl ho) hp hr
  case assign x => obtain ⟨rfl, rfl⟩ := (by simpa using hc : PO.mv = po ∧ [x] = xs); exact pu_mv (.inr ho) hp hr
  case pick x y z => obtain ⟨rfl, rfl⟩ := (by simpa using hc : PO.pick = po ∧ [x, y, z] = xs); exact pu_pick ho hp hr
  case nilCheck x => obtain ⟨rfl, rfl⟩ := (by simpa using hc : PO.nilck = po ∧ [x] = xs); exact pu_nilck ho hp hr
  case binOp op t x y ty => obtain ⟨rfl, rfl⟩ := (by simpa using hc : PO.bin op t = po ∧ [x, y] = xs); exact pu_bin ho hp hr hsz
  case unOp op t x => obtain ⟨rfl, rfl⟩ := (by simpa using hc : PO.un op = po ∧ [x] = xs); exact pu_un ho hp hr
  case extract x i => obtain ⟨rfl, rfl⟩ := (by simpa using hc : PO.ext i = po ∧ [x] = xs); exact pu_ext ho hp hr
  case makeFunc f ys zs => obtain ⟨rfl, rfl⟩ := (by simpa using hc : PO.mkfn f ys.size = po ∧ ys.toList ++ zs.toList = xs); exact pu_mkfn ho hp hr
  case build t parts =>
    have : ∃ z pl, po = .bld z pl ∧ xs = parts.toList.map (·.2) := by
      revert hc
      split
      · split
        · split
          · intro hc; simp at hc; exact ⟨_, _, hc.1.symm, hc.2.symm⟩
          · intro hc; cases hc
        · intro hc; cases hc
      · split
        · intro hc; simp at hc; exact ⟨_, _, hc.1.symm, hc.2.symm⟩
        · intro hc; cases hc
      · intro hc; cases hc
    obtain ⟨z, pl, rfl, rfl⟩ := this
    exact pu_bld ho hc0 hp hr
  case convert s d x =>
    cases h1 : P.underlying s with
    | none => rw [h1] at hc; cases hc
    | some u =>
      cases h2 : P.underlying d with
      | none => rw [h1, h2] at hc; cases u <;> cases hc
      | some v =>
        rw [h1, h2] at hc
        cases u <;> cases v <;> simp only at hc <;> try (cases hc; done)
        · simp only [Option.some.injEq, Prod.mk.injEq] at hc; obtain ⟨rfl, rfl⟩ := hc; exact pu_conv ho h1 h2 hp hr
        · simp only [Option.some.injEq, Prod.mk.injEq] at hc; obtain ⟨rfl, rfl⟩ := hc; exact pu_same ho h1 h2 hp hr
  case fieldAddr t x f =>
    revert hc
    split
    · rename_i fields h1
      split
      · rename_i fd h2
        split
        · rename_i i h3
          split
          · intro hc; cases hc
          · rename_i h4
            intro hc
            simp only [Option.some.injEq, Prod.mk.injEq] at hc
            obtain ⟨rfl, rfl⟩ := hc
            exact pu_addOff ho h1 h2 h3 h4 hp hr
        · intro hc; cases hc
      · intro hc; cases hc
    · intro hc; cases hc
  case indexAddr t x i =>
    revert hc
    split
    · rename_i e h1
      cases h3 : P.info? e with
      | none => intro hc; cases hc
      | some j =>
        intro hc
        simp only [Option.map_some, Option.some.injEq, Prod.mk.injEq] at hc
        obtain ⟨rfl, rfl⟩ := hc
        exact pu_idx ho h1 h3 hp hr hsz
    · rename_i n e h1
      cases h3 : P.info? e with
      | none => intro hc; cases hc
      | some j =>
        intro hc
        simp only [Option.map_some, Option.some.injEq, Prod.mk.injEq] at hc
        obtain ⟨rfl, rfl⟩ := hc
        exact pu_aidx ho h1 h3 hp hr
    · intro hc; cases hc
  case field t x f =>
    revert hc
    split
    · rename_i fields h1
      split
      · rename_i fd h2
        split
        · rename_i b j h3 h4
          intro hc
          simp only [Option.some.injEq, Prod.mk.injEq] at hc
          obtain ⟨rfl, rfl⟩ := hc
          exact pu_fld ho h1 h2 h3 h4 hp hr
        · intro hc; cases hc
      · intro hc; cases hc
    · intro hc; cases hc
  case slice t x lo hi mx =>
    cases mx with
    | some m => cases hc
    | none =>
      simp only at hc
      revert hc
      split
      · rename_i e h1
        cases h3 : P.info? e with
        | none => intro hc; cases hc
        | some j =>
          intro hc
          simp only [Option.map_some, Option.some.injEq, Prod.mk.injEq] at hc
          obtain ⟨rfl, rfl⟩ := hc
          exact pu_slc ho h1 h3 hp hr
      · rename_i h1
        intro hc
        simp only [Option.some.injEq, Prod.mk.injEq] at hc
        obtain ⟨rfl, rfl⟩ := hc
        exact pu_ssl ho h1 hp hr
      · intro hc; cases hc
  case index t x i =>
    revert hc
    split
    · rename_i h1
      intro hc
      simp only [Option.some.injEq, Prod.mk.injEq] at hc
      obtain ⟨rfl, rfl⟩ := hc
      exact pu_sidx ho h1 hp hr
    · intro hc; cases hc
  case call c =>
    revert hc
    split
    · rename_i hb
      cases ht : c.argTypes[0]? with
      | none => intro hc; simp at hc
      | some ty =>
        simp only [Option.bind_some]
        split
        · rename_i h1
          split
          · rename_i x h2
            intro hc
            simp only [Option.some.injEq, Prod.mk.injEq] at hc
            obtain ⟨rfl, rfl⟩ := hc
            exact pu_slen ho hb ht h1 h2 hp hr
          · intro hc; cases hc
        · rename_i e h1
          split
          · rename_i x h2
            intro hc
            simp only [Option.some.injEq, Prod.mk.injEq] at hc
            obtain ⟨rfl, rfl⟩ := hc
            exact pu_len ho hb ht h1 h2 hp hr
          · intro hc; cases hc
        · intro hc; cases hc
    · rename_i hb
      cases ht : c.argTypes[0]? with
      | none => intro hc; simp at hc
      | some ty =>
        simp only [Option.bind_some]
        split
        · rename_i e h1
          split
          · rename_i x h2
            intro hc
            simp only [Option.some.injEq, Prod.mk.injEq] at hc
            obtain ⟨rfl, rfl⟩ := hc
            exact pu_cap ho hb ht h1 h2 hp hr
          · intro hc; cases hc
        · intro hc; cases hc
    · rename_i hb
      split
      · rename_i x y h2
        intro hc
        simp only [Option.some.injEq, Prod.mk.injEq] at hc
        obtain ⟨rfl, rfl⟩ := hc
        exact pu_mn ho hb h2 hp hr
      · intro hc; cases hc
    · rename_i hb
      split
      · rename_i x y h2
        intro hc
        simp only [Option.some.injEq, Prod.mk.injEq] at hc
        obtain ⟨rfl, rfl⟩ := hc
        exact pu_mx ho hb h2 hp hr
      · intro hc; cases hc
    · intro hc; cases hc
end
end Go.Proofs.Ytcmnjoepadjioaa
