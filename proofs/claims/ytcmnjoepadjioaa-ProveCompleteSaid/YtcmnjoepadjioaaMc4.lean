/- Texts that the proof rests on, part 4: what each holds stands at its head. -/
import Derived.Test.YtcmnjoepadjioaaMc3
import Derived.Orders

/- Appends, on abstract memory. Nothing of the program is named here. -/
namespace Go.Proofs.Ytcmnjoepadjioaa
open Go.RowKit Go.Maps

section
variable {P : Program} {w : World} {S : Nat → Prop} {σ : Nat → Option Value} {ev : Operand → Value} {H : AH}
/-- what a slice's elements read as -/
def Elts (w : World) (S : Nat → Prop) (σ : Nat → Option Value) (sz : Nat) (A : Option Addr) (ys : List (List AV)) : Prop :=
  (∀ e ∈ ys, e.length = sz) ∧ ∃ us : List Value, us.length = ys.length * sz ∧ Rps w S σ ys.flatten us ∧ (∀ u ∈ us, u.oneCell' = true) ∧ ∀ (j : Nat) (u : Value), us[j]? = some u → ∃ g o, A = some ⟨g, o, none⟩ ∧ w.cell? ⟨g, o + j, none⟩ = some u
theorem elts_of {sz : Nat} {A : Option Addr} : ∀ {ys : List (List AV)} (_ : ∀ e ∈ ys, e.length = sz) (n : Nat) (_ : n = ys.length)
    (_ : ∀ (i : Nat) (e : List AV) (j : Nat) (a : AV), ys[i]? = some e → e[j]? = some a → ∃ g o u, A = some ⟨g, o, none⟩ ∧ w.cell? ⟨g, o + i * sz + j, none⟩ = some u ∧ Rp w S σ a u ∧ u.oneCell' = true), Elts w S σ sz A ys := by
  intro ys hl n hn h
  have flat : ∀ m, m ≤ ys.flatten.length → ∃ us : List Value, us.length = m ∧ Rps w S σ (ys.flatten.take m) us ∧ (∀ u ∈ us, u.oneCell' = true) ∧ ∀ (j : Nat) (u : Value), us[j]? = some u → ∃ g o, A = some ⟨g, o, none⟩ ∧ w.cell? ⟨g, o + j, none⟩ = some u := by
    intro m
    induction m with
    | zero => intro _; exact ⟨[], rfl, by rw [List.take_zero]; exact .nil, by simp, by simp⟩
    | succ m ih =>
      intro hm
      obtain ⟨us, h1, h2, h3, h4⟩ := ih (by omega)
      have hfl := flat_length hl
      have hsz : 0 < sz := by
        rcases Nat.eq_zero_or_pos sz with h0 | h0
        · rw [h0, Nat.mul_zero] at hfl; omega
        · exact h0
      have hq : m / sz < ys.length := by rw [Nat.div_lt_iff_lt_mul hsz]; omega
      have hr : m % sz < (ys[m / sz]).length := by rw [hl _ (List.getElem_mem hq)]; exact Nat.mod_lt _ hsz
      have hm' : m / sz * sz + m % sz = m := by rw [Nat.mul_comm]; exact Nat.div_add_mod m sz
      have hfe := flat_elem hl (m / sz) _ (m % sz) _ (List.getElem?_eq_getElem hq) (List.getElem?_eq_getElem hr)
      rw [hm'] at hfe
      obtain ⟨g, o, u, rfl, hc, hru, ho⟩ := h (m / sz) _ (m % sz) _ (List.getElem?_eq_getElem hq) (List.getElem?_eq_getElem hr)
      rw [show o + m / sz * sz + m % sz = o + m by omega] at hc
      refine ⟨us ++ [u], by simp [h1], ?_, fun x hx => ?_, fun j x hx => ?_⟩
      · have hlt : m < ys.flatten.length := by omega
        rw [List.take_succ_eq_append_getElem hlt]
        rw [List.getElem?_eq_getElem hlt] at hfe
        injection hfe with hfe
        rw [hfe]
        exact h2.append (.cons hru .nil)
      · rcases List.mem_append.1 hx with hx | hx
        · exact h3 x hx
        · simp at hx; subst hx; exact ho
      · by_cases hj : j < us.length
        · rw [List.getElem?_append_left hj] at hx; exact h4 j x hx
        · rw [List.getElem?_append_right (by omega)] at hx
          have : j - us.length = 0 := by have := (List.getElem?_eq_some_iff.1 hx).1; simp at this; omega
          rw [this] at hx
          simp at hx; subst hx
          exact ⟨g, o, rfl, by rw [show j = m by omega]; exact hc⟩
  obtain ⟨us, h1, h2, h3, h4⟩ := flat ys.flatten.length (Nat.le_refl _)
  rw [List.take_length] at h2
  exact ⟨hl, us, by rw [h1, flat_length hl], h2, h3, h4⟩
theorem sub_at {es : List (List AV)} {off n i : Nat} {e : List AV} (h : ((es.drop off).take n)[i]? = some e) : i < n ∧ es[off + i]? = some e := by
  rw [List.getElem?_take] at h
  split at h
  · rw [List.getElem?_drop] at h; exact ⟨‹_›, h⟩
  · cases h
theorem sub_mem {es : List (List AV)} {off n : Nat} {e : List AV} (h : e ∈ (es.drop off).take n) : e ∈ es := List.mem_of_mem_drop (List.mem_of_mem_take h)
theorem sub_len {es : List (List AV)} {off n : Nat} (h : off + n ≤ es.length) : ((es.drop off).take n).length = n := by rw [List.length_take, List.length_drop]; omega
theorem el_sound (hs : Sat P w S σ H) {sz : Nat} {x : AV} {ys : List (List AV)} {v : Value} (h : ElA H sz x ys) (hr : Rp w S σ x v) : ∃ A c, v = .slice A ys.length c ∧ Elts w S σ sz A ys ∧ ys.length ≤ c ∨ (ys = [] ∧ v = .slice none 0 c ∧ A = none) := by
  cases h with
  | dsl xs =>
    obtain ⟨A, c, z, rfl, r1, r2, r3, r4, r5, r6⟩ := hr.dsl_inv.dsl_inv
    refine ⟨A, c, .inl ⟨rfl, elts_of r3 _ rfl (fun i e j a he ha => ?_), r1⟩⟩
    obtain ⟨g, o, rfl, _, hc⟩ := r4 i e j a he ha
    exact ⟨g, o, _, rfl, hc, .data _ _ (r5 i e j a he ha), r6 _ _⟩
  | row id off n t es hg hle =>
    obtain ⟨A, B, N, c, cc, rfl, hσ, q1, q2, q3⟩ := hr.osl_inv
    obtain ⟨A', c', m1, m2, m3, m4, m5⟩ := hs.obj id _ hg
    rw [hσ] at m1
    simp only [Option.some.injEq, Value.slice.injEq] at m1
    obtain ⟨rfl, rfl, rfl⟩ := m1
    refine ⟨B, cc, .inl ⟨by rw [sub_len hle], elts_of (fun e he => m2 e (sub_mem he)) _ rfl (fun i e j a he ha => ?_), by rw [sub_len hle]; exact q1⟩⟩
    obtain ⟨hi, he'⟩ := sub_at he
    rcases m5 with ⟨_, m5⟩ | ⟨g, o, arr, rfl, k1, k2, k3, k4⟩
    · omega
    · obtain ⟨u, hu, hru⟩ := k4 (off + i) e j a he' ha
      refine ⟨g, o + off * sz, u, ?_, ?_, hru, k3 u (Array.mem_of_getElem? hu)⟩
      · rw [q3 (by omega), Option.map_some, addr_add]
      · rw [k1.cell, show o + off * sz + i * sz + j = o + (off + i) * sz + j by rw [Nat.add_mul]; omega]; exact hu
  | frz id off n es hg hle =>
    obtain ⟨A, B, N, c, cc, rfl, hσ, q1, q2, q3⟩ := hr.osl_inv
    obtain ⟨A', c', m1, m2⟩ := hs.obj id _ hg
    rw [hσ] at m1
    simp only [Option.some.injEq, Value.slice.injEq] at m1
    obtain ⟨rfl, rfl, rfl⟩ := m1
    obtain ⟨A', c', z, e1, r1, r2, r3, r4, r5, r6⟩ := m2.dsl_inv
    simp only [Value.slice.injEq] at e1
    obtain ⟨rfl, _, rfl⟩ := e1
    refine ⟨B, cc, .inl ⟨by rw [sub_len hle], elts_of (fun e he => r3 e (sub_mem he)) _ rfl (fun i e j a he ha => ?_), by rw [sub_len hle]; exact q1⟩⟩
    obtain ⟨hi, he'⟩ := sub_at he
    obtain ⟨g, o, rfl, _, hc⟩ := r4 (off + i) e j a he' ha
    refine ⟨g, o + off * sz, _, ?_, ?_, .data _ _ (r5 (off + i) e j a he' ha), r6 _ _⟩
    · rw [q3 (by omega), Option.map_some, addr_add]
    · rw [show o + off * sz + i * sz + j = o + (off + i) * sz + j by rw [Nat.add_mul]; omega]; exact hc
  | nil_ A c => exact ⟨A, c, .inl ⟨hr.p_inv.1, elts_of (by simp) _ rfl (fun i e j a he _ => by simp at he), Nat.zero_le _⟩⟩
/-- read as the model reads them -/
theorem elts_read {sz n : Nat} {A : Option Addr} {ys : List (List AV)} (h : Elts w S σ sz A ys) (hn : ys.length = n) : ∃ us : List Value, us.length = n * sz ∧ Rps w S σ ys.flatten us ∧ (∀ u ∈ us, u.oneCell' = true) ∧
    ∀ (w1 : World) (c : Nat), w1.heap = w.heap → (Builtin.firstCells sz n (.slice A n c)).run P w1 = .ok us.toArray w1 := by
  obtain ⟨_, us, h1, h2, h3, h4⟩ := h
  rw [hn] at h1
  refine ⟨us, h1, h2, h3, fun w1 c hw => ?_⟩
  cases A with
  | none =>
    have : us = [] := by
      cases us with
      | nil => rfl
      | cons u r => obtain ⟨_, _, e, _⟩ := h4 0 u rfl; cases e
    subst this
    simp [Builtin.firstCells]
  | some b =>
    refine run_firstCells_some w1 sz n b n c us h1 (fun j v hv => ?_)
    obtain ⟨g, o, e, hc⟩ := h4 j v hv
    injection e with e
    subst e
    rw [addr_add]
    exact (World.cell?_of_block (by rw [hw])).trans hc
theorem app_grow {t ty e : TypeId} {i : TypeInfo} {z : Value} (ht : P.underlying t = some (.slice e)) (hi : P.info? e = some i) (hz : i.zero = some z) {B A : Option Addr} {n cc m c : Nat} {olds news : List Value}
    (hfo : (Builtin.firstCells i.size n (.slice B n cc)).run P w.drew = .ok olds.toArray w.drew) (hfn : (Builtin.firstCells i.size m (.slice A m c)).run P w.drew = .ok news.toArray w.drew)
    (hg : cc < n + m) (h63 : n + m ≤ maxLen) (hby : (n + m) * i.bytes ≤ 140737488355328) :
    (Builtin.append_ #[t, t] ty #[.slice B n cc, .slice A m c]).run P w = .ok (.slice (some ⟨w.heap.size, 0, none⟩) (n + m) (grownCap w (n + m) cc e)) (w.drew.alloc (.cells (olds.toArray ++ news.toArray ++ Builtin.zeroCells z.cells (grownCap w (n + m) cc e - (n + m))) e)) := by
  have hfit := growslice_fits hg hby
  have hml : maxLen = 9223372036854775807 := by decide
  have h1 : ¬ (n + m ≤ cc) := by omega
  have h2 : ¬ (9223372036854775807 < ((n : Int) + (m : Int))) := by omega
  have h3 : ¬ (281474976710656 < Builtin.nextslicecap (n + m) cc * i.bytes) := by omega
  simp [Builtin.append_, run_underlying ht, sizeOf, typeInfo, zeroValue, hi, hz, Builtin.lenOf, h1, h2, h3, Question.forced, hfo, hfn, newRow, grownCap]
  congr 2
  apply Array.ext'
  simp [List.append_assoc]
theorem app_room {t ty e : TypeId} {i : TypeInfo} (ht : P.underlying t = some (.slice e)) (hi : P.info? e = some i) {g o : Nat} {A : Option Addr} {n cc m c : Nat} {cur : Array Value} {news : List Value} (hb : Blk w g e cur) (hnl : news.length = m * i.size) (h1 : ∀ u ∈ news, u.oneCell' = true)
    (hfn : (Builtin.firstCells i.size m (.slice A m c)).run P w = .ok news.toArray w) (hroom : n + m ≤ cc) (hfit : o + n * i.size + news.length ≤ cur.size) :
    (Builtin.append_ #[t, t] ty #[.slice (some ⟨g, o, none⟩) n cc, .slice A m c]).run P w = .ok (.slice (some ⟨g, o, none⟩) (n + m) cc) (w.setRow g (cur.toList.take (o + n * i.size) ++ news ++ cur.toList.drop (o + n * i.size + news.length)).toArray) := by
  have hst := run_storeCells_at (P := P) g (o + n * i.size) e news 0 cur w hb (by omega) h1
  simp only [Nat.add_zero] at hst
  simp [Builtin.append_, run_underlying ht, sizeOf, typeInfo, hi, Builtin.lenOf, hroom, hfn, addr_add, hst]
theorem zeroA_info {e : TypeId} {z : List AV} {j : TypeInfo} (h : zeroA P e = some z) (hi : P.info? e = some j) : ∃ v, j.zero = some v ∧ v.cells.size = z.length ∧ ∀ u ∈ v.cells, u.oneCell' = true := by
  unfold zeroA at h
  rw [hi] at h
  simp only at h
  cases hz : j.zero with
  | none => rw [hz] at h; cases h
  | some v =>
    rw [hz] at h
    simp only at h
    split at h
    · rename_i hall
      rw [Array.all_eq_true'] at hall
      injection h with h
      exact ⟨v, rfl, by rw [← h]; simp, hall⟩
    · cases h
theorem zc_one {zs : Array Value} (h : ∀ u ∈ zs, u.oneCell' = true) (hz : 0 < zs.size) (n : Nat) : ∀ u ∈ Builtin.zeroCells zs n, u.oneCell' = true := by
  intro u hu
  unfold Builtin.zeroCells at hu
  rw [Array.mem_map] at hu
  obtain ⟨i, _, rfl⟩ := hu
  have hm : i % zs.size < zs.size := Nat.mod_lt _ hz
  rw [getElem!_pos zs _ hm]
  exact h _ (Array.getElem_mem hm)
theorem anys (vs : List Value) : Rps w S σ (List.replicate vs.length .any) vs := by
  refine ⟨List.length_replicate, fun i a v ha _ => ?_⟩
  rw [List.getElem?_replicate] at ha
  split at ha
  · injection ha with ha; subst ha; exact .any v
  · cases ha
/-- a longer row, elsewhere -/
theorem grow_eff (hs : Sat P w S σ H) {o : Oper} {c : Call} {s x : Operand} {t e : TypeId} {z : List AV} {j : TypeInfo} (ho : o.op = .call c) (hcb : c.callee = .builtin .append) (hca : c.args.toList = [s, x]) (hct : c.argTypes.toList = [t, t])
    (hu : P.underlying t = some (.slice e)) (hz : zeroA P e = some z) (hi : P.info? e = some j) (hzl : z.length = j.size) (hjs : j.size ≠ 0) {id : Nat} (hid : id < H.nx) (hσ : σ id = none) {n m cc c2 : Nat} {B A : Option Addr} {olds news : List Value} {es ys : List (List AV)}
    (hes : ∀ e ∈ es, e.length = j.size) (hys : ∀ e ∈ ys, e.length = j.size) (hen : es.length = n) (hym : ys.length = m) (hro : Rps w S σ es.flatten olds) (hrn : Rps w S σ ys.flatten news) (ho1 : ∀ u ∈ olds, u.oneCell' = true) (hn1 : ∀ u ∈ news, u.oneCell' = true)
    (hx : ev s = .slice B n cc) (hy : ev x = .slice A m c2)
    (hfo : (Builtin.firstCells j.size n (.slice B n cc)).run P w.drew = .ok olds.toArray w.drew) (hfn : (Builtin.firstCells j.size m (.slice A m c2)).run P w.drew = .ok news.toArray w.drew)
    (hg : cc < n + m) (h63 : n + m ≤ maxLen) (hby : (n + m) * j.bytes ≤ 140737488355328) : Eff P w S σ H ev o id (.osl id j.size 0 (n + m)) (H.put id (.row e j.size (es ++ ys))) := by
  obtain ⟨zv, hzv, hzs, hz1⟩ := zeroA_info hz hi
  have hca' : c.args = #[s, x] := Array.toList_inj.1 hca
  have hct' : c.argTypes = #[t, t] := Array.toList_inj.1 hct
  have hrun := app_grow (P := P) (w := w) (ty := o.type) hu hi hzv hfo hfn hg h63 hby
  have hge := grownCap_ge w (n + m) cc e
  have hcm : grownCap w (n + m) cc e ≤ maxLen := grownCap_le_maxLen w (n + m) cc e h63
  have hl : (es ++ ys).length = n + m := by rw [List.length_append, hen, hym]
  have hel : ∀ e ∈ es ++ ys, e.length = j.size := fun e he => (List.mem_append.1 he).elim (hes e) (hys e)
  have hol : olds.length = n * j.size := by rw [← hro.1, flat_length hes, hen]
  have hnl : news.length = m * j.size := by rw [← hrn.1, flat_length hys, hym]
  have hzr : ∃ rest, Rps w S σ rest (Builtin.zeroCells zv.cells (grownCap w (n + m) cc e - (n + m))).toList := ⟨_, anys _⟩
  obtain ⟨rest, hrest⟩ := hzr
  have := row_eff1 (ev := ev) (o := o) hs (w1 := w.drew) ⟨rfl, rfl, rfl, rfl⟩ hid hσ (t := e) (sz := j.size) (c := grownCap w (n + m) cc e) (es := es ++ ys) (rest := rest)
    (arr := olds.toArray ++ news.toArray ++ Builtin.zeroCells zv.cells (grownCap w (n + m) cc e - (n + m))) hel
    (by rw [List.flatten_append]; simp only [Array.toList_append]; exact (hro.append hrn).append hrest) (fun u hu => by
      simp only [Array.mem_append, List.mem_toArray] at hu
      rcases hu with (hu | hu) | hu
      · exact ho1 u hu
      · exact hn1 u hu
      · exact zc_one hz1 (by omega) _ u hu) (by rw [hl]; exact hge) hcm (by
      simp only [Array.size_append, List.size_toArray, size_zeroCells, hzs, hzl, hol, hnl, ← Nat.add_mul]
      exact Nat.mul_le_mul_right _ (by omega)) (by
      rw [hl]
      simp [execOp, ho, resolve, hcb, hca', hct', invoke, builtin, hx, hy, hrun])
  rwa [hl] at this
theorem Ext.lessR {w' : World} {S' : Nat → Prop} {σ' : Nat → Option Value} {H1 H2 : AH} (h : Ext w S σ H w' S' σ' H1) (hg : ∀ b, Foot σ' H2 b → Foot σ' H1 b) : Ext w S σ H w' S' σ' H2 :=
  ⟨h.os, h.tape, h.output, h.size, h.keep, h.sup, h.sub, fun b hb => h.foot b (hg b hb), h.sig⟩
theorem Eff.less {H0 : AH} (hg : ∀ b, Foot σ H0 b → Foot σ H b) {o : Oper} {id : Nat} {a : AV} {H' : AH} (h : Eff P w S σ H0 ev o id a H') : Eff P w S σ H ev o id a H' := by
  obtain ⟨nx, w', σ', h1, h2, h3, h4, h5⟩ := h
  refine ⟨nx, w', σ', h1, h2, h3, ⟨h4.os, h4.tape, h4.output, h4.size, fun b hb hn => h4.keep b hb (fun hf => hn (hg b hf)), h4.sup, fun b hb => ?_, fun b hb => ?_, h4.sig⟩, h5⟩
  · rcases h4.sub b hb with h | h | h
    · exact .inl h
    · exact .inr (.inl (hg b h))
    · exact .inr (.inr h)
  · rcases h4.foot b hb with h | h
    · exact .inl (hg b h)
    · exact .inr h
/-- nothing is done, an empty row is had -/
theorem none_eff (hs : Sat P w S σ H) {id : Nat} (hid : id < H.nx) (hσ : σ id = none) {o : Oper} {t sz : Nat} {B : Option Addr} (hrun : (execOp ev o).run P w = .ok (.value (.slice B 0 0)) w) : Eff P w S σ H ev o id (.osl id sz 0 0) (H.put id (.row t sz [])) := by
  have hnone : ∀ x, σ id = some x → x = .slice none 0 0 := fun x hx => by rw [hσ] at hx; cases hx
  refine ⟨_, w, sput σ id (.slice none 0 0), hrun, .inl ⟨_, rfl, .osl _ _ _ _ none B 0 0 0 sput_self (Nat.le_refl _) rfl (fun h => absurd h (by omega))⟩, hs.upd hid hnone (Nat.le_refl _) (fun _ _ _ => rfl) (fun b hb => by cases hb)
    ⟨none, 0, sput_self, by simp, Nat.le_refl _, Nat.zero_le _, .inl ⟨rfl, rfl⟩⟩ (fun j o b h1 h2 h3 => hs.lt h1 h2 h3) (fun A n c e => by injection e with e1 e2 e3; subst e1; subst e2; subst e3; exact ⟨Nat.le_refl _, fun h => absurd h (by omega), Nat.zero_le _⟩),
    Ext.upd hs hnone rfl rfl rfl (Nat.le_refl _) (fun _ _ _ => rfl) (fun b hb => by cases hb), fun j hj => sput_ne hj⟩
theorem wr_app {o : Oper} {c : Call} {s x : Operand} {t e : TypeId} {z : List AV} {j : TypeInfo} {a : AV} {args : List AV} {id : Nat} {H' : AH} (hs : Sat P w S σ H) (hid : id < H.nx) (hσ : σ id = none) (ho : o.op = .call c) (hcb : c.callee = .builtin .append) (hca : c.args.toList = [s, x]) (hct : c.argTypes.toList = [t, t])
    (hu : P.underlying t = some (.slice e)) (hz : zeroA P e = some z) (hi : P.info? e = some j) (hzl : z.length = j.size) (hjs : j.size ≠ 0) (hp : WrR P id (.app e j.size j.bytes) args H a H') (hr : Rps w S σ args [ev s, ev x]) : Eff P w S σ H ev o id a H' := by
  have hca' : c.args = #[s, x] := Array.toList_inj.1 hca
  have hct' : c.argTypes = #[t, t] := Array.toList_inj.1 hct
  have exec : ∀ {v1 v2 r : Value} {w' : World}, ev s = v1 → ev x = v2 → (Builtin.append_ #[t, t] o.type #[v1, v2]).run P w = .ok r w' → (execOp ev o).run P w = .ok (.value r) w' := by
    intro v1 v2 r w' h1 h2 h3
    simp [execOp, ho, resolve, hcb, hca', hct', invoke, builtin, h1, h2, h3]
  -- what is appended
  have src : ∀ {xa : AV} {ys : List (List AV)}, ElA H j.size xa ys → Rp w S σ xa (ev x) → ∃ A c2, ev x = .slice A ys.length c2 ∧ Elts w S σ j.size A ys := by
    intro xa ys he hrx
    obtain ⟨A, c2, h⟩ := el_sound hs he hrx
    rcases h with ⟨h1, h2, _⟩ | ⟨rfl, h1, rfl⟩
    · exact ⟨A, c2, h1, h2⟩
    · exact ⟨none, c2, h1, by simp, [], by simp, .nil, by simp, by simp⟩
  cases hp with
  | app_nil _ _ _ ys xa _ hel h63 hby =>
    obtain ⟨v1, v2, e1, q1, q2⟩ := hr.two_inv
    simp only [List.cons.injEq, and_true] at e1
    obtain ⟨rfl, rfl⟩ := e1
    have hx := q1.p_inv.1
    obtain ⟨A, c2, hy, hE⟩ := src hel q2
    obtain ⟨news, n1, n2, n3, n4⟩ := elts_read (P := P) hE rfl
    by_cases h0 : ys.length = 0
    · have : ys = [] := List.eq_nil_of_length_eq_zero h0
      subst this
      have n4' := n4 w c2 rfl
      simp only [List.length_nil] at n4' hy ⊢
      refine none_eff hs hid hσ (B := none) (exec hx hy ?_)
      simp [Builtin.append_, run_underlying hu, sizeOf, typeInfo, hi, Builtin.lenOf, n4']
    · have := grow_eff (ev := ev) (o := o) hs ho hcb hca hct hu hz hi hzl hjs hid hσ (n := 0) (m := ys.length) (cc := 0) (B := none) (es := []) (ys := ys) (olds := []) (news := news) (by simp) hE.1 rfl rfl .nil n2 (by simp) n3 hx hy
        (by simp [Builtin.firstCells]) (n4 w.drew c2 rfl) (by omega) (by omega) (by rw [Nat.zero_add]; exact hby)
      simpa using this
  | app_row _ _ _ r off n es ys xa _ hg hle hel h63 hby =>
    obtain ⟨v1, v2, e1, q1, q2⟩ := hr.two_inv
    simp only [List.cons.injEq, and_true] at e1
    obtain ⟨rfl, rfl⟩ := e1
    obtain ⟨Ar, B, N, cr, cc, hx, hσr, k1, k2, k3⟩ := q1.osl_inv
    obtain ⟨A, c2, hy, hE⟩ := src hel q2
    obtain ⟨news, n1, n2, n3, n4⟩ := elts_read (P := P) hE rfl
    obtain ⟨Ab, cb, hb1⟩ := el_sound hs (.row r off n e es hg hle) q1
    have hbase : Elts w S σ j.size B ((es.drop off).take n) := by
      rcases hb1 with ⟨hb1, hb2, _⟩ | ⟨hb0, hb1, rfl⟩
      · rw [hx] at hb1; injection hb1 with hb1 _ _; subst hb1; exact hb2
      · rw [hb0]; exact ⟨by simp, [], by simp, .nil, by simp, by simp⟩
    obtain ⟨olds, o1, o2, o3, o4⟩ := elts_read (P := P) hbase (sub_len hle)
    have hsub : Sat P w S σ (H.kill r) := hs.kill hg
    by_cases hroom : n + ys.length ≤ cc
    · by_cases hcc : cc = 0
      · have hn0 : n = 0 := by omega
        have hy0 : ys = [] := List.eq_nil_of_length_eq_zero (by omega)
        subst hn0; subst hy0; subst hcc
        simp only [List.take_zero, List.nil_append, List.length_nil, Nat.add_zero]
        refine Eff.less (fun b h => Foot.kill h) (none_eff hsub hid hσ (B := B) (exec hx hy ?_))
        have n4' := n4 w c2 rfl
        have hn : news = [] := List.eq_nil_of_length_eq_zero (by simpa using n1)
        subst hn
        simp only [List.length_nil] at n4'
        cases B <;> simp [Builtin.append_, run_underlying hu, sizeOf, typeInfo, hi, Builtin.lenOf, n4', storeCells]
      · obtain ⟨A', c', m1, m2, m3, m4, m5⟩ := hs.obj r _ hg
        rw [hσr] at m1
        simp only [Option.some.injEq, Value.slice.injEq] at m1
        obtain ⟨rfl, rfl, rfl⟩ := m1
        rcases m5 with ⟨_, m5⟩ | ⟨g, o', arr, rfl, p1, p2, p3, p4⟩
        · omega
        have hB : B = some ⟨g, o' + off * j.size, none⟩ := by rw [k3 (by omega), Option.map_some, addr_add]
        subst hB
        have hfit : o' + off * j.size + n * j.size + news.length ≤ arr.size := by
          rw [n1]
          have : (off + (n + ys.length)) * j.size ≤ cr * j.size := Nat.mul_le_mul_right _ (by omega)
          rw [Nat.add_mul, Nat.add_mul] at this
          omega
        have hrun := app_room (P := P) (w := w) (ty := o.type) hu hi p1 n1 n3 (n4 w c2 rfl) hroom hfit
        have hspl : ∀ q, (arr.toList.take (o' + off * j.size + n * j.size) ++ news ++ arr.toList.drop (o' + off * j.size + n * j.size + news.length))[q]? = _ := fun q => splice_get arr.toList news (o' + off * j.size + n * j.size) q (by rw [Array.length_toList]; exact hfit)
        have hnone : ∀ y, σ id = some y → y = .slice (some ⟨g, o' + off * j.size, none⟩) (n + ys.length) cc := fun y hy => by rw [hσ] at hy; cases hy
        have hbk : (σ r).bind blkOf = some g := by rw [hσr]; rfl
        have hkeep : ∀ b, b ≠ g → (w.setRow g (arr.toList.take (o' + off * j.size + n * j.size) ++ news ++ arr.toList.drop (o' + off * j.size + n * j.size + news.length)).toArray).heap[b]? = w.heap[b]? := fun b hb => setRow_other w g b _ hb
        have hS : ∀ b, S b → (w.setRow g (arr.toList.take (o' + off * j.size + n * j.size) ++ news ++ arr.toList.drop (o' + off * j.size + n * j.size + news.length)).toArray).heap[b]? = w.heap[b]? := fun b hb => hkeep b (fun e => hs.sep r _ b hg rfl (by rw [hbk, e]) hb)
        have hlen : ((es.drop off).take n ++ ys).length = n + ys.length := by rw [List.length_append, sub_len hle]
        have mono : ∀ {a : AV} {v : Value}, Rp w S σ a v → Rp (w.setRow g (arr.toList.take (o' + off * j.size + n * j.size) ++ news ++ arr.toList.drop (o' + off * j.size + n * j.size + news.length)).toArray) S (sput σ id (.slice (some ⟨g, o' + off * j.size, none⟩) (n + ys.length) cc)) a v := fun h => h.mono (fun _ h => h) hS (sput_ext hnone)
        refine ⟨_, _, sput σ id (.slice (some ⟨g, o' + off * j.size, none⟩) (n + ys.length) cc), exec hx hy hrun, .inl ⟨_, rfl, .osl _ _ _ _ _ _ _ cc cc sput_self hroom (by omega) (fun _ => by simp [addr_add])⟩,
          hsub.upd hid hnone (by simp) (fun b hb hne => hkeep b (fun e => hne (by rw [e]; rfl))) (fun b hb => ?_) ?_ (fun j o b h1 h2 h3 => hsub.lt h1 h2 h3) (fun A n c e => ?_),
          Ext.lessR (H1 := H.put id (.row e j.size ((es.drop off).take n ++ ys))) (Ext.upd hs hnone rfl rfl rfl (by simp) (fun b hb hne => hkeep b (fun e => hne (by rw [e]; rfl))) (fun b hb => ?_)) (fun b hb => ?_), fun k hk => sput_ne hk⟩
        · simp only [blkOf, Option.some.injEq] at hb; subst hb
          refine ⟨hs.sep r _ g hg rfl hbk, fun k o2 hk h2 h3 h4 => ?_⟩
          obtain ⟨h2', hne⟩ := AH.kill_get h2 h3
          exact hne (hs.dj k r o2 _ g h2' hg h3 rfl h4 hbk)
        · refine ⟨_, cc, by rw [hlen]; exact sput_self, fun y hy => ?_, by rw [hlen]; exact hroom, by omega, .inr ⟨g, _, _, rfl, setRow_heap w g arr _ e (0, 0) p1, ?_, fun u hu => ?_, fun i e' jj b he hb' => ?_⟩⟩
          · exact (List.mem_append.1 hy).elim (fun h => m2 y (sub_mem h)) (hE.1 y)
          · rw [List.size_toArray, splice_len _ _ _ (by rw [Array.length_toList]; exact hfit), Array.length_toList]
            have : (off + cc) * j.size = cr * j.size := by rw [k2]
            rw [Nat.add_mul] at this
            omega
          · rw [← Array.mem_toList_iff, List.toList_toArray] at hu
            rcases List.mem_append.1 hu with hu | hu
            · rcases List.mem_append.1 hu with hu | hu
              · exact p3 u (Array.mem_toList_iff.1 (List.mem_of_mem_take hu))
              · exact n3 u hu
            · exact p3 u (Array.mem_toList_iff.1 (List.mem_of_mem_drop hu))
          · rw [List.getElem?_toArray, hspl]
            by_cases hin : i < n
            · rw [List.getElem?_append_left (by rw [sub_len hle]; exact hin)] at he
              obtain ⟨_, he'⟩ := sub_at he
              have hjl : jj < j.size := by have := (List.getElem?_eq_some_iff.1 hb').1; rw [m2 e' (List.mem_of_getElem? he')] at this; exact this
              obtain ⟨u, hu, hru⟩ := p4 (off + i) e' jj b he' hb'
              have : (i + 1) * j.size ≤ n * j.size := Nat.mul_le_mul_right _ (by omega)
              rw [Nat.add_mul, Nat.one_mul] at this
              refine ⟨u, ?_, mono hru⟩
              rw [if_pos (by omega), Array.getElem?_toList, show o' + off * j.size + i * j.size + jj = o' + (off + i) * j.size + jj by rw [Nat.add_mul]; omega]; exact hu
            · rw [List.getElem?_append_right (by rw [sub_len hle]; omega), sub_len hle] at he
              have hjl : jj < j.size := by have := (List.getElem?_eq_some_iff.1 hb').1; rw [hE.1 e' (List.mem_of_getElem? he)] at this; exact this
              have hfl := flat_elem hE.1 (i - n) e' jj b he hb'
              obtain ⟨u, hu, hru⟩ := n2.at_ hfl
              have hil : i - n < ys.length := (List.getElem?_eq_some_iff.1 he).1
              have h7 : (i - n + 1) * j.size ≤ ys.length * j.size := Nat.mul_le_mul_right _ (by omega)
              have h8 : (n + (i - n)) * j.size = i * j.size := by congr 1; omega
              rw [Nat.add_mul] at h7 h8
              refine ⟨u, ?_, mono hru⟩
              rw [if_neg (by omega), if_pos (by rw [n1]; omega), show o' + off * j.size + i * j.size + jj - (o' + off * j.size + n * j.size) = (i - n) * j.size + jj by omega]; exact hu
        · injection e with e1 e2 e3
          subst e1; subst e2; subst e3
          exact ⟨hroom, fun _ => ⟨_, _, rfl⟩, by omega⟩
        · simp only [blkOf, Option.some.injEq] at hb; subst hb; exact .inl ⟨r, _, hg, rfl, hbk⟩
        · obtain ⟨k, o, h1, h2, h3⟩ := hb
          by_cases hk : k = id
          · subst hk; rw [AH.get_put_self] at h1; exact ⟨k, o, by rw [AH.get_put_self]; exact h1, h2, h3⟩
          · rw [AH.get_put_ne hk] at h1; exact ⟨k, o, by rw [AH.get_put_ne hk]; exact (AH.kill_get h1 h2).1, h2, h3⟩
    · refine Eff.less (H0 := H.kill r) (fun b h => Foot.kill h) ?_
      exact grow_eff (ev := ev) (o := o) hsub ho hcb hca hct hu hz hi hzl hjs hid hσ (fun y hy => hbase.1 y hy) hE.1 (sub_len hle) rfl o2 n2 o3 n3 hx hy (o4 w.drew cc rfl) (n4 w.drew c2 rfl) (by omega) h63 hby
theorem appz_grow {t t' ty e : TypeId} {i : TypeInfo} {k k' : IntKind} {z : Value} (ht : P.underlying t = some (.slice e)) (ht' : P.underlying t' = some (.int k')) (hi : P.info? e = some i) (hz : i.zero = some z) {n : Nat} (h0 : 0 < n) (hs0 : i.size ≠ 0) (h63 : n ≤ maxLen) (hby : n * i.bytes ≤ 140737488355328) :
    (Builtin.append_ #[t, t'] ty #[.slice none 0 0, .int k n]).run P w = .ok (.slice (some ⟨w.heap.size, 0, none⟩) n (grownCap w n 0 e)) (w.drew.alloc (.cells (Builtin.zeroCells z.cells n ++ Builtin.zeroCells z.cells (grownCap w n 0 e - n)) e)) := by
  have hfit := growslice_fits (old := 0) h0 hby
  have hml : maxLen = 9223372036854775807 := by decide
  have hw : IntKind.i64.wrap (n : Int) = n := by rw [IntKind.wrap_i64]; omega
  have h1 : ¬ ((n : Int) < 0) := by omega
  have h2 : ¬ (9223372036854775807 < (n : Int)) := by omega
  have h3 : ¬ (281474976710656 < (n : Int) * i.bytes) := by
    rw [← Int.natCast_mul]; omega
  have h4 : ¬ (281474976710656 < Builtin.nextslicecap n 0 * i.bytes) := by omega
  have h5 : ¬ n = 0 := by omega
  simp [Builtin.append_, run_underlying ht, run_underlying ht', sizeOf, typeInfo, zeroValue, hi, hz, Builtin.lenOf, asInt, asIntOf, hw, h1, h2, h3, h4, h5, hs0, Question.forced, newRow, grownCap, Builtin.firstCells]
  intro h
  exact absurd h (Nat.mul_ne_zero h5 hs0)
theorem wr_apz {o : Oper} {c : Call} {s x : Operand} {t t' e : TypeId} {k' : IntKind} {z : List AV} {j : TypeInfo} {a : AV} {args : List AV} {id : Nat} {H' : AH} (hs : Sat P w S σ H) (hid : id < H.nx) (hσ : σ id = none) (ho : o.op = .call c) (hcb : c.callee = .builtin .append) (hca : c.args.toList = [s, x]) (hct : c.argTypes.toList = [t, t'])
    (hu : P.underlying t = some (.slice e)) (hu' : P.underlying t' = some (.int k')) (hz : zeroA P e = some z) (hi : P.info? e = some j) (hzl : z.length = j.size) (hjs : j.size ≠ 0) (hp : WrR P id (.apz e j.size j.bytes z) args H a H') (hr : Rps w S σ args [ev s, ev x]) : Eff P w S σ H ev o id a H' := by
  have hca' : c.args = #[s, x] := Array.toList_inj.1 hca
  have hct' : c.argTypes = #[t, t'] := Array.toList_inj.1 hct
  cases hp with
  | apz _ _ _ _ k n _ h0 h63 hby =>
    obtain ⟨v1, v2, e1, q1, q2⟩ := hr.two_inv
    simp only [List.cons.injEq, and_true] at e1
    obtain ⟨rfl, rfl⟩ := e1
    have hx := q1.p_inv.1
    have hy := q2.p_inv.1
    obtain ⟨m, rfl⟩ := Int.eq_ofNat_of_zero_le h0
    simp only [Int.toNat_natCast]
    have h63' : m ≤ maxLen := by omega
    have hby' : m * j.bytes ≤ 140737488355328 := by
      have hq : (m : Int) * (j.bytes : Int) ≤ 140737488355328 := hby
      rw [← Int.natCast_mul] at hq; omega
    obtain ⟨zv, hzv, hzs, hz1⟩ := zeroA_info hz hi
    by_cases hm : m = 0
    · subst hm
      refine none_eff hs hid hσ (B := none) ?_
      have hw : IntKind.i64.wrap 0 = 0 := by rw [IntKind.wrap_i64]; omega
      simp [execOp, ho, resolve, hcb, hca', hct', invoke, builtin, hx, hy, Builtin.append_, run_underlying hu, run_underlying hu', sizeOf, typeInfo, hi, Builtin.lenOf, asInt, asIntOf, hw]
    · have hrun := appz_grow (P := P) (w := w) (ty := o.type) (k := k) hu hu' hi hzv (n := m) (by omega) hjs h63' hby'
      have hge := grownCap_ge w m 0 e
      have hcm : grownCap w m 0 e ≤ maxLen := grownCap_le_maxLen w m 0 e h63'
      obtain ⟨v, hv, _, q1', q2'⟩ := zeroA_run (P := P) (w := w) (S := S) (σ := σ) hz
      have hvz : v = zv := by simp [zeroValue, typeInfo, hi, hzv] at hv; exact hv.symm
      subst hvz
      obtain ⟨z1, z2⟩ := zeros_rep q1' q2' (by omega) m
      have hrest : ∃ rest, Rps w S σ rest (Builtin.zeroCells v.cells (grownCap w m 0 e - m)).toList := ⟨_, anys _⟩
      obtain ⟨rest, hrest⟩ := hrest
      have hl : (List.replicate m z).length = m := List.length_replicate
      have := row_eff1 (ev := ev) (o := o) hs (w1 := w.drew) ⟨rfl, rfl, rfl, rfl⟩ hid hσ (t := e) (sz := j.size) (c := grownCap w m 0 e) (es := List.replicate m z) (rest := rest)
        (arr := Builtin.zeroCells v.cells m ++ Builtin.zeroCells v.cells (grownCap w m 0 e - m)) (fun e he => by rw [(List.mem_replicate.1 he).2]; exact hzl)
        (by rw [Array.toList_append]; exact z1.append hrest) (fun u hu => by
          rcases Array.mem_append.1 hu with hu | hu
          · exact z2 u hu
          · exact zc_one hz1 (by omega) _ u hu) (by rw [hl]; exact hge) hcm (by
          simp only [Array.size_append, size_zeroCells, hzs, hzl, ← Nat.add_mul]
          exact Nat.mul_le_mul_right _ (by omega)) (by
          rw [hl]
          simp [execOp, ho, resolve, hcb, hca', hct', invoke, builtin, hx, hy, hrun])
      rwa [hl] at this
theorem rep_flat_len (n : Nat) (z : List AV) : (List.replicate n z).flatten.length = n * z.length := by simp
theorem wr_clr {o : Oper} {c : Call} {s : Operand} {t e : TypeId} {z : List AV} {j : TypeInfo} {a : AV} {args : List AV} {id : Nat} {H' : AH} (hs : Sat P w S σ H) (ho : o.op = .call c) (hcb : c.callee = .builtin .clear) (hca : c.args.toList = [s]) (hct : c.argTypes.toList = [t])
    (hu : P.underlying t = some (.slice e)) (hz : zeroA P e = some z) (hi : P.info? e = some j) (hzl : z.length = j.size) (hjs : j.size ≠ 0) (hp : WrR P id (.clr j.size z) args H a H') (hr : Rps w S σ args [ev s]) : Eff P w S σ H ev o id a H' := by
  have hca' : c.args = #[s] := Array.toList_inj.1 hca
  have hct' : c.argTypes = #[t] := Array.toList_inj.1 hct
  cases hp with
  | clr _ r off n _ t2 es _ hg hle =>
    obtain ⟨v1, e1, q1⟩ := hr.one_inv
    injection e1 with e1; subst e1
    obtain ⟨Ar, B, N, cr, cc, hx, hσr, k1, k2, k3⟩ := q1.osl_inv
    obtain ⟨A', c', m1, m2, m3, m4, m5⟩ := hs.obj r _ hg
    rw [hσr] at m1
    simp only [Option.some.injEq, Value.slice.injEq] at m1
    obtain ⟨rfl, rfl, rfl⟩ := m1
    by_cases h0 : n = 0
    · subst h0
      have hrun : (execOp ev o).run P w = .ok (.value (.tuple #[])) w := by
        cases B <;> simp [execOp, ho, resolve, hcb, hca', hct', invoke, builtin, hx, Builtin.clear_, run_underlying hu]
      have hsame : es.take off ++ List.replicate 0 z ++ es.drop (off + 0) = es := by simp
      rw [hsame]
      have hget : ∀ id, (H.put r (.row t2 j.size es)).get id = H.get id := fun id => by
        by_cases e : id = r
        · subst e; rw [AH.get_put_self, hg]
        · rw [AH.get_put_ne e]
      exact ⟨_, w, σ, hrun, .inl ⟨_, rfl, .any _⟩, hs.congr hget (Nat.le_refl _), Ext.lessR (Ext.refl w S σ H) (fun b hb => Foot.less (fun id o h => by rw [← hget]; exact h) hb), fun _ _ => rfl⟩
    · rcases m5 with ⟨_, m5⟩ | ⟨g, o', arr, rfl, p1, p2, p3, p4⟩
      · omega
      have hB : B = some ⟨g, o' + off * j.size, none⟩ := by rw [k3 (by omega), Option.map_some, addr_add]
      subst hB
      obtain ⟨v, hv, _, q1', q2'⟩ := zeroA_run (P := P) (w := w) (S := S) (σ := σ) hz
      obtain ⟨z1, z2⟩ := zeros_rep q1' q2' (by omega) n
      change Rps w S σ _ (Builtin.zeroCells v.cells n).toList at z1
      have hzl' : ((Builtin.zeroCells v.cells n).toList).length = n * j.size := by rw [← z1.1, rep_flat_len, hzl]
      have hoff : (off + n) * j.size ≤ es.length * j.size := Nat.mul_le_mul_right _ hle
      have hesc : es.length * j.size ≤ cr * j.size := Nat.mul_le_mul_right _ m3
      rw [Nat.add_mul] at hoff
      have hfit : o' + off * j.size + ((Builtin.zeroCells v.cells n).toList).length ≤ arr.size := by rw [hzl']; omega
      have hst := run_storeCells_at (P := P) g (o' + off * j.size) t2 (Builtin.zeroCells v.cells n).toList 0 arr w p1 (by omega) (fun u hu => z2 u (Array.mem_toList_iff.1 hu))
      simp only [Nat.add_zero] at hst
      have hrun : (execOp ev o).run P w = .ok (.value (.tuple #[])) (w.setRow g (arr.toList.take (o' + off * j.size) ++ (Builtin.zeroCells v.cells n).toList ++ arr.toList.drop (o' + off * j.size + (Builtin.zeroCells v.cells n).toList.length)).toArray) := by
        simp [execOp, ho, resolve, hcb, hca', hct', invoke, builtin, hx, Builtin.clear_, run_underlying hu, hv, h0] at hst ⊢
        rw [hst]
        rfl
      have hspl : ∀ q, (arr.toList.take (o' + off * j.size) ++ (Builtin.zeroCells v.cells n).toList ++ arr.toList.drop (o' + off * j.size + (Builtin.zeroCells v.cells n).toList.length))[q]? = _ := fun q => splice_get arr.toList (Builtin.zeroCells v.cells n).toList (o' + off * j.size) q (by rw [Array.length_toList]; exact hfit)
      have hrl : (List.replicate n z).length = n := List.length_replicate
      have hel : ∀ q, (es.take off ++ List.replicate n z ++ es.drop (off + n))[q]? = if q < off then es[q]? else if q < off + n then some z else es[q]? := fun q => by
        have := splice_get es (List.replicate n z) off q (by rw [hrl]; exact hle)
        rw [hrl] at this
        rw [this]
        split
        · rfl
        · split
          · rw [List.getElem?_replicate, if_pos (by omega)]
          · rfl
      have hlen : (es.take off ++ List.replicate n z ++ es.drop (off + n)).length = es.length := by
        have := splice_len es (List.replicate n z) off (by rw [hrl]; exact hle)
        rw [hrl] at this; exact this
      refine set_eff1 hs hg rfl hσr rfl p1 (hs.dom _ _ hσr) (.inl ⟨_, rfl⟩) hrun (fun w' hk hb => ⟨_, cr, by rw [hσr, hlen], fun x hx => ?_, by rw [hlen]; exact m3, m4, .inr ⟨g, o', _, rfl, hb, ?_, fun u hu => ?_, fun i' e' j' b he hb' => ?_⟩⟩)
      · obtain ⟨q, hq⟩ := List.getElem?_of_mem hx
        rw [hel] at hq
        split at hq
        · exact m2 x (List.mem_of_getElem? hq)
        · split at hq
          · injection hq with hq; subst hq; exact hzl
          · exact m2 x (List.mem_of_getElem? hq)
      · rw [List.size_toArray, splice_len _ _ _ (by rw [Array.length_toList]; exact hfit), Array.length_toList]; exact p2
      · rw [← Array.mem_toList_iff, List.toList_toArray] at hu
        rcases List.mem_append.1 hu with hu | hu
        · rcases List.mem_append.1 hu with hu | hu
          · exact p3 u (Array.mem_toList_iff.1 (List.mem_of_mem_take hu))
          · exact z2 u (Array.mem_toList_iff.1 hu)
        · exact p3 u (Array.mem_toList_iff.1 (List.mem_of_mem_drop hu))
      · rw [List.getElem?_toArray, hspl]
        rw [hel] at he
        have mono : ∀ {a : AV} {v : Value}, Rp w S σ a v → Rp w' S σ a v := fun h => h.mono (fun _ h => h) (fun b hS => hk b (fun e => hs.sep r _ b hg rfl (by rw [hσr, e]; rfl) hS)) (fun _ _ h => h)
        by_cases hi1 : i' < off
        · rw [if_pos hi1] at he
          have hjl : j' < j.size := by have := (List.getElem?_eq_some_iff.1 hb').1; rw [m2 e' (List.mem_of_getElem? he)] at this; exact this
          obtain ⟨u, hu, hru⟩ := p4 i' e' j' b he hb'
          have : (i' + 1) * j.size ≤ off * j.size := Nat.mul_le_mul_right _ (by omega)
          rw [Nat.add_mul, Nat.one_mul] at this
          exact ⟨u, by rw [if_pos (by omega), Array.getElem?_toList]; exact hu, mono hru⟩
        · rw [if_neg hi1] at he
          by_cases hi2 : i' < off + n
          · rw [if_pos hi2] at he
            injection he with he
            subst he
            have hjl : j' < j.size := by have := (List.getElem?_eq_some_iff.1 hb').1; omega
            have hfl := flat_elem (es := List.replicate n z) (sz := j.size) (fun e he => by rw [(List.mem_replicate.1 he).2]; exact hzl) (i' - off) z j' b (by rw [List.getElem?_replicate, if_pos (by omega)]) hb'
            obtain ⟨u, hu, hru⟩ := z1.at_ hfl
            have h7 : (i' - off + 1) * j.size ≤ n * j.size := Nat.mul_le_mul_right _ (by omega)
            have h8 : (off + (i' - off)) * j.size = i' * j.size := by congr 1; omega
            rw [Nat.add_mul] at h7 h8
            refine ⟨u, ?_, mono hru⟩
            rw [if_neg (by omega), if_pos (by rw [hzl']; omega), show o' + i' * j.size + j' - (o' + off * j.size) = (i' - off) * j.size + j' by omega]; exact hu
          · rw [if_neg hi2] at he
            obtain ⟨u, hu, hru⟩ := p4 i' e' j' b he hb'
            have : (off + n) * j.size ≤ i' * j.size := Nat.mul_le_mul_right _ (by omega)
            rw [Nat.add_mul] at this
            exact ⟨u, by rw [if_neg (by omega), if_neg (by rw [hzl']; omega), Array.getElem?_toList]; exact hu, mono hru⟩
/-- an operation that writes -/
theorem wr_sound {o : Oper} {wo : WO} {xs : List Operand} {args : List AV} {a : AV} {id : Nat} {H' : AH} (hs : Sat P w S σ H) (hid : id < H.nx ∧ σ id = none) (hc : clsW P o.op = some (wo, xs)) (hp : WrR P id wo args H a H') (hr : Rps w S σ args (xs.map ev)) : Eff P w S σ H ev o id a H' := by
  cases ho : o.op <;> rw [ho] at hc <;> simp only [clsW] at hc <;> try (cases hc; done)
  case store t x v =>
    cases hi : P.info? t with
    | none => rw [hi] at hc; cases hc
    | some j =>
      rw [hi] at hc
      simp only [Option.map_some, Option.some.injEq, Prod.mk.injEq] at hc
      obtain ⟨rfl, rfl⟩ := hc
      exact wr_store hs ho hi hp hr
  case mapUpdate t m k v =>
    revert hc
    split
    · rename_i kt ve hu
      intro hc
      simp only [Option.some.injEq, Prod.mk.injEq] at hc
      obtain ⟨rfl, rfl⟩ := hc
      exact wr_mset hs (.inl ho) hu hp hr
    · intro hc; cases hc
  case insert t m k v =>
    revert hc
    split
    · rename_i kt ve hu
      intro hc
      simp only [Option.some.injEq, Prod.mk.injEq] at hc
      obtain ⟨rfl, rfl⟩ := hc
      exact wr_mset hs (.inr ho) hu hp hr
    · intro hc; cases hc
  case call c =>
    revert hc
    split
    · rename_i s x t t' hcb hca hct
      split
      · rename_i e hu
        split
        · rename_i z j hz hi
          split
          · split
            · intro hc; cases hc
            · rename_i hcond
              simp only [not_or, ne_eq, Decidable.not_not] at hcond
              obtain ⟨c2, c3⟩ := hcond
              split
              · rename_i k' hu'
                intro hc
                simp only [Option.some.injEq, Prod.mk.injEq] at hc
                obtain ⟨rfl, rfl⟩ := hc
                exact wr_apz hs hid.1 hid.2 ho hcb hca hct hu hu' hz hi c3 c2 hp hr
              · intro hc; cases hc
          · rename_i hcond
            simp only [not_or, ne_eq, Decidable.not_not] at hcond
            obtain ⟨rfl, c2, c3⟩ := hcond
            intro hc
            simp only [Option.some.injEq, Prod.mk.injEq] at hc
            obtain ⟨rfl, rfl⟩ := hc
            exact wr_app hs hid.1 hid.2 ho hcb hca hct hu hz hi c3 c2 hp hr
        · intro hc; cases hc
      · intro hc; cases hc
    · rename_i s t hcb hca hct
      split
      · rename_i e hu
        split
        · rename_i z j hz hi
          split
          · intro hc; cases hc
          · rename_i hcond
            simp only [not_or, ne_eq, Decidable.not_not] at hcond
            obtain ⟨c2, c3⟩ := hcond
            intro hc
            simp only [Option.some.injEq, Prod.mk.injEq] at hc
            obtain ⟨rfl, rfl⟩ := hc
            exact wr_clr hs ho hcb hca hct hu hz hi c3 c2 hp hr
        · intro hc; cases hc
      · intro hc; cases hc
    · intro hc; cases hc
end
end Go.Proofs.Ytcmnjoepadjioaa

/- Calls, operations one behind the other, and in whatever order, on abstract memory. Nothing of the program is named here. -/
namespace Go.Proofs.Ytcmnjoepadjioaa
open Go.RowKit Go.Maps

/-- what is data wherever it lies -/
def Dt (a : AV) : Prop := ∀ w S σ v, Rp w S σ a v → RpD w S a v
def DtR (es : List (List AV)) : Prop := ∀ e ∈ es, ∀ a ∈ e, Dt a
theorem Dt.p (v : Value) : Dt (.p v) := fun _ _ _ u h => by obtain ⟨rfl, h1⟩ := h.p_inv; exact .p _ h1
theorem Dt.dsl (sz : Nat) (xs : List (List AV)) : Dt (.dsl sz xs) := fun _ _ _ _ h => h.dsl_inv
/-- some world stands so -/
def SatE (P : Program) (H : AH) : Prop := ∃ w S σ, Sat P w S σ H
/-- what a call does, told abstractly -/
def Tri (P : Program) (f : FuncId) (args : List AV) (H : AH) (Q : AV → AH → Prop) : Prop :=
  ∀ w S σ us, Sat P w S σ H → Rps w S σ args us → Calls P f us.toArray w fun e w' => ∃ v S' σ' r H', e = .returned v ∧ Q r H' ∧ Sat P w' S' σ' H' ∧ Rp w' S' σ' r v ∧ Ext w S σ H w' S' σ' H' ∧ H.nx ≤ H'.nx ∧ ∀ id, id < H.nx → σ' id = σ id
theorem Tri.mono {P : Program} {f : FuncId} {args : List AV} {H : AH} {Q Q' : AV → AH → Prop} (h : Tri P f args H Q) (hq : ∀ r H', Q r H' → Q' r H') : Tri P f args H Q' :=
  fun w S σ us hs hr => (h w S σ us hs hr).mono fun _ _ ⟨v, S', σ', r, H', h1, h2, h3⟩ => ⟨v, S', σ', r, H', h1, hq _ _ h2, h3⟩
abbrev Env := Nat → AV
def avOfV : Value → AV
  | .agg cs => bif cs.all (·.oneCell') then .agg (cs.toList.map .p) else .any
  | .tuple _ => .any
  | v => .p v
def ev0 (env : Env) : Operand → AV
  | .tmp t => env t
  | .const v => avOfV v
  | .global g => .p (.pointer (some ⟨g, 0, none⟩))
  | .func f => .fn (.func f) [] []
def setE (n : Nat) (env : Env) (dst : Option Tmp) (a : AV) : Env :=
  match dst with
  | some d => bif Nat.blt d n then (fun t => bif Nat.beq t d then a else env t) else env
  | none => env
inductive Cls where
  | mv (x : Operand)
  | pu (o : PO) (xs : List Operand)
  | rd (o : RO) (xs : List Operand)
  | al (o : AOp) (xs : List Operand)
  | wr (o : WO) (xs : List Operand)
  | ca (f : Operand) (xs : List Operand)
  | bad
def cls (P : Program) (o : Op) : Cls :=
  match clsP P o with
  | some (.mv, [x]) => .mv x
  | some (po, xs) => .pu po xs
  | none => match clsR P o with
    | some (ro, xs) => .rd ro xs
    | none => match clsA P o with
      | some (ao, xs) => .al ao xs
      | none => match clsW P o with
        | some (wo, xs) => .wr wo xs
        | none => match o with
          | .call c => match c.callee with
            | .value f => .ca f c.args.toList
            | _ => .bad
          | _ => .bad
def needC : Cls → Bool
  | .al .. => true
  | .wr .. => true
  | _ => false
def callable (P : Program) (f : FuncId) : Bool :=
  match P.funcs[f]? with
  | some fn => fn.name != "runtime.NumGoroutine" && fn.body.isSome
  | none => false
/-- the words of a walk -/
def Pu (P : Program) (o : PO) (args : List AV) (k : AV → AH → Prop) (H : AH) : Prop := ∃ a, PuR P o args a ∧ k a H
def Rd (P : Program) (V : AH) (o : RO) (args : List AV) (k : AV → AH → Prop) (H : AH) : Prop := ∃ a, RdR P V o args a ∧ k a H
def Al (id : Nat) (o : AOp) (args : List AV) (k : AV → AH → Prop) (H : AH) : Prop := ∃ a o', AlR id o args o' a ∧ k a (H.put id o')
def Wr (P : Program) (id : Nat) (o : WO) (args : List AV) (k : AV → AH → AH → Prop) (H : AH) : Prop := ∃ a H', WrR P id o args H a H' ∧ k a H' H'
def Ca (P : Program) (fv : AV) (args : List AV) (k : AV → AH → Prop) (H : AH) : Prop := ∃ f first cap Q, fv = .fn (.func f) first cap ∧ callable P f = true ∧ Tri P f (first ++ args ++ cap) H Q ∧ ∀ r H', SatE P H' → Q r H' → k r H'
/-- the elements of a slice: one that was there when the region began, or one laid in it -/
inductive ElF (V H : AH) (src : Option Nat) (sz : Nat) : AV → List (List AV) → Prop
  | old (x : AV) (ys : List (List AV)) : ElA V sz x ys → ElF V H src sz x ys
  | new (i off n : Nat) (t : TypeId) (es : List (List AV)) : src = some i → H.get i = some (.row t sz es) → off + n ≤ es.length → ElF V H src sz (.osl i sz off n) ((es.drop off).take n)
/-- writes to what was laid in the region -/
inductive WrFR (V : AH) (tgt src : Option Nat) (id : Nat) : WO → List AV → AH → AV → AH → Prop
  | st (n i off : Nat) (t : TypeId) (cs : List AV) (a : AV) (H : AH) : tgt = some i → V.get i = none → H.get i = some (.box t cs) → a.part = true → a.cells.length = n → off + n ≤ cs.length → WrFR V tgt src id (.st n) [.ptr i off, a] H .any (H.put i (.box t (cs.take off ++ a.cells ++ cs.drop (off + n))))
  | app_row (t sz bytes r off n : Nat) (es ys : List (List AV)) (x : AV) (H : AH) : tgt = some r → V.get r = none → H.get r = some (.row t sz es) → off + n ≤ es.length → ElF V H src sz x ys → n + ys.length ≤ maxLen → (n + ys.length) * bytes ≤ 140737488355328 →
      WrFR V tgt src id (.app t sz bytes) [.osl r sz off n, x] H (.osl id sz 0 (n + ys.length)) ((H.kill r).put id (.row t sz ((es.drop off).take n ++ ys)))
  | app_nil (t sz bytes : Nat) (ys : List (List AV)) (x : AV) (H : AH) : tgt = none → ElF V H src sz x ys → ys.length ≤ maxLen → ys.length * bytes ≤ 140737488355328 →
      WrFR V tgt src id (.app t sz bytes) [.p (.slice none 0 0), x] H (.osl id sz 0 ys.length) (H.put id (.row t sz ys))
def WrF (V : AH) (tgt src : Option Nat) (id : Nat) (o : WO) (args : List AV) (k : AV → AH → Prop) (H : AH) : Prop := ∃ a H', WrFR V tgt src id o args H a H' ∧ k a H'
def laysIx (P : Program) : List Oper → Tmp → Nat → Option Nat
  | [], _, _ => none
  | o :: r, t, i => match o.dst with
    | some d => bif Nat.beq d t then (match cls P o.op with
      | .al .. => some i
      | .wr (.app ..) _ => some i
      | _ => none) else laysIx P r t (i + 1)
    | none => laysIx P r t (i + 1)
def defIx (P : Program) (ops : Array Oper) : Operand → Option Nat
  | .tmp t => laysIx P ops.toList t 0
  | _ => none
/-- does it write to what was laid in the region -/
def freshW (P : Program) (ops : Array Oper) (o : Op) : Option (Option Nat × Option Nat) :=
  match cls P o with
  | .wr (.st _) (x :: _) => match defIx P ops x with
    | some j => some (some j, none)
    | none => none
  | .wr (.app ..) [s, x] => match s with
    | .const (.slice none 0 0) => some (none, defIx P ops x)
    | s => match defIx P ops s with
      | some j => some (some j, defIx P ops x)
      | none => none
  | _ => none
/-- where a term is laid in the region, what it is made of being looked through -/
def defC (P : Program) : List Oper → Tmp → Nat → Option (Nat × Cls)
  | [], _, _ => none
  | o :: r, t, i => match o.dst with
    | some d => bif Nat.beq d t then some (i, cls P o.op) else defC P r t (i + 1)
    | none => defC P r t (i + 1)
def srcT (P : Program) (ops : Array Oper) : Nat → List Operand → List Nat
  | 0, _ => []
  | _ + 1, [] => []
  | n + 1, x :: xs => (match x with
    | .tmp t => match defC P ops.toList t 0 with
      | some (i, .al ..) => [i]
      | some (i, .wr (.app ..) _) => [i]
      | some (_, .pu _ ys) => srcT P ops n ys
      | some (_, .mv y) => srcT P ops n [y]
      | _ => []
    | _ => []) ++ srcT P ops n xs
/-- what of the region's own things an operation reads -/
def srcsOf (P : Program) (ops : Array Oper) (o : Op) : List Nat :=
  match cls P o with
  | .rd _ xs => srcT P ops 8 xs
  | .ca f xs => srcT P ops 8 (f :: xs)
  | _ => []
def mixO : Option AO → Nat → AH → AH
  | some o, i, W => W.put i o
  | none, _, W => W
/-- what was there when the region began, and some of what it has laid -/
def mixV (V H : AH) : List Nat → AH
  | [] => V
  | i :: r => mixO (H.get i) i (mixV V H r)
def RdN (P : Program) (V : AH) (sl : List Nat) (o : RO) (args : List AV) (k : AV → AH → Prop) (H : AH) : Prop := ∃ a, RdR P (mixV V H sl) o args a ∧ k a H
def RdS (P : Program) (o : RO) (args : List AV) (k : AV → AH → Prop) (H : AH) : Prop := Rd P H o args k H
def WrS (P : Program) (id : Nat) (o : WO) (args : List AV) (k : AV → AH → Prop) (H : AH) : Prop := Wr P id o args (fun a _ => k a) H
def AH.le (V H : AH) : Prop := ∀ id o, V.get id = some o → H.get id = some o
def CaV (P : Program) (V : AH) (fv : AV) (args : List AV) (k : AV → AH → Prop) (H : AH) : Prop :=
  ∃ f first cap a, fv = .fn (.func f) first cap ∧ callable P f = true ∧ (∀ H2, V.le H2 → Tri P f (first ++ args ++ cap) H2 (fun r H' => H' = H2 ∧ r = a)) ∧ k a H
/-- what a guard tells: a truth, or that it was itself left out -/
def gb : Option Bool → AV
  | some b => .p (.bool b)
  | none => .tup []
/-- changes to some things -/
def apE : List (Nat × AO) → AH → AH
  | [], H => H
  | (i, o) :: r, H => apE r (H.put i o)
def frzO : Nat → Option AO → List (Nat × AO)
  | i, some (.row _ sz es) => [(i, .frz sz es)]
  | _, _ => []
def frzE (H : AH) : List Nat → List (Nat × AO)
  | [] => []
  | i :: r => frzO i (H.get i) ++ frzE H r
/-- rows of the region's own that are frozen -/
def frzL (H : AH) (fz : List Nat) : AH := apE (frzE H fz) H
def DtO : Option AO → Prop
  | some (.row _ _ es) => DtR es
  | _ => True
def CaN (P : Program) (V : AH) (sl : List Nat) (fv : AV) (args : List AV) (k : AV → AH → Prop) (H : AH) : Prop :=
  ∃ f first cap a fz, fv = .fn (.func f) first cap ∧ callable P f = true ∧ (∀ i ∈ fz, i ∈ sl ∧ V.get i = none ∧ DtO (H.get i)) ∧ (∀ H2, (mixV V (frzL H fz) sl).le H2 → Tri P f (first ++ args ++ cap) H2 (fun r H' => H' = H2 ∧ r = a)) ∧ k a (frzL H fz)
def Gd (c : AV) (want : Bool) (F : (AV → AH → Prop) → AH → Prop) (k : AV → AH → Prop) (H : AH) : Prop := ∃ b, c = gb b ∧ (b = some want → F k H) ∧ (b ≠ some want → k (.tup []) H)
def GdV (c : AV) (want : Bool) (F : (AV → AH → AH → Prop) → AH → Prop) (V : AH) (k : AV → AH → AH → Prop) (H : AH) : Prop := ∃ b, c = gb b ∧ (b = some want → F k H) ∧ (b ≠ some want → k (.tup []) V H)
def Rg (m : Nat) (F : Nat → AH → Prop) (H : AH) : Prop := F H.nx (H.up m)
def Vw (F : AH → AH → Prop) (H : AH) : Prop := F H H
def coreS (P : Program) (id : Nat) (o : Op) (env : Env) (k : AV → AH → Prop) (H : AH) : Prop :=
  match cls P o with
  | .mv x => k (ev0 env x) H
  | .pu po xs => Pu P po (xs.map (ev0 env)) k H
  | .rd ro xs => RdS P ro (xs.map (ev0 env)) k H
  | .al ao xs => Al id ao (xs.map (ev0 env)) k H
  | .wr wo xs => WrS P id wo (xs.map (ev0 env)) k H
  | .ca f xs => Ca P (ev0 env f) (xs.map (ev0 env)) k H
  | .bad => False
def plusB (b : Nat) : Option Nat → Option Nat
  | some j => some (b + j)
  | none => none
def coreV (P : Program) (b : Nat) (fw : Option (Option Nat × Option Nat) × List Nat) (V : AH) (id : Nat) (o : Op) (env : Env) (k : AV → AH → AH → Prop) (H : AH) : Prop :=
  match cls P o with
  | .mv x => k (ev0 env x) V H
  | .pu po xs => Pu P po (xs.map (ev0 env)) (fun a => k a V) H
  | .rd ro xs => match fw.2 with
    | [] => Rd P V ro (xs.map (ev0 env)) (fun a => k a V) H
    | j :: r => RdN P V ((b + j) :: r.map (b + ·)) ro (xs.map (ev0 env)) (fun a => k a V) H
  | .al ao xs => Al id ao (xs.map (ev0 env)) (fun a => k a V) H
  | .wr wo xs => match fw.1 with
    | some (tg, sr) => WrF V (plusB b tg) (plusB b sr) id wo (xs.map (ev0 env)) (fun a => k a V) H
    | none => Wr P id wo (xs.map (ev0 env)) k H
  | .ca f xs => match fw.2 with
    | [] => CaV P V (ev0 env f) (xs.map (ev0 env)) (fun a => k a V) H
    | j :: r => CaN P V ((b + j) :: r.map (b + ·)) (ev0 env f) (xs.map (ev0 env)) (fun a => k a V) H
  | .bad => False
def gv (n : Nat) (ops : Array Oper) (env : Env) (j : Nat) : AV :=
  match (ops[j]?).bind (·.dst) with
  | some d => bif Nat.blt d n then env d else .any
  | none => .any
def seqA (P : Program) (n b : Nat) (ops : Array Oper) : List Oper → Nat → Env → (Env → AH → Prop) → AH → Prop
  | [], _, env, k => k env
  | o :: rest, i, env, k => match o.guard with
    | none => coreS P (b + i) o.op env (fun a => seqA P n b ops rest (i + 1) (setE n env o.dst a) k)
    | some (j, want) => Gd (gv n ops env j) want (coreS P (b + i) o.op env) (fun a => seqA P n b ops rest (i + 1) (setE n env o.dst a) k)
def stepV (P : Program) (n b : Nat) (ops : Array Oper) (o : Oper) (i : Nat) (env : Env) (V : AH) (k : Env → AH → AH → Prop) (H : AH) : Prop :=
  match o.guard with
  | none => coreV P b (freshW P ops o.op, srcsOf P ops o.op) V (b + i) o.op env (fun a => k (setE n env o.dst a)) H
  | some (j, want) => GdV (gv n ops env j) want (coreV P b (freshW P ops o.op, srcsOf P ops o.op) V (b + i) o.op env) V (fun a => k (setE n env o.dst a)) H
def seqV (P : Program) (n b : Nat) (ops : Array Oper) : List Oper → Nat → Env → (Env → AH → Prop) → AH → AH → Prop
  | [], _, env, k, _, H => k env H
  | o :: rest, i, env, k, V, H => stepV P n b ops o i env V (fun env' => seqV P n b ops rest (i + 1) env' k) H

section
variable {P : Program} {w : World} {S : Nat → Prop} {σ : Nat → Option Value} {H : AH} {n b : Nat} {ops : Array Oper}
/-- the frame stands for what is told of it -/
structure RepE (n : Nat) (a : Act) (w : World) (S : Nat → Prop) (σ : Nat → Option Value) (env : Env) : Prop where
  size : a.tmps.size = n
  defers : a.defers = []
  at_ : ∀ t, Rp w S σ (env t) (a.tmps.getD t undef)
theorem avOfV_rp (v : Value) : Rp w S σ (avOfV v) v := by
  cases v <;> try exact .data _ _ (.p _ rfl)
  · rename_i cs
    simp only [avOfV]
    cases hall : cs.all (·.oneCell') with
    | false => exact .any _
    | true =>
      rw [cond_true]
      rw [Array.all_eq_true'] at hall
      refine .agg _ _ (by simp) (fun k a u ha hu => ?_) hall
      rw [List.getElem?_map, Array.getElem?_toList, hu] at ha
      simp at ha; subst ha
      exact .data _ _ (.p _ (hall u (Array.mem_of_getElem? hu)))
  · exact .any _
theorem RepE.ev {a : Act} {env : Env} (h : RepE n a w S σ env) (x : Operand) : Rp w S σ (ev0 env x) (a.eval x) := by
  cases x with
  | tmp t => exact h.at_ t
  | const v => exact avOfV_rp v
  | global g => exact .data _ _ (.p _ rfl)
  | func f => exact .fn _ _ _ _ _ rfl rfl (by simp) (by simp)
theorem RepE.evs {a : Act} {env : Env} (h : RepE n a w S σ env) (xs : List Operand) : Rps w S σ (xs.map (ev0 env)) (xs.map a.eval) := by
  induction xs with
  | nil => exact .nil
  | cons x xs ih => exact .cons (h.ev x) ih
theorem RepE.put {a : Act} {env : Env} (h : RepE n a w S σ env) (dst : Option Tmp) {x : AV} {v : Value} (hx : Rp w S σ x v) : RepE n (a.put dst v) w S σ (setE n env dst x) := by
  cases dst with
  | none => exact h
  | some d =>
    refine ⟨by simp [Act.put, h.size], h.defers, fun t => ?_⟩
    simp only [setE, Act.put]
    by_cases hd : d < n
    · rw [show Nat.blt d n = true from by simp [Nat.blt_eq, hd]]
      simp only [cond_true]
      by_cases ht : t = d
      · subst ht
        rw [show Nat.beq t t = true from Nat.beq_refl t]
        simp only [cond_true, Array.getD_eq_getD_getElem?]
        rw [Array.getElem?_setIfInBounds_self_of_lt (by rw [h.size]; exact hd)]
        exact hx
      · rw [show Nat.beq t d = false from by rw [Bool.eq_false_iff]; exact fun e => ht (Nat.eq_of_beq_eq_true e)]
        simp only [cond_false, Array.getD_eq_getD_getElem?]
        rw [Array.getElem?_setIfInBounds_ne (fun e => ht e.symm), ← Array.getD_eq_getD_getElem?]
        exact h.at_ t
    · rw [show Nat.blt d n = false from by rw [Bool.eq_false_iff]; simp [Nat.blt_eq, hd]]
      simp only [cond_false, Array.getD_eq_getD_getElem?]
      rw [show a.tmps.setIfInBounds d v = a.tmps from Array.setIfInBounds_eq_of_size_le (by rw [h.size]; exact Nat.le_of_not_lt hd), ← Array.getD_eq_getD_getElem?]
      exact h.at_ t
theorem RepE.ext {w' : World} {S' : Nat → Prop} {σ' : Nat → Option Value} {H' : AH} {a : Act} {env : Env} (h : RepE n a w S σ env) (hs : Sat P w S σ H) (e : Ext w S σ H w' S' σ' H') : RepE n a w' S' σ' env :=
  ⟨h.size, h.defers, fun t => e.rp hs (h.at_ t)⟩
theorem cls_pu {o : Op} {po : PO} {xs : List Operand} (h : cls P o = .pu po xs) : clsP P o = some (po, xs) := by
  unfold cls at h
  split at h <;> try (cases h; done)
  · rename_i hc; injection h with h1 h2; subst h1; subst h2; exact hc
  · split at h <;> try (cases h; done)
    split at h <;> try (cases h; done)
    split at h <;> try (cases h; done)
    split at h <;> try (cases h; done)
    split at h <;> cases h
theorem cls_mv {o : Op} {x : Operand} (h : cls P o = .mv x) : clsP P o = some (.mv, [x]) := by
  unfold cls at h
  split at h <;> try (cases h; done)
  · rename_i hc; injection h with h1; subst h1; exact hc
  · split at h <;> try (cases h; done)
    split at h <;> try (cases h; done)
    split at h <;> try (cases h; done)
    split at h <;> try (cases h; done)
    split at h <;> cases h
theorem cls_rd {o : Op} {ro : RO} {xs : List Operand} (h : cls P o = .rd ro xs) : clsR P o = some (ro, xs) := by
  unfold cls at h
  split at h <;> try (cases h; done)
  · split at h <;> try (cases h; done)
    · rename_i hc; injection h with h1 h2; subst h1; subst h2; exact hc
    · split at h <;> try (cases h; done)
      split at h <;> try (cases h; done)
      split at h <;> try (cases h; done)
      split at h <;> cases h
theorem cls_al {o : Op} {ao : AOp} {xs : List Operand} (h : cls P o = .al ao xs) : clsA P o = some (ao, xs) := by
  unfold cls at h
  split at h <;> try (cases h; done)
  · split at h <;> try (cases h; done)
    split at h <;> try (cases h; done)
    · rename_i hc; injection h with h1 h2; subst h1; subst h2; exact hc
    · split at h <;> try (cases h; done)
      split at h <;> try (cases h; done)
      split at h <;> cases h
theorem cls_wr {o : Op} {wo : WO} {xs : List Operand} (h : cls P o = .wr wo xs) : clsW P o = some (wo, xs) := by
  unfold cls at h
  split at h <;> try (cases h; done)
  · split at h <;> try (cases h; done)
    split at h <;> try (cases h; done)
    split at h <;> try (cases h; done)
    · rename_i hc; injection h with h1 h2; subst h1; subst h2; exact hc
    · split at h <;> try (cases h; done)
      split at h <;> cases h
theorem cls_ca {o : Op} {f : Operand} {xs : List Operand} (h : cls P o = .ca f xs) : ∃ c, o = .call c ∧ c.callee = .value f ∧ c.args.toList = xs := by
  unfold cls at h
  split at h <;> try (cases h; done)
  · split at h <;> try (cases h; done)
    split at h <;> try (cases h; done)
    split at h <;> try (cases h; done)
    split at h <;> try (cases h; done)
    split at h <;> try (cases h; done)
    rename_i c _ _ hc
    injection h with h1 h2
    subst h1; subst h2
    exact ⟨_, rfl, hc, rfl⟩
/-- a call that is made -/
theorem call_run {o : Oper} {c : Call} {fo : Operand} {ev : Operand → Value} {f : FuncId} {first cap : List AV} {args : List AV} (ho : o.op = .call c) (hc : c.callee = .value fo) (hf : Rp w S σ (.fn (.func f) first cap) (ev fo)) (hcal : callable P f = true) (hr : Rps w S σ args (c.args.toList.map ev)) :
    ∃ us : List Value, (execOp ev o).run P w = .ok (.enter f us.toArray) w ∧ Rps w S σ (first ++ args ++ cap) us := by
  obtain ⟨fs, cs, hfe, h1, h2⟩ := hf.fn_inv
  refine ⟨fs.toList ++ c.args.toList.map ev ++ cs.toList, ?_, (h1.append hr).append h2⟩
  unfold callable at hcal
  cases hfn : P.funcs[f]? with
  | none => rw [hfn] at hcal; cases hcal
  | some fn =>
    rw [hfn] at hcal
    simp only [Bool.and_eq_true, bne_iff_ne, ne_eq] at hcal
    obtain ⟨n1, n2⟩ := hcal
    have n3 : ¬ fn.body = none := by intro e; rw [e] at n2; cases n2
    have he : (fs ++ c.args.map ev) ++ cs = (fs.toList ++ c.args.toList.map ev ++ cs.toList).toArray := by
      apply Array.ext'; simp
    rw [← he]
    simp [execOp, ho, resolve, hc, hfe, Deferred.ofValue, invoke, callFunc, hfn, n1, n3]
end
end Go.Proofs.Ytcmnjoepadjioaa
