/- Texts that the proof rests on, part 2: what each holds stands at its head. -/
import Derived.Test.YtcmnjoepadjioaaMa1
import Derived.Orders
import Derived.Scope

/- Appends, on abstract memory. Nothing of the program is named here. -/
namespace Go.Proofs.Ytcmnjoepadjioaa
open Go.RowKit Go.Maps

section
variable {P : Program} {w : World} {S : Nat → Prop} {σ : Nat → Option Value} {ev : Operand → Value} {H : AH}
/-- what a slice's elements read as -/
def Elts (w : World) (S : Nat → Prop) (σ : Nat → Option Value) (sz : Nat) (A : Option Addr) (ys : List (List AV)) : Prop :=
  (∀ e ∈ ys, e.length = sz) ∧ ∃ us : List Value, us.length = ys.length * sz ∧ Rps w S σ ys.flatten us ∧ (∀ u ∈ us, u.oneCell' = true) ∧ ∀ (j : Nat) (u : Value), us[j]? = some u → ∃ g o, A = some ⟨g, o, none⟩ ∧ w.cell? ⟨g, o + j, none⟩ = some u
theorem elts_of {sz : Nat} {A : Option Addr} : ∀ {ys : List (List AV)} (_ : ∀ e ∈ ys, e.length = sz) (n : Nat) (_ : n = ys.length)
    (_ : ∀ (i : Nat) (e : List AV) (j : Nat) (a : AV), ys[i]? = some e → e[j]? = some a → ∃ g o u, A = some ⟨g, o, none⟩ ∧ w.cell? ⟨g, o + i * sz + j, none⟩ = some u ∧ Rp w S σ a u ∧ u.oneCell' = true), Elts w S σ sz A ys := by
  intro ys hl n hn h
  have flat : ∀ m, m ≤ ys.flatten.length → ∃ us : List Value, us.length = m ∧ Rps w S σ (ys.flatten.take m) us ∧ (∀ u ∈ us, u.oneCell' = true) ∧ ∀ (j : Nat) (u : Value), us[j]? = some u → ∃ g o, A = some ⟨g, o, none⟩ ∧ w.cell? ⟨g, o + j, none⟩ = some u := by
    intro m
    induction m with
    | zero => intro _; exact ⟨[], rfl, by rw [List.take_zero]; exact .nil, by simp, by simp⟩
    | succ m ih =>
      intro hm
      obtain ⟨us, h1, h2, h3, h4⟩ := ih (by omega)
      have hfl := flat_length hl
      have hsz : 0 < sz := by
        rcases Nat.eq_zero_or_pos sz with h0 | h0
        · rw [h0, Nat.mul_zero] at hfl; omega
        · exact h0
      have hq : m / sz < ys.length := by rw [Nat.div_lt_iff_lt_mul hsz]; omega
      have hr : m % sz < (ys[m / sz]).length := by rw [hl _ (List.getElem_mem hq)]; exact Nat.mod_lt _ hsz
      have hm' : m / sz * sz + m % sz = m := by rw [Nat.mul_comm]; exact Nat.div_add_mod m sz
      have hfe := flat_elem hl (m / sz) _ (m % sz) _ (List.getElem?_eq_getElem hq) (List.getElem?_eq_getElem hr)
      rw [hm'] at hfe
      obtain ⟨g, o, u, rfl, hc, hru, ho⟩ := h (m / sz) _ (m % sz) _ (List.getElem?_eq_getElem hq) (List.getElem?_eq_getElem hr)
      rw [show o + m / sz * sz + m % sz = o + m by omega] at hc
      refine ⟨us ++ [u], by simp [h1], ?_, fun x hx => ?_, fun j x hx => ?_⟩
      · have hlt : m < ys.flatten.length := by omega
        rw [List.take_succ_eq_append_getElem hlt]
        rw [List.getElem?_eq_getElem hlt] at hfe
        injection hfe with hfe
        rw [hfe]
        exact h2.append (.cons hru .nil)
      · rcases List.mem_append.1 hx with hx | hx
        · exact h3 x hx
        · simp at hx; subst hx; exact ho
      · by_cases hj : j < us.length
        · rw [List.getElem?_append_left hj] at hx; exact h4 j x hx
        · rw [List.getElem?_append_right (by omega)] at hx
          have : j - us.length = 0 := by have := (List.getElem?_eq_some_iff.1 hx).1; simp at this; omega
          rw [this] at hx
          simp at hx; subst hx
          exact ⟨g, o, rfl, by rw [show j = m by omega]; exact hc⟩
  obtain ⟨us, h1, h2, h3, h4⟩ := flat ys.flatten.length (Nat.le_refl _)
  rw [List.take_length] at h2
  exact ⟨hl, us, by rw [h1, flat_length hl], h2, h3, h4⟩
theorem sub_at {es : List (List AV)} {off n i : Nat} {e : List AV} (h : ((es.drop off).take n)[i]? = some e) : i < n ∧ es[off + i]? = some e := by
  rw [List.getElem?_take] at h
  split at h
  · rw [List.getElem?_drop] at h; exact ⟨‹_›, h⟩
  · cases h
theorem sub_mem {es : List (List AV)} {off n : Nat} {e : List AV} (h : e ∈ (es.drop off).take n) : e ∈ es := List.mem_of_mem_drop (List.mem_of_mem_take h)
theorem sub_len {es : List (List AV)} {off n : Nat} (h : off + n ≤ es.length) : ((es.drop off).take n).length = n := by rw [List.length_take, List.length_drop]; omega
theorem el_sound (hs : Sat P w S σ H) {sz : Nat} {x : AV} {ys : List (List AV)} {v : Value} (h : ElA H sz x ys) (hr : Rp w S σ x v) : ∃ A c, v = .slice A ys.length c ∧ Elts w S σ sz A ys ∧ ys.length ≤ c ∨ (ys = [] ∧ v = .slice none 0 c ∧ A = none) := by
  cases h with
  | dsl xs =>
    obtain ⟨A, c, z, rfl, r1, r2, r3, r4, r5, r6⟩ := hr.dsl_inv.dsl_inv
    refine ⟨A, c, .inl ⟨rfl, elts_of r3 _ rfl (fun i e j a he ha => ?_), r1⟩⟩
    obtain ⟨g, o, rfl, _, hc⟩ := r4 i e j a he ha
    exact ⟨g, o, _, rfl, hc, .data _ _ (r5 i e j a he ha), r6 _ _⟩
  | row id off n t es hg hle =>
    obtain ⟨A, B, N, c, cc, rfl, hσ, q1, q2, q3⟩ := hr.osl_inv
    obtain ⟨A', c', m1, m2, m3, m4, m5⟩ := hs.obj id _ hg
    rw [hσ] at m1
    simp only [Option.some.injEq, Value.slice.injEq] at m1
    obtain ⟨rfl, rfl, rfl⟩ := m1
    refine ⟨B, cc, .inl ⟨by rw [sub_len hle], elts_of (fun e he => m2 e (sub_mem he)) _ rfl (fun i e j a he ha => ?_), by rw [sub_len hle]; exact q1⟩⟩
    obtain ⟨hi, he'⟩ := sub_at he
    rcases m5 with ⟨_, m5⟩ | ⟨g, o, arr, rfl, k1, k2, k3, k4⟩
    · omega
    · obtain ⟨u, hu, hru⟩ := k4 (off + i) e j a he' ha
      refine ⟨g, o + off * sz, u, ?_, ?_, hru, k3 u (Array.mem_of_getElem? hu)⟩
      · rw [q3 (by omega), Option.map_some, addr_add]
      · rw [k1.cell, show o + off * sz + i * sz + j = o + (off + i) * sz + j by rw [Nat.add_mul]; omega]; exact hu
  | frz id off n es hg hle =>
    obtain ⟨A, B, N, c, cc, rfl, hσ, q1, q2, q3⟩ := hr.osl_inv
    obtain ⟨A', c', m1, m2⟩ := hs.obj id _ hg
    rw [hσ] at m1
    simp only [Option.some.injEq, Value.slice.injEq] at m1
    obtain ⟨rfl, rfl, rfl⟩ := m1
    obtain ⟨A', c', z, e1, r1, r2, r3, r4, r5, r6⟩ := m2.dsl_inv
    simp only [Value.slice.injEq] at e1
    obtain ⟨rfl, _, rfl⟩ := e1
    refine ⟨B, cc, .inl ⟨by rw [sub_len hle], elts_of (fun e he => r3 e (sub_mem he)) _ rfl (fun i e j a he ha => ?_), by rw [sub_len hle]; exact q1⟩⟩
    obtain ⟨hi, he'⟩ := sub_at he
    obtain ⟨g, o, rfl, _, hc⟩ := r4 (off + i) e j a he' ha
    refine ⟨g, o + off * sz, _, ?_, ?_, .data _ _ (r5 (off + i) e j a he' ha), r6 _ _⟩
    · rw [q3 (by omega), Option.map_some, addr_add]
    · rw [show o + off * sz + i * sz + j = o + (off + i) * sz + j by rw [Nat.add_mul]; omega]; exact hc
  | nil_ A c => exact ⟨A, c, .inl ⟨hr.p_inv.1, elts_of (by simp) _ rfl (fun i e j a he _ => by simp at he), Nat.zero_le _⟩⟩
/-- read as the model reads them -/
theorem elts_read {sz n : Nat} {A : Option Addr} {ys : List (List AV)} (h : Elts w S σ sz A ys) (hn : ys.length = n) : ∃ us : List Value, us.length = n * sz ∧ Rps w S σ ys.flatten us ∧ (∀ u ∈ us, u.oneCell' = true) ∧
    ∀ (w1 : World) (c : Nat), w1.heap = w.heap → (Builtin.firstCells sz n (.slice A n c)).run P w1 = .ok us.toArray w1 := by
  obtain ⟨_, us, h1, h2, h3, h4⟩ := h
  rw [hn] at h1
  refine ⟨us, h1, h2, h3, fun w1 c hw => ?_⟩
  cases A with
  | none =>
    have : us = [] := by
      cases us with
      | nil => rfl
      | cons u r => obtain ⟨_, _, e, _⟩ := h4 0 u rfl; cases e
    subst this
    simp [Builtin.firstCells]
  | some b =>
    refine run_firstCells_some w1 sz n b n c us h1 (fun j v hv => ?_)
    obtain ⟨g, o, e, hc⟩ := h4 j v hv
    injection e with e
    subst e
    rw [addr_add]
    exact (World.cell?_of_block (by rw [hw])).trans hc
theorem app_grow {t ty e : TypeId} {i : TypeInfo} {z : Value} (ht : P.underlying t = some (.slice e)) (hi : P.info? e = some i) (hz : i.zero = some z) {B A : Option Addr} {n cc m c : Nat} {olds news : List Value}
    (hfo : (Builtin.firstCells i.size n (.slice B n cc)).run P w.drew = .ok olds.toArray w.drew) (hfn : (Builtin.firstCells i.size m (.slice A m c)).run P w.drew = .ok news.toArray w.drew)
    (hg : cc < n + m) (h63 : n + m ≤ maxLen) (hby : (n + m) * i.bytes ≤ 140737488355328) :
    (Builtin.append_ #[t, t] ty #[.slice B n cc, .slice A m c]).run P w = .ok (.slice (some ⟨w.heap.size, 0, none⟩) (n + m) (grownCap w (n + m) cc e)) (w.drew.alloc (.cells (olds.toArray ++ news.toArray ++ Builtin.zeroCells z.cells (grownCap w (n + m) cc e - (n + m))) e)) := by
  have hfit := growslice_fits hg hby
  have hml : maxLen = 9223372036854775807 := by decide
  have h1 : ¬ (n + m ≤ cc) := by omega
  have h2 : ¬ (9223372036854775807 < ((n : Int) + (m : Int))) := by omega
  have h3 : ¬ (281474976710656 < Builtin.nextslicecap (n + m) cc * i.bytes) := by omega
  simp [Builtin.append_, run_underlying ht, sizeOf, typeInfo, zeroValue, hi, hz, Builtin.lenOf, h1, h2, h3, Question.forced, hfo, hfn, newRow, grownCap]
  congr 2
  apply Array.ext'
  simp [List.append_assoc]
theorem app_room {t ty e : TypeId} {i : TypeInfo} (ht : P.underlying t = some (.slice e)) (hi : P.info? e = some i) {g o : Nat} {A : Option Addr} {n cc m c : Nat} {cur : Array Value} {news : List Value} (hb : Blk w g e cur) (hnl : news.length = m * i.size) (h1 : ∀ u ∈ news, u.oneCell' = true)
    (hfn : (Builtin.firstCells i.size m (.slice A m c)).run P w = .ok news.toArray w) (hroom : n + m ≤ cc) (hfit : o + n * i.size + news.length ≤ cur.size) :
    (Builtin.append_ #[t, t] ty #[.slice (some ⟨g, o, none⟩) n cc, .slice A m c]).run P w = .ok (.slice (some ⟨g, o, none⟩) (n + m) cc) (w.setRow g (cur.toList.take (o + n * i.size) ++ news ++ cur.toList.drop (o + n * i.size + news.length)).toArray) := by
  have hst := run_storeCells_at (P := P) g (o + n * i.size) e news 0 cur w hb (by omega) h1
  simp only [Nat.add_zero] at hst
  simp [Builtin.append_, run_underlying ht, sizeOf, typeInfo, hi, Builtin.lenOf, hroom, hfn, addr_add, hst]
theorem zeroA_info {e : TypeId} {z : List AV} {j : TypeInfo} (h : zeroA P e = some z) (hi : P.info? e = some j) : ∃ v, j.zero = some v ∧ v.cells.size = z.length ∧ ∀ u ∈ v.cells, u.oneCell' = true := by
  unfold zeroA at h
  rw [hi] at h
  simp only at h
  cases hz : j.zero with
  | none => rw [hz] at h; cases h
  | some v =>
    rw [hz] at h
    simp only at h
    split at h
    · rename_i hall
      rw [Array.all_eq_true'] at hall
      injection h with h
      exact ⟨v, rfl, by rw [← h]; simp, hall⟩
    · cases h
theorem zc_one {zs : Array Value} (h : ∀ u ∈ zs, u.oneCell' = true) (hz : 0 < zs.size) (n : Nat) : ∀ u ∈ Builtin.zeroCells zs n, u.oneCell' = true := by
  intro u hu
  unfold Builtin.zeroCells at hu
  rw [Array.mem_map] at hu
  obtain ⟨i, _, rfl⟩ := hu
  have hm : i % zs.size < zs.size := Nat.mod_lt _ hz
  rw [getElem!_pos zs _ hm]
  exact h _ (Array.getElem_mem hm)
theorem anys (vs : List Value) : Rps w S σ (List.replicate vs.length .any) vs := by
  refine ⟨List.length_replicate, fun i a v ha _ => ?_⟩
  rw [List.getElem?_replicate] at ha
  split at ha
  · injection ha with ha; subst ha; exact .any v
  · cases ha
/-- a longer row, elsewhere -/
theorem grow_eff (hs : Sat P w S σ H) {o : Oper} {c : Call} {s x : Operand} {t e : TypeId} {z : List AV} {j : TypeInfo} (ho : o.op = .call c) (hcb : c.callee = .builtin .append) (hca : c.args.toList = [s, x]) (hct : c.argTypes.toList = [t, t])
    (hu : P.underlying t = some (.slice e)) (hz : zeroA P e = some z) (hi : P.info? e = some j) (hzl : z.length = j.size) (hjs : j.size ≠ 0) {id : Nat} (hid : id < H.nx) (hσ : σ id = none) {n m cc c2 : Nat} {B A : Option Addr} {olds news : List Value} {es ys : List (List AV)}
    (hes : ∀ e ∈ es, e.length = j.size) (hys : ∀ e ∈ ys, e.length = j.size) (hen : es.length = n) (hym : ys.length = m) (hro : Rps w S σ es.flatten olds) (hrn : Rps w S σ ys.flatten news) (ho1 : ∀ u ∈ olds, u.oneCell' = true) (hn1 : ∀ u ∈ news, u.oneCell' = true)
    (hx : ev s = .slice B n cc) (hy : ev x = .slice A m c2)
    (hfo : (Builtin.firstCells j.size n (.slice B n cc)).run P w.drew = .ok olds.toArray w.drew) (hfn : (Builtin.firstCells j.size m (.slice A m c2)).run P w.drew = .ok news.toArray w.drew)
    (hg : cc < n + m) (h63 : n + m ≤ maxLen) (hby : (n + m) * j.bytes ≤ 140737488355328) : Eff P w S σ H ev o id (.osl id j.size 0 (n + m)) (H.put id (.row e j.size (es ++ ys))) := by
  obtain ⟨zv, hzv, hzs, hz1⟩ := zeroA_info hz hi
  have hca' : c.args = #[s, x] := Array.toList_inj.1 hca
  have hct' : c.argTypes = #[t, t] := Array.toList_inj.1 hct
  have hrun := app_grow (P := P) (w := w) (ty := o.type) hu hi hzv hfo hfn hg h63 hby
  have hge := grownCap_ge w (n + m) cc e
  have hcm : grownCap w (n + m) cc e ≤ maxLen := grownCap_le_maxLen w (n + m) cc e h63
  have hl : (es ++ ys).length = n + m := by rw [List.length_append, hen, hym]
  have hel : ∀ e ∈ es ++ ys, e.length = j.size := fun e he => (List.mem_append.1 he).elim (hes e) (hys e)
  have hol : olds.length = n * j.size := by rw [← hro.1, flat_length hes, hen]
  have hnl : news.length = m * j.size := by rw [← hrn.1, flat_length hys, hym]
  have hzr : ∃ rest, Rps w S σ rest (Builtin.zeroCells zv.cells (grownCap w (n + m) cc e - (n + m))).toList := ⟨_, anys _⟩
  obtain ⟨rest, hrest⟩ := hzr
  have := row_eff1 (ev := ev) (o := o) hs (w1 := w.drew) ⟨rfl, rfl, rfl, rfl⟩ hid hσ (t := e) (sz := j.size) (c := grownCap w (n + m) cc e) (es := es ++ ys) (rest := rest)
    (arr := olds.toArray ++ news.toArray ++ Builtin.zeroCells zv.cells (grownCap w (n + m) cc e - (n + m))) hel
    (by rw [List.flatten_append]; simp only [Array.toList_append]; exact (hro.append hrn).append hrest) (fun u hu => by
      simp only [Array.mem_append, List.mem_toArray] at hu
      rcases hu with (hu | hu) | hu
      · exact ho1 u hu
      · exact hn1 u hu
      · exact zc_one hz1 (by omega) _ u hu) (by rw [hl]; exact hge) hcm (by
      simp only [Array.size_append, List.size_toArray, size_zeroCells, hzs, hzl, hol, hnl, ← Nat.add_mul]
      exact Nat.mul_le_mul_right _ (by omega)) (by
      rw [hl]
      simp [execOp, ho, resolve, hcb, hca', hct', invoke, builtin, hx, hy, hrun])
  rwa [hl] at this
theorem Ext.lessR {w' : World} {S' : Nat → Prop} {σ' : Nat → Option Value} {H1 H2 : AH} (h : Ext w S σ H w' S' σ' H1) (hg : ∀ b, Foot σ' H2 b → Foot σ' H1 b) : Ext w S σ H w' S' σ' H2 :=
  ⟨h.os, h.tape, h.output, h.size, h.keep, h.sup, h.sub, fun b hb => h.foot b (hg b hb), h.sig⟩
theorem Eff.less {H0 : AH} (hg : ∀ b, Foot σ H0 b → Foot σ H b) {o : Oper} {id : Nat} {a : AV} {H' : AH} (h : Eff P w S σ H0 ev o id a H') : Eff P w S σ H ev o id a H' := by
  obtain ⟨nx, w', σ', h1, h2, h3, h4, h5⟩ := h
  refine ⟨nx, w', σ', h1, h2, h3, ⟨h4.os, h4.tape, h4.output, h4.size, fun b hb hn => h4.keep b hb (fun hf => hn (hg b hf)), h4.sup, fun b hb => ?_, fun b hb => ?_, h4.sig⟩, h5⟩
  · rcases h4.sub b hb with h | h | h
    · exact .inl h
    · exact .inr (.inl (hg b h))
    · exact .inr (.inr h)
  · rcases h4.foot b hb with h | h
    · exact .inl (hg b h)
    · exact .inr h
/-- nothing is done, an empty row is had -/
theorem none_eff (hs : Sat P w S σ H) {id : Nat} (hid : id < H.nx) (hσ : σ id = none) {o : Oper} {t sz : Nat} {B : Option Addr} (hrun : (execOp ev o).run P w = .ok (.value (.slice B 0 0)) w) : Eff P w S σ H ev o id (.osl id sz 0 0) (H.put id (.row t sz [])) := by
  have hnone : ∀ x, σ id = some x → x = .slice none 0 0 := fun x hx => by rw [hσ] at hx; cases hx
  refine ⟨_, w, sput σ id (.slice none 0 0), hrun, .inl ⟨_, rfl, .osl _ _ _ _ none B 0 0 0 sput_self (Nat.le_refl _) rfl (fun h => absurd h (by omega))⟩, hs.upd hid hnone (Nat.le_refl _) (fun _ _ _ => rfl) (fun b hb => by cases hb)
    ⟨none, 0, sput_self, by simp, Nat.le_refl _, Nat.zero_le _, .inl ⟨rfl, rfl⟩⟩ (fun j o b h1 h2 h3 => hs.lt h1 h2 h3) (fun A n c e => by injection e with e1 e2 e3; subst e1; subst e2; subst e3; exact ⟨Nat.le_refl _, fun h => absurd h (by omega), Nat.zero_le _⟩),
    Ext.upd hs hnone rfl rfl rfl (Nat.le_refl _) (fun _ _ _ => rfl) (fun b hb => by cases hb), fun j hj => sput_ne hj⟩
theorem wr_app {o : Oper} {c : Call} {s x : Operand} {t e : TypeId} {z : List AV} {j : TypeInfo} {a : AV} {args : List AV} {id : Nat} {H' : AH} (hs : Sat P w S σ H) (hid : id < H.nx) (hσ : σ id = none) (ho : o.op = .call c) (hcb : c.callee = .builtin .append) (hca : c.args.toList = [s, x]) (hct : c.argTypes.toList = [t, t])
    (hu : P.underlying t = some (.slice e)) (hz : zeroA P e = some z) (hi : P.info? e = some j) (hzl : z.length = j.size) (hjs : j.size ≠ 0) (hp : WrR P id (.app e j.size j.bytes) args H a H') (hr : Rps w S σ args [ev s, ev x]) : Eff P w S σ H ev o id a H' := by
  have hca' : c.args = #[s, x] := Array.toList_inj.1 hca
  have hct' : c.argTypes = #[t, t] := Array.toList_inj.1 hct
  have exec : ∀ {v1 v2 r : Value} {w' : World}, ev s = v1 → ev x = v2 → (Builtin.append_ #[t, t] o.type #[v1, v2]).run P w = .ok r w' → (execOp ev o).run P w = .ok (.value r) w' := by
    intro v1 v2 r w' h1 h2 h3
    simp [execOp, ho, resolve, hcb, hca', hct', invoke, builtin, h1, h2, h3]
  -- what is appended
  have src : ∀ {xa : AV} {ys : List (List AV)}, ElA H j.size xa ys → Rp w S σ xa (ev x) → ∃ A c2, ev x = .slice A ys.length c2 ∧ Elts w S σ j.size A ys := by
    intro xa ys he hrx
    obtain ⟨A, c2, h⟩ := el_sound hs he hrx
    rcases h with ⟨h1, h2, _⟩ | ⟨rfl, h1, rfl⟩
    · exact ⟨A, c2, h1, h2⟩
    · exact ⟨none, c2, h1, by simp, [], by simp, .nil, by simp, by simp⟩
  cases hp with
  | app_nil _ _ _ ys xa _ hel h63 hby =>
    obtain ⟨v1, v2, e1, q1, q2⟩ := hr.two_inv
    simp only [List.cons.injEq, and_true] at e1
    obtain ⟨rfl, rfl⟩ := e1
    have hx := q1.p_inv.1
    obtain ⟨A, c2, hy, hE⟩ := src hel q2
    obtain ⟨news, n1, n2, n3, n4⟩ := elts_read (P := P) hE rfl
    by_cases h0 : ys.length = 0
    · have : ys = [] := List.eq_nil_of_length_eq_zero h0
      subst this
      have n4' := n4 w c2 rfl
      simp only [List.length_nil] at n4' hy ⊢
      refine none_eff hs hid hσ (B := none) (exec hx hy ?_)
      simp [Builtin.append_, run_underlying hu, sizeOf, typeInfo, hi, Builtin.lenOf, n4']
    · have := grow_eff (ev := ev) (o := o) hs ho hcb hca hct hu hz hi hzl hjs hid hσ (n := 0) (m := ys.length) (cc := 0) (B := none) (es := []) (ys := ys) (olds := []) (news := news) (by simp) hE.1 rfl rfl .nil n2 (by simp) n3 hx hy
        (by simp [Builtin.firstCells]) (n4 w.drew c2 rfl) (by omega) (by omega) (by rw [Nat.zero_add]; exact hby)
      simpa using this
  | app_row _ _ _ r off n es ys xa _ hg hle hel h63 hby =>
    obtain ⟨v1, v2, e1, q1, q2⟩ := hr.two_inv
    simp only [List.cons.injEq, and_true] at e1
    obtain ⟨rfl, rfl⟩ := e1
    obtain ⟨Ar, B, N, cr, cc, hx, hσr, k1, k2, k3⟩ := q1.osl_inv
    obtain ⟨A, c2, hy, hE⟩ := src hel q2
    obtain ⟨news, n1, n2, n3, n4⟩ := elts_read (P := P) hE rfl
    obtain ⟨Ab, cb, hb1⟩ := el_sound hs (.row r off n e es hg hle) q1
    have hbase : Elts w S σ j.size B ((es.drop off).take n) := by
      rcases hb1 with ⟨hb1, hb2, _⟩ | ⟨hb0, hb1, rfl⟩
      · rw [hx] at hb1; injection hb1 with hb1 _ _; subst hb1; exact hb2
      · rw [hb0]; exact ⟨by simp, [], by simp, .nil, by simp, by simp⟩
    obtain ⟨olds, o1, o2, o3, o4⟩ := elts_read (P := P) hbase (sub_len hle)
    have hsub : Sat P w S σ (H.kill r) := hs.kill hg
    by_cases hroom : n + ys.length ≤ cc
    · by_cases hcc : cc = 0
      · have hn0 : n = 0 := by omega
        have hy0 : ys = [] := List.eq_nil_of_length_eq_zero (by omega)
        subst hn0; subst hy0; subst hcc
        simp only [List.take_zero, List.nil_append, List.length_nil, Nat.add_zero]
        refine Eff.less (fun b h => Foot.kill h) (none_eff hsub hid hσ (B := B) (exec hx hy ?_))
        have n4' := n4 w c2 rfl
        have hn : news = [] := List.eq_nil_of_length_eq_zero (by simpa using n1)
        subst hn
        simp only [List.length_nil] at n4'
        cases B <;> simp [Builtin.append_, run_underlying hu, sizeOf, typeInfo, hi, Builtin.lenOf, n4', storeCells]
      · obtain ⟨A', c', m1, m2, m3, m4, m5⟩ := hs.obj r _ hg
        rw [hσr] at m1
        simp only [Option.some.injEq, Value.slice.injEq] at m1
        obtain ⟨rfl, rfl, rfl⟩ := m1
        rcases m5 with ⟨_, m5⟩ | ⟨g, o', arr, rfl, p1, p2, p3, p4⟩
        · omega
        have hB : B = some ⟨g, o' + off * j.size, none⟩ := by rw [k3 (by omega), Option.map_some, addr_add]
        subst hB
        have hfit : o' + off * j.size + n * j.size + news.length ≤ arr.size := by
          rw [n1]
          have : (off + (n + ys.length)) * j.size ≤ cr * j.size := Nat.mul_le_mul_right _ (by omega)
          rw [Nat.add_mul, Nat.add_mul] at this
          omega
        have hrun := app_room (P := P) (w := w) (ty := o.type) hu hi p1 n1 n3 (n4 w c2 rfl) hroom hfit
        have hspl : ∀ q, (arr.toList.take (o' + off * j.size + n * j.size) ++ news ++ arr.toList.drop (o' + off * j.size + n * j.size + news.length))[q]? = _ := fun q => splice_get arr.toList news (o' + off * j.size + n * j.size) q (by rw [Array.length_toList]; exact hfit)
        have hnone : ∀ y, σ id = some y → y = .slice (some ⟨g, o' + off * j.size, none⟩) (n + ys.length) cc := fun y hy => by rw [hσ] at hy; cases hy
        have hbk : (σ r).bind blkOf = some g := by rw [hσr]; rfl
        have hkeep : ∀ b, b ≠ g → (w.setRow g (arr.toList.take (o' + off * j.size + n * j.size) ++ news ++ arr.toList.drop (o' + off * j.size + n * j.size + news.length)).toArray).heap[b]? = w.heap[b]? := fun b hb => setRow_other w g b _ hb
        have hS : ∀ b, S b → (w.setRow g (arr.toList.take (o' + off * j.size + n * j.size) ++ news ++ arr.toList.drop (o' + off * j.size + n * j.size + news.length)).toArray).heap[b]? = w.heap[b]? := fun b hb => hkeep b (fun e => hs.sep r _ b hg rfl (by rw [hbk, e]) hb)
        have hlen : ((es.drop off).take n ++ ys).length = n + ys.length := by rw [List.length_append, sub_len hle]
        have mono : ∀ {a : AV} {v : Value}, Rp w S σ a v → Rp (w.setRow g (arr.toList.take (o' + off * j.size + n * j.size) ++ news ++ arr.toList.drop (o' + off * j.size + n * j.size + news.length)).toArray) S (sput σ id (.slice (some ⟨g, o' + off * j.size, none⟩) (n + ys.length) cc)) a v := fun h => h.mono (fun _ h => h) hS (sput_ext hnone)
        refine ⟨_, _, sput σ id (.slice (some ⟨g, o' + off * j.size, none⟩) (n + ys.length) cc), exec hx hy hrun, .inl ⟨_, rfl, .osl _ _ _ _ _ _ _ cc cc sput_self hroom (by omega) (fun _ => by simp [addr_add])⟩,
          hsub.upd hid hnone (by simp) (fun b hb hne => hkeep b (fun e => hne (by rw [e]; rfl))) (fun b hb => ?_) ?_ (fun j o b h1 h2 h3 => hsub.lt h1 h2 h3) (fun A n c e => ?_),
          Ext.lessR (H1 := H.put id (.row e j.size ((es.drop off).take n ++ ys))) (Ext.upd hs hnone rfl rfl rfl (by simp) (fun b hb hne => hkeep b (fun e => hne (by rw [e]; rfl))) (fun b hb => ?_)) (fun b hb => ?_), fun k hk => sput_ne hk⟩
        · simp only [blkOf, Option.some.injEq] at hb; subst hb
          refine ⟨hs.sep r _ g hg rfl hbk, fun k o2 hk h2 h3 h4 => ?_⟩
          obtain ⟨h2', hne⟩ := AH.kill_get h2 h3
          exact hne (hs.dj k r o2 _ g h2' hg h3 rfl h4 hbk)
        · refine ⟨_, cc, by rw [hlen]; exact sput_self, fun y hy => ?_, by rw [hlen]; exact hroom, by omega, .inr ⟨g, _, _, rfl, setRow_heap w g arr _ e (0, 0) p1, ?_, fun u hu => ?_, fun i e' jj b he hb' => ?_⟩⟩
          · exact (List.mem_append.1 hy).elim (fun h => m2 y (sub_mem h)) (hE.1 y)
          · rw [List.size_toArray, splice_len _ _ _ (by rw [Array.length_toList]; exact hfit), Array.length_toList]
            have : (off + cc) * j.size = cr * j.size := by rw [k2]
            rw [Nat.add_mul] at this
            omega
          · rw [← Array.mem_toList_iff, List.toList_toArray] at hu
            rcases List.mem_append.1 hu with hu | hu
            · rcases List.mem_append.1 hu with hu | hu
              · exact p3 u (Array.mem_toList_iff.1 (List.mem_of_mem_take hu))
              · exact n3 u hu
            · exact p3 u (Array.mem_toList_iff.1 (List.mem_of_mem_drop hu))
          · rw [List.getElem?_toArray, hspl]
            by_cases hin : i < n
            · rw [List.getElem?_append_left (by rw [sub_len hle]; exact hin)] at he
              obtain ⟨_, he'⟩ := sub_at he
              have hjl : jj < j.size := by have := (List.getElem?_eq_some_iff.1 hb').1; rw [m2 e' (List.mem_of_getElem? he')] at this; exact this
              obtain ⟨u, hu, hru⟩ := p4 (off + i) e' jj b he' hb'
              have : (i + 1) * j.size ≤ n * j.size := Nat.mul_le_mul_right _ (by omega)
              rw [Nat.add_mul, Nat.one_mul] at this
              refine ⟨u, ?_, mono hru⟩
              rw [if_pos (by omega), Array.getElem?_toList, show o' + off * j.size + i * j.size + jj = o' + (off + i) * j.size + jj by rw [Nat.add_mul]; omega]; exact hu
            · rw [List.getElem?_append_right (by rw [sub_len hle]; omega), sub_len hle] at he
              have hjl : jj < j.size := by have := (List.getElem?_eq_some_iff.1 hb').1; rw [hE.1 e' (List.mem_of_getElem? he)] at this; exact this
              have hfl := flat_elem hE.1 (i - n) e' jj b he hb'
              obtain ⟨u, hu, hru⟩ := n2.at_ hfl
              have hil : i - n < ys.length := (List.getElem?_eq_some_iff.1 he).1
              have h7 : (i - n + 1) * j.size ≤ ys.length * j.size := Nat.mul_le_mul_right _ (by omega)
              have h8 : (n + (i - n)) * j.size = i * j.size := by congr 1; omega
              rw [Nat.add_mul] at h7 h8
              refine ⟨u, ?_, mono hru⟩
              rw [if_neg (by omega), if_pos (by rw [n1]; omega), show o' + off * j.size + i * j.size + jj - (o' + off * j.size + n * j.size) = (i - n) * j.size + jj by omega]; exact hu
        · injection e with e1 e2 e3
          subst e1; subst e2; subst e3
          exact ⟨hroom, fun _ => ⟨_, _, rfl⟩, by omega⟩
        · simp only [blkOf, Option.some.injEq] at hb; subst hb; exact .inl ⟨r, _, hg, rfl, hbk⟩
        · obtain ⟨k, o, h1, h2, h3⟩ := hb
          by_cases hk : k = id
          · subst hk; rw [AH.get_put_self] at h1; exact ⟨k, o, by rw [AH.get_put_self]; exact h1, h2, h3⟩
          · rw [AH.get_put_ne hk] at h1; exact ⟨k, o, by rw [AH.get_put_ne hk]; exact (AH.kill_get h1 h2).1, h2, h3⟩
    · refine Eff.less (H0 := H.kill r) (fun b h => Foot.kill h) ?_
      exact grow_eff (ev := ev) (o := o) hsub ho hcb hca hct hu hz hi hzl hjs hid hσ (fun y hy => hbase.1 y hy) hE.1 (sub_len hle) rfl o2 n2 o3 n3 hx hy (o4 w.drew cc rfl) (n4 w.drew c2 rfl) (by omega) h63 hby
theorem appz_grow {t t' ty e : TypeId} {i : TypeInfo} {k k' : IntKind} {z : Value} (ht : P.underlying t = some (.slice e)) (ht' : P.underlying t' = some (.int k')) (hi : P.info? e = some i) (hz : i.zero = some z) {n : Nat} (h0 : 0 < n) (hs0 : i.size ≠ 0) (h63 : n ≤ maxLen) (hby : n * i.bytes ≤ 140737488355328) :
    (Builtin.append_ #[t, t'] ty #[.slice none 0 0, .int k n]).run P w = .ok (.slice (some ⟨w.heap.size, 0, none⟩) n (grownCap w n 0 e)) (w.drew.alloc (.cells (Builtin.zeroCells z.cells n ++ Builtin.zeroCells z.cells (grownCap w n 0 e - n)) e)) := by
  have hfit := growslice_fits (old := 0) h0 hby
  have hml : maxLen = 9223372036854775807 := by decide
  have hw : IntKind.i64.wrap (n : Int) = n := by rw [IntKind.wrap_i64]; omega
  have h1 : ¬ ((n : Int) < 0) := by omega
  have h2 : ¬ (9223372036854775807 < (n : Int)) := by omega
  have h3 : ¬ (281474976710656 < (n : Int) * i.bytes) := by
    rw [← Int.natCast_mul]; omega
  have h4 : ¬ (281474976710656 < Builtin.nextslicecap n 0 * i.bytes) := by omega
  have h5 : ¬ n = 0 := by omega
  simp [Builtin.append_, run_underlying ht, run_underlying ht', sizeOf, typeInfo, zeroValue, hi, hz, Builtin.lenOf, asInt, asIntOf, hw, h1, h2, h3, h4, h5, hs0, Question.forced, newRow, grownCap, Builtin.firstCells]
  intro h
  exact absurd h (Nat.mul_ne_zero h5 hs0)
theorem wr_apz {o : Oper} {c : Call} {s x : Operand} {t t' e : TypeId} {k' : IntKind} {z : List AV} {j : TypeInfo} {a : AV} {args : List AV} {id : Nat} {H' : AH} (hs : Sat P w S σ H) (hid : id < H.nx) (hσ : σ id = none) (ho : o.op = .call c) (hcb : c.callee = .builtin .append) (hca : c.args.toList = [s, x]) (hct : c.argTypes.toList = [t, t'])
    (hu : P.underlying t = some (.slice e)) (hu' : P.underlying t' = some (.int k')) (hz : zeroA P e = some z) (hi : P.info? e = some j) (hzl : z.length = j.size) (hjs : j.size ≠ 0) (hp : WrR P id (.apz e j.size j.bytes z) args H a H') (hr : Rps w S σ args [ev s, ev x]) : Eff P w S σ H ev o id a H' := by
  have hca' : c.args = #[s, x] := Array.toList_inj.1 hca
  have hct' : c.argTypes = #[t, t'] := Array.toList_inj.1 hct
  cases hp with
  | apz _ _ _ _ k n _ h0 h63 hby =>
    obtain ⟨v1, v2, e1, q1, q2⟩ := hr.two_inv
    simp only [List.cons.injEq, and_true] at e1
    obtain ⟨rfl, rfl⟩ := e1
    have hx := q1.p_inv.1
    have hy := q2.p_inv.1
    obtain ⟨m, rfl⟩ := Int.eq_ofNat_of_zero_le h0
    simp only [Int.toNat_natCast]
    have h63' : m ≤ maxLen := by omega
    have hby' : m * j.bytes ≤ 140737488355328 := by
      have hq : (m : Int) * (j.bytes : Int) ≤ 140737488355328 := hby
      rw [← Int.natCast_mul] at hq; omega
    obtain ⟨zv, hzv, hzs, hz1⟩ := zeroA_info hz hi
    by_cases hm : m = 0
    · subst hm
      refine none_eff hs hid hσ (B := none) ?_
      have hw : IntKind.i64.wrap 0 = 0 := by rw [IntKind.wrap_i64]; omega
      simp [execOp, ho, resolve, hcb, hca', hct', invoke, builtin, hx, hy, Builtin.append_, run_underlying hu, run_underlying hu', sizeOf, typeInfo, hi, Builtin.lenOf, asInt, asIntOf, hw]
    · have hrun := appz_grow (P := P) (w := w) (ty := o.type) (k := k) hu hu' hi hzv (n := m) (by omega) hjs h63' hby'
      have hge := grownCap_ge w m 0 e
      have hcm : grownCap w m 0 e ≤ maxLen := grownCap_le_maxLen w m 0 e h63'
      obtain ⟨v, hv, _, q1', q2'⟩ := zeroA_run (P := P) (w := w) (S := S) (σ := σ) hz
      have hvz : v = zv := by simp [zeroValue, typeInfo, hi, hzv] at hv; exact hv.symm
      subst hvz
      obtain ⟨z1, z2⟩ := zeros_rep q1' q2' (by omega) m
      have hrest : ∃ rest, Rps w S σ rest (Builtin.zeroCells v.cells (grownCap w m 0 e - m)).toList := ⟨_, anys _⟩
      obtain ⟨rest, hrest⟩ := hrest
      have hl : (List.replicate m z).length = m := List.length_replicate
      have := row_eff1 (ev := ev) (o := o) hs (w1 := w.drew) ⟨rfl, rfl, rfl, rfl⟩ hid hσ (t := e) (sz := j.size) (c := grownCap w m 0 e) (es := List.replicate m z) (rest := rest)
        (arr := Builtin.zeroCells v.cells m ++ Builtin.zeroCells v.cells (grownCap w m 0 e - m)) (fun e he => by rw [(List.mem_replicate.1 he).2]; exact hzl)
        (by rw [Array.toList_append]; exact z1.append hrest) (fun u hu => by
          rcases Array.mem_append.1 hu with hu | hu
          · exact z2 u hu
          · exact zc_one hz1 (by omega) _ u hu) (by rw [hl]; exact hge) hcm (by
          simp only [Array.size_append, size_zeroCells, hzs, hzl, ← Nat.add_mul]
          exact Nat.mul_le_mul_right _ (by omega)) (by
          rw [hl]
          simp [execOp, ho, resolve, hcb, hca', hct', invoke, builtin, hx, hy, hrun])
      rwa [hl] at this
theorem rep_flat_len (n : Nat) (z : List AV) : (List.replicate n z).flatten.length = n * z.length := by simp
theorem wr_clr {o : Oper} {c : Call} {s : Operand} {t e : TypeId} {z : List AV} {j : TypeInfo} {a : AV} {args : List AV} {id : Nat} {H' : AH} (hs : Sat P w S σ H) (ho : o.op = .call c) (hcb : c.callee = .builtin .clear) (hca : c.args.toList = [s]) (hct : c.argTypes.toList = [t])
    (hu : P.underlying t = some (.slice e)) (hz : zeroA P e = some z) (hi : P.info? e = some j) (hzl : z.length = j.size) (hjs : j.size ≠ 0) (hp : WrR P id (.clr j.size z) args H a H') (hr : Rps w S σ args [ev s]) : Eff P w S σ H ev o id a H' := by
  have hca' : c.args = #[s] := Array.toList_inj.1 hca
  have hct' : c.argTypes = #[t] := Array.toList_inj.1 hct
  cases hp with
  | clr _ r off n _ t2 es _ hg hle =>
    obtain ⟨v1, e1, q1⟩ := hr.one_inv
    injection e1 with e1; subst e1
    obtain ⟨Ar, B, N, cr, cc, hx, hσr, k1, k2, k3⟩ := q1.osl_inv
    obtain ⟨A', c', m1, m2, m3, m4, m5⟩ := hs.obj r _ hg
    rw [hσr] at m1
    simp only [Option.some.injEq, Value.slice.injEq] at m1
    obtain ⟨rfl, rfl, rfl⟩ := m1
    by_cases h0 : n = 0
    · subst h0
      have hrun : (execOp ev o).run P w = .ok (.value (.tuple #[])) w := by
        cases B <;> simp [execOp, ho, resolve, hcb, hca', hct', invoke, builtin, hx, Builtin.clear_, run_underlying hu]
      have hsame : es.take off ++ List.replicate 0 z ++ es.drop (off + 0) = es := by simp
      rw [hsame]
      have hget : ∀ id, (H.put r (.row t2 j.size es)).get id = H.get id := fun id => by
        by_cases e : id = r
        · subst e; rw [AH.get_put_self, hg]
        · rw [AH.get_put_ne e]
      exact ⟨_, w, σ, hrun, .inl ⟨_, rfl, .any _⟩, hs.congr hget (Nat.le_refl _), Ext.lessR (Ext.refl w S σ H) (fun b hb => Foot.less (fun id o h => by rw [← hget]; exact h) hb), fun _ _ => rfl⟩
    · rcases m5 with ⟨_, m5⟩ | ⟨g, o', arr, rfl, p1, p2, p3, p4⟩
      · omega
      have hB : B = some ⟨g, o' + off * j.size, none⟩ := by rw [k3 (by omega), Option.map_some, addr_add]
      subst hB
      obtain ⟨v, hv, _, q1', q2'⟩ := zeroA_run (P := P) (w := w) (S := S) (σ := σ) hz
      obtain ⟨z1, z2⟩ := zeros_rep q1' q2' (by omega) n
      change Rps w S σ _ (Builtin.zeroCells v.cells n).toList at z1
      have hzl' : ((Builtin.zeroCells v.cells n).toList).length = n * j.size := by rw [← z1.1, rep_flat_len, hzl]
      have hoff : (off + n) * j.size ≤ es.length * j.size := Nat.mul_le_mul_right _ hle
      have hesc : es.length * j.size ≤ cr * j.size := Nat.mul_le_mul_right _ m3
      rw [Nat.add_mul] at hoff
      have hfit : o' + off * j.size + ((Builtin.zeroCells v.cells n).toList).length ≤ arr.size := by rw [hzl']; omega
      have hst := run_storeCells_at (P := P) g (o' + off * j.size) t2 (Builtin.zeroCells v.cells n).toList 0 arr w p1 (by omega) (fun u hu => z2 u (Array.mem_toList_iff.1 hu))
      simp only [Nat.add_zero] at hst
      have hrun : (execOp ev o).run P w = .ok (.value (.tuple #[])) (w.setRow g (arr.toList.take (o' + off * j.size) ++ (Builtin.zeroCells v.cells n).toList ++ arr.toList.drop (o' + off * j.size + (Builtin.zeroCells v.cells n).toList.length)).toArray) := by
        simp [execOp, ho, resolve, hcb, hca', hct', invoke, builtin, hx, Builtin.clear_, run_underlying hu, hv, h0] at hst ⊢
        rw [hst]
        rfl
      have hspl : ∀ q, (arr.toList.take (o' + off * j.size) ++ (Builtin.zeroCells v.cells n).toList ++ arr.toList.drop (o' + off * j.size + (Builtin.zeroCells v.cells n).toList.length))[q]? = _ := fun q => splice_get arr.toList (Builtin.zeroCells v.cells n).toList (o' + off * j.size) q (by rw [Array.length_toList]; exact hfit)
      have hrl : (List.replicate n z).length = n := List.length_replicate
      have hel : ∀ q, (es.take off ++ List.replicate n z ++ es.drop (off + n))[q]? = if q < off then es[q]? else if q < off + n then some z else es[q]? := fun q => by
        have := splice_get es (List.replicate n z) off q (by rw [hrl]; exact hle)
        rw [hrl] at this
        rw [this]
        split
        · rfl
        · split
          · rw [List.getElem?_replicate, if_pos (by omega)]
          · rfl
      have hlen : (es.take off ++ List.replicate n z ++ es.drop (off + n)).length = es.length := by
        have := splice_len es (List.replicate n z) off (by rw [hrl]; exact hle)
        rw [hrl] at this; exact this
      refine set_eff1 hs hg rfl hσr rfl p1 (hs.dom _ _ hσr) (.inl ⟨_, rfl⟩) hrun (fun w' hk hb => ⟨_, cr, by rw [hσr, hlen], fun x hx => ?_, by rw [hlen]; exact m3, m4, .inr ⟨g, o', _, rfl, hb, ?_, fun u hu => ?_, fun i' e' j' b he hb' => ?_⟩⟩)
      · obtain ⟨q, hq⟩ := List.getElem?_of_mem hx
        rw [hel] at hq
        split at hq
        · exact m2 x (List.mem_of_getElem? hq)
        · split at hq
          · injection hq with hq; subst hq; exact hzl
          · exact m2 x (List.mem_of_getElem? hq)
      · rw [List.size_toArray, splice_len _ _ _ (by rw [Array.length_toList]; exact hfit), Array.length_toList]; exact p2
      · rw [← Array.mem_toList_iff, List.toList_toArray] at hu
        rcases List.mem_append.1 hu with hu | hu
        · rcases List.mem_append.1 hu with hu | hu
          · exact p3 u (Array.mem_toList_iff.1 (List.mem_of_mem_take hu))
          · exact z2 u (Array.mem_toList_iff.1 hu)
        · exact p3 u (Array.mem_toList_iff.1 (List.mem_of_mem_drop hu))
      · rw [List.getElem?_toArray, hspl]
        rw [hel] at he
        have mono : ∀ {a : AV} {v : Value}, Rp w S σ a v → Rp w' S σ a v := fun h => h.mono (fun _ h => h) (fun b hS => hk b (fun e => hs.sep r _ b hg rfl (by rw [hσr, e]; rfl) hS)) (fun _ _ h => h)
        by_cases hi1 : i' < off
        · rw [if_pos hi1] at he
          have hjl : j' < j.size := by have := (List.getElem?_eq_some_iff.1 hb').1; rw [m2 e' (List.mem_of_getElem? he)] at this; exact this
          obtain ⟨u, hu, hru⟩ := p4 i' e' j' b he hb'
          have : (i' + 1) * j.size ≤ off * j.size := Nat.mul_le_mul_right _ (by omega)
          rw [Nat.add_mul, Nat.one_mul] at this
          exact ⟨u, by rw [if_pos (by omega), Array.getElem?_toList]; exact hu, mono hru⟩
        · rw [if_neg hi1] at he
          by_cases hi2 : i' < off + n
          · rw [if_pos hi2] at he
            injection he with he
            subst he
            have hjl : j' < j.size := by have := (List.getElem?_eq_some_iff.1 hb').1; omega
            have hfl := flat_elem (es := List.replicate n z) (sz := j.size) (fun e he => by rw [(List.mem_replicate.1 he).2]; exact hzl) (i' - off) z j' b (by rw [List.getElem?_replicate, if_pos (by omega)]) hb'
            obtain ⟨u, hu, hru⟩ := z1.at_ hfl
            have h7 : (i' - off + 1) * j.size ≤ n * j.size := Nat.mul_le_mul_right _ (by omega)
            have h8 : (off + (i' - off)) * j.size = i' * j.size := by congr 1; omega
            rw [Nat.add_mul] at h7 h8
            refine ⟨u, ?_, mono hru⟩
            rw [if_neg (by omega), if_pos (by rw [hzl']; omega), show o' + i' * j.size + j' - (o' + off * j.size) = (i' - off) * j.size + j' by omega]; exact hu
          · rw [if_neg hi2] at he
            obtain ⟨u, hu, hru⟩ := p4 i' e' j' b he hb'
            have : (off + n) * j.size ≤ i' * j.size := Nat.mul_le_mul_right _ (by omega)
            rw [Nat.add_mul] at this
            exact ⟨u, by rw [if_neg (by omega), if_neg (by rw [hzl']; omega), Array.getElem?_toList]; exact hu, mono hru⟩
/-- an operation that writes -/
theorem wr_sound {o : Oper} {wo : WO} {xs : List Operand} {args : List AV} {a : AV} {id : Nat} {H' : AH} (hs : Sat P w S σ H) (hid : id < H.nx ∧ σ id = none) (hc : clsW P o.op = some (wo, xs)) (hp : WrR P id wo args H a H') (hr : Rps w S σ args (xs.map ev)) : Eff P w S σ H ev o id a H' := by
  cases ho : o.op <;> rw [ho] at hc <;> simp only [clsW] at hc <;> try (cases hc; done)
  case store t x v =>
    cases hi : P.info? t with
    | none => rw [hi] at hc; cases hc
    | some j =>
      rw [hi] at hc
      simp only [Option.map_some, Option.some.injEq, Prod.mk.injEq] at hc
      obtain ⟨rfl, rfl⟩ := hc
      exact wr_store hs ho hi hp hr
  case mapUpdate t m k v =>
    revert hc
    split
    · rename_i kt ve hu
      intro hc
      simp only [Option.some.injEq, Prod.mk.injEq] at hc
      obtain ⟨rfl, rfl⟩ := hc
      exact wr_mset hs (.inl ho) hu hp hr
    · intro hc; cases hc
  case insert t m k v =>
    revert hc
    split
    · rename_i kt ve hu
      intro hc
      simp only [Option.some.injEq, Prod.mk.injEq] at hc
      obtain ⟨rfl, rfl⟩ := hc
      exact wr_mset hs (.inr ho) hu hp hr
    · intro hc; cases hc
  case call c =>
    revert hc
    split
    · rename_i s x t t' hcb hca hct
      split
      · rename_i e hu
        split
        · rename_i z j hz hi
          split
          · split
            · intro hc; cases hc
            · rename_i hcond
              simp only [not_or, ne_eq, Decidable.not_not] at hcond
              obtain ⟨c2, c3⟩ := hcond
              split
              · rename_i k' hu'
                intro hc
                simp only [Option.some.injEq, Prod.mk.injEq] at hc
                obtain ⟨rfl, rfl⟩ := hc
                exact wr_apz hs hid.1 hid.2 ho hcb hca hct hu hu' hz hi c3 c2 hp hr
              · intro hc; cases hc
          · rename_i hcond
            simp only [not_or, ne_eq, Decidable.not_not] at hcond
            obtain ⟨rfl, c2, c3⟩ := hcond
            intro hc
            simp only [Option.some.injEq, Prod.mk.injEq] at hc
            obtain ⟨rfl, rfl⟩ := hc
            exact wr_app hs hid.1 hid.2 ho hcb hca hct hu hz hi c3 c2 hp hr
        · intro hc; cases hc
      · intro hc; cases hc
    · rename_i s t hcb hca hct
      split
      · rename_i e hu
        split
        · rename_i z j hz hi
          split
          · intro hc; cases hc
          · rename_i hcond
            simp only [not_or, ne_eq, Decidable.not_not] at hcond
            obtain ⟨c2, c3⟩ := hcond
            intro hc
            simp only [Option.some.injEq, Prod.mk.injEq] at hc
            obtain ⟨rfl, rfl⟩ := hc
            exact wr_clr hs ho hcb hca hct hu hz hi c3 c2 hp hr
        · intro hc; cases hc
      · intro hc; cases hc
    · intro hc; cases hc
end
end Go.Proofs.Ytcmnjoepadjioaa

/- Calls, operations one behind the other, and in whatever order, on abstract memory. Nothing of the program is named here. -/
namespace Go.Proofs.Ytcmnjoepadjioaa
open Go.RowKit Go.Maps

/-- some world stands so -/
def SatE (P : Program) (H : AH) : Prop := ∃ w S σ, Sat P w S σ H
/-- what a call does, told abstractly -/
def Tri (P : Program) (f : FuncId) (args : List AV) (H : AH) (Q : AV → AH → Prop) : Prop :=
  ∀ w S σ us, Sat P w S σ H → Rps w S σ args us → Calls P f us.toArray w fun e w' => ∃ v S' σ' r H', e = .returned v ∧ Q r H' ∧ Sat P w' S' σ' H' ∧ Rp w' S' σ' r v ∧ Ext w S σ H w' S' σ' H' ∧ H.nx ≤ H'.nx ∧ ∀ id, id < H.nx → σ' id = σ id
theorem Tri.mono {P : Program} {f : FuncId} {args : List AV} {H : AH} {Q Q' : AV → AH → Prop} (h : Tri P f args H Q) (hq : ∀ r H', Q r H' → Q' r H') : Tri P f args H Q' :=
  fun w S σ us hs hr => (h w S σ us hs hr).mono fun _ _ ⟨v, S', σ', r, H', h1, h2, h3⟩ => ⟨v, S', σ', r, H', h1, hq _ _ h2, h3⟩
abbrev Env := Nat → AV
def avOfV : Value → AV
  | .agg cs => bif cs.all (·.oneCell') then .agg (cs.toList.map .p) else .any
  | .tuple _ => .any
  | v => .p v
def ev0 (env : Env) : Operand → AV
  | .tmp t => env t
  | .const v => avOfV v
  | .global g => .p (.pointer (some ⟨g, 0, none⟩))
  | .func f => .fn (.func f) [] []
def setE (n : Nat) (env : Env) (dst : Option Tmp) (a : AV) : Env :=
  match dst with
  | some d => bif Nat.blt d n then (fun t => bif Nat.beq t d then a else env t) else env
  | none => env
inductive Cls where
  | mv (x : Operand)
  | pu (o : PO) (xs : List Operand)
  | rd (o : RO) (xs : List Operand)
  | al (o : AOp) (xs : List Operand)
  | wr (o : WO) (xs : List Operand)
  | ca (f : Operand) (xs : List Operand)
  | bad
def cls (P : Program) (o : Op) : Cls :=
  match clsP P o with
  | some (.mv, [x]) => .mv x
  | some (po, xs) => .pu po xs
  | none => match clsR P o with
    | some (ro, xs) => .rd ro xs
    | none => match clsA P o with
      | some (ao, xs) => .al ao xs
      | none => match clsW P o with
        | some (wo, xs) => .wr wo xs
        | none => match o with
          | .call c => match c.callee with
            | .value f => .ca f c.args.toList
            | _ => .bad
          | _ => .bad
def needC : Cls → Bool
  | .al .. => true
  | .wr .. => true
  | _ => false
def callable (P : Program) (f : FuncId) : Bool :=
  match P.funcs[f]? with
  | some fn => fn.name != "runtime.NumGoroutine" && fn.body.isSome
  | none => false
/-- the words of a walk -/
def Pu (P : Program) (o : PO) (args : List AV) (k : AV → AH → Prop) (H : AH) : Prop := ∃ a, PuR P o args a ∧ k a H
def Rd (P : Program) (V : AH) (o : RO) (args : List AV) (k : AV → AH → Prop) (H : AH) : Prop := ∃ a, RdR P V o args a ∧ k a H
def Al (id : Nat) (o : AOp) (args : List AV) (k : AV → AH → Prop) (H : AH) : Prop := ∃ a o', AlR id o args o' a ∧ k a (H.put id o')
def Wr (P : Program) (id : Nat) (o : WO) (args : List AV) (k : AV → AH → AH → Prop) (H : AH) : Prop := ∃ a H', WrR P id o args H a H' ∧ k a H' H'
def Ca (P : Program) (fv : AV) (args : List AV) (k : AV → AH → Prop) (H : AH) : Prop := ∃ f first cap Q, fv = .fn (.func f) first cap ∧ callable P f = true ∧ Tri P f (first ++ args ++ cap) H Q ∧ ∀ r H', SatE P H' → Q r H' → k r H'
/-- the elements of a slice: one that was there when the region began, or one laid in it -/
inductive ElF (V H : AH) (src : Option Nat) (sz : Nat) : AV → List (List AV) → Prop
  | old (x : AV) (ys : List (List AV)) : ElA V sz x ys → ElF V H src sz x ys
  | new (i off n : Nat) (t : TypeId) (es : List (List AV)) : src = some i → H.get i = some (.row t sz es) → off + n ≤ es.length → ElF V H src sz (.osl i sz off n) ((es.drop off).take n)
/-- writes to what was laid in the region -/
inductive WrFR (V : AH) (tgt src : Option Nat) (id : Nat) : WO → List AV → AH → AV → AH → Prop
  | st (n i off : Nat) (t : TypeId) (cs : List AV) (a : AV) (H : AH) : tgt = some i → V.get i = none → H.get i = some (.box t cs) → a.part = true → a.cells.length = n → off + n ≤ cs.length → WrFR V tgt src id (.st n) [.ptr i off, a] H .any (H.put i (.box t (cs.take off ++ a.cells ++ cs.drop (off + n))))
  | app_row (t sz bytes r off n : Nat) (es ys : List (List AV)) (x : AV) (H : AH) : tgt = some r → V.get r = none → H.get r = some (.row t sz es) → off + n ≤ es.length → ElF V H src sz x ys → n + ys.length ≤ maxLen → (n + ys.length) * bytes ≤ 140737488355328 →
      WrFR V tgt src id (.app t sz bytes) [.osl r sz off n, x] H (.osl id sz 0 (n + ys.length)) ((H.kill r).put id (.row t sz ((es.drop off).take n ++ ys)))
  | app_nil (t sz bytes : Nat) (ys : List (List AV)) (x : AV) (H : AH) : tgt = none → ElF V H src sz x ys → ys.length ≤ maxLen → ys.length * bytes ≤ 140737488355328 →
      WrFR V tgt src id (.app t sz bytes) [.p (.slice none 0 0), x] H (.osl id sz 0 ys.length) (H.put id (.row t sz ys))
def WrF (V : AH) (tgt src : Option Nat) (id : Nat) (o : WO) (args : List AV) (k : AV → AH → Prop) (H : AH) : Prop := ∃ a H', WrFR V tgt src id o args H a H' ∧ k a H'
def laysIx (P : Program) : List Oper → Tmp → Nat → Option Nat
  | [], _, _ => none
  | o :: r, t, i => match o.dst with
    | some d => bif Nat.beq d t then (match cls P o.op with
      | .al .. => some i
      | .wr (.app ..) _ => some i
      | _ => none) else laysIx P r t (i + 1)
    | none => laysIx P r t (i + 1)
def defIx (P : Program) (ops : Array Oper) : Operand → Option Nat
  | .tmp t => laysIx P ops.toList t 0
  | _ => none
/-- does it write to what was laid in the region -/
def freshW (P : Program) (ops : Array Oper) (o : Op) : Option (Option Nat × Option Nat) :=
  match cls P o with
  | .wr (.st _) (x :: _) => match defIx P ops x with
    | some j => some (some j, none)
    | none => none
  | .wr (.app ..) [s, x] => match s with
    | .const (.slice none 0 0) => some (none, defIx P ops x)
    | s => match defIx P ops s with
      | some j => some (some j, defIx P ops x)
      | none => none
  | _ => none
/-- where a term is laid in the region, what it is made of being looked through -/
def defC (P : Program) : List Oper → Tmp → Nat → Option (Nat × Cls)
  | [], _, _ => none
  | o :: r, t, i => match o.dst with
    | some d => bif Nat.beq d t then some (i, cls P o.op) else defC P r t (i + 1)
    | none => defC P r t (i + 1)
def srcT (P : Program) (ops : Array Oper) : Nat → List Operand → List Nat
  | 0, _ => []
  | _ + 1, [] => []
  | n + 1, x :: xs => (match x with
    | .tmp t => match defC P ops.toList t 0 with
      | some (i, .al ..) => [i]
      | some (i, .wr (.app ..) _) => [i]
      | some (_, .pu _ ys) => srcT P ops n ys
      | some (_, .mv y) => srcT P ops n [y]
      | _ => []
    | _ => []) ++ srcT P ops n xs
/-- what of the region's own things an operation reads -/
def srcsOf (P : Program) (ops : Array Oper) (o : Op) : List Nat :=
  match cls P o with
  | .rd _ xs => srcT P ops 8 xs
  | .ca f xs => srcT P ops 8 (f :: xs)
  | _ => []
def mixO : Option AO → Nat → AH → AH
  | some o, i, W => W.put i o
  | none, _, W => W
/-- what was there when the region began, and some of what it has laid -/
def mixV (V H : AH) : List Nat → AH
  | [] => V
  | i :: r => mixO (H.get i) i (mixV V H r)
def RdN (P : Program) (V : AH) (sl : List Nat) (o : RO) (args : List AV) (k : AV → AH → Prop) (H : AH) : Prop := ∃ a, RdR P (mixV V H sl) o args a ∧ k a H
def RdS (P : Program) (o : RO) (args : List AV) (k : AV → AH → Prop) (H : AH) : Prop := Rd P H o args k H
def WrS (P : Program) (id : Nat) (o : WO) (args : List AV) (k : AV → AH → Prop) (H : AH) : Prop := Wr P id o args (fun a _ => k a) H
def AH.le (V H : AH) : Prop := ∀ id o, V.get id = some o → H.get id = some o
def CaV (P : Program) (V : AH) (fv : AV) (args : List AV) (k : AV → AH → Prop) (H : AH) : Prop :=
  ∃ f first cap a, fv = .fn (.func f) first cap ∧ callable P f = true ∧ (∀ H2, V.le H2 → Tri P f (first ++ args ++ cap) H2 (fun r H' => H' = H2 ∧ r = a)) ∧ k a H
/-- what a guard tells: a truth, or that it was itself left out -/
def gb : Option Bool → AV
  | some b => .p (.bool b)
  | none => .tup []
def CaN (P : Program) (V : AH) (sl : List Nat) (fv : AV) (args : List AV) (k : AV → AH → Prop) (H : AH) : Prop :=
  ∃ f first cap a, fv = .fn (.func f) first cap ∧ callable P f = true ∧ (∀ H2, (mixV V H sl).le H2 → Tri P f (first ++ args ++ cap) H2 (fun r H' => H' = H2 ∧ r = a)) ∧ k a H
def Gd (c : AV) (want : Bool) (F : (AV → AH → Prop) → AH → Prop) (k : AV → AH → Prop) (H : AH) : Prop := ∃ b, c = gb b ∧ (b = some want → F k H) ∧ (b ≠ some want → k (.tup []) H)
def GdV (c : AV) (want : Bool) (F : (AV → AH → AH → Prop) → AH → Prop) (V : AH) (k : AV → AH → AH → Prop) (H : AH) : Prop := ∃ b, c = gb b ∧ (b = some want → F k H) ∧ (b ≠ some want → k (.tup []) V H)
def Rg (m : Nat) (F : Nat → AH → Prop) (H : AH) : Prop := F H.nx (H.up m)
def Vw (F : AH → AH → Prop) (H : AH) : Prop := F H H
def coreS (P : Program) (id : Nat) (o : Op) (env : Env) (k : AV → AH → Prop) (H : AH) : Prop :=
  match cls P o with
  | .mv x => k (ev0 env x) H
  | .pu po xs => Pu P po (xs.map (ev0 env)) k H
  | .rd ro xs => RdS P ro (xs.map (ev0 env)) k H
  | .al ao xs => Al id ao (xs.map (ev0 env)) k H
  | .wr wo xs => WrS P id wo (xs.map (ev0 env)) k H
  | .ca f xs => Ca P (ev0 env f) (xs.map (ev0 env)) k H
  | .bad => False
def plusB (b : Nat) : Option Nat → Option Nat
  | some j => some (b + j)
  | none => none
def coreV (P : Program) (b : Nat) (fw : Option (Option Nat × Option Nat) × List Nat) (V : AH) (id : Nat) (o : Op) (env : Env) (k : AV → AH → AH → Prop) (H : AH) : Prop :=
  match cls P o with
  | .mv x => k (ev0 env x) V H
  | .pu po xs => Pu P po (xs.map (ev0 env)) (fun a => k a V) H
  | .rd ro xs => match fw.2 with
    | [] => Rd P V ro (xs.map (ev0 env)) (fun a => k a V) H
    | j :: r => RdN P V ((b + j) :: r.map (b + ·)) ro (xs.map (ev0 env)) (fun a => k a V) H
  | .al ao xs => Al id ao (xs.map (ev0 env)) (fun a => k a V) H
  | .wr wo xs => match fw.1 with
    | some (tg, sr) => WrF V (plusB b tg) (plusB b sr) id wo (xs.map (ev0 env)) (fun a => k a V) H
    | none => Wr P id wo (xs.map (ev0 env)) k H
  | .ca f xs => match fw.2 with
    | [] => CaV P V (ev0 env f) (xs.map (ev0 env)) (fun a => k a V) H
    | j :: r => CaN P V ((b + j) :: r.map (b + ·)) (ev0 env f) (xs.map (ev0 env)) (fun a => k a V) H
  | .bad => False
def gv (n : Nat) (ops : Array Oper) (env : Env) (j : Nat) : AV :=
  match (ops[j]?).bind (·.dst) with
  | some d => bif Nat.blt d n then env d else .any
  | none => .any
def seqA (P : Program) (n b : Nat) (ops : Array Oper) : List Oper → Nat → Env → (Env → AH → Prop) → AH → Prop
  | [], _, env, k => k env
  | o :: rest, i, env, k => match o.guard with
    | none => coreS P (b + i) o.op env (fun a => seqA P n b ops rest (i + 1) (setE n env o.dst a) k)
    | some (j, want) => Gd (gv n ops env j) want (coreS P (b + i) o.op env) (fun a => seqA P n b ops rest (i + 1) (setE n env o.dst a) k)
def stepV (P : Program) (n b : Nat) (ops : Array Oper) (o : Oper) (i : Nat) (env : Env) (V : AH) (k : Env → AH → AH → Prop) (H : AH) : Prop :=
  match o.guard with
  | none => coreV P b (freshW P ops o.op, srcsOf P ops o.op) V (b + i) o.op env (fun a => k (setE n env o.dst a)) H
  | some (j, want) => GdV (gv n ops env j) want (coreV P b (freshW P ops o.op, srcsOf P ops o.op) V (b + i) o.op env) V (fun a => k (setE n env o.dst a)) H
def seqV (P : Program) (n b : Nat) (ops : Array Oper) : List Oper → Nat → Env → (Env → AH → Prop) → AH → AH → Prop
  | [], _, env, k, _, H => k env H
  | o :: rest, i, env, k, V, H => stepV P n b ops o i env V (fun env' => seqV P n b ops rest (i + 1) env' k) H

section
variable {P : Program} {w : World} {S : Nat → Prop} {σ : Nat → Option Value} {H : AH} {n b : Nat} {ops : Array Oper}
/-- the frame stands for what is told of it -/
structure RepE (n : Nat) (a : Act) (w : World) (S : Nat → Prop) (σ : Nat → Option Value) (env : Env) : Prop where
  size : a.tmps.size = n
  defers : a.defers = []
  at_ : ∀ t, Rp w S σ (env t) (a.tmps.getD t undef)
theorem avOfV_rp (v : Value) : Rp w S σ (avOfV v) v := by
  cases v <;> try exact .data _ _ (.p _ rfl)
  · rename_i cs
    simp only [avOfV]
    cases hall : cs.all (·.oneCell') with
    | false => exact .any _
    | true =>
      rw [cond_true]
      rw [Array.all_eq_true'] at hall
      refine .agg _ _ (by simp) (fun k a u ha hu => ?_) hall
      rw [List.getElem?_map, Array.getElem?_toList, hu] at ha
      simp at ha; subst ha
      exact .data _ _ (.p _ (hall u (Array.mem_of_getElem? hu)))
  · exact .any _
theorem RepE.ev {a : Act} {env : Env} (h : RepE n a w S σ env) (x : Operand) : Rp w S σ (ev0 env x) (a.eval x) := by
  cases x with
  | tmp t => exact h.at_ t
  | const v => exact avOfV_rp v
  | global g => exact .data _ _ (.p _ rfl)
  | func f => exact .fn _ _ _ _ _ rfl rfl (by simp) (by simp)
theorem RepE.evs {a : Act} {env : Env} (h : RepE n a w S σ env) (xs : List Operand) : Rps w S σ (xs.map (ev0 env)) (xs.map a.eval) := by
  induction xs with
  | nil => exact .nil
  | cons x xs ih => exact .cons (h.ev x) ih
theorem RepE.put {a : Act} {env : Env} (h : RepE n a w S σ env) (dst : Option Tmp) {x : AV} {v : Value} (hx : Rp w S σ x v) : RepE n (a.put dst v) w S σ (setE n env dst x) := by
  cases dst with
  | none => exact h
  | some d =>
    refine ⟨by simp [Act.put, h.size], h.defers, fun t => ?_⟩
    simp only [setE, Act.put]
    by_cases hd : d < n
    · rw [show Nat.blt d n = true from by simp [Nat.blt_eq, hd]]
      simp only [cond_true]
      by_cases ht : t = d
      · subst ht
        rw [show Nat.beq t t = true from Nat.beq_refl t]
        simp only [cond_true, Array.getD_eq_getD_getElem?]
        rw [Array.getElem?_setIfInBounds_self_of_lt (by rw [h.size]; exact hd)]
        exact hx
      · rw [show Nat.beq t d = false from by rw [Bool.eq_false_iff]; exact fun e => ht (Nat.eq_of_beq_eq_true e)]
        simp only [cond_false, Array.getD_eq_getD_getElem?]
        rw [Array.getElem?_setIfInBounds_ne (fun e => ht e.symm), ← Array.getD_eq_getD_getElem?]
        exact h.at_ t
    · rw [show Nat.blt d n = false from by rw [Bool.eq_false_iff]; simp [Nat.blt_eq, hd]]
      simp only [cond_false, Array.getD_eq_getD_getElem?]
      rw [show a.tmps.setIfInBounds d v = a.tmps from Array.setIfInBounds_eq_of_size_le (by rw [h.size]; exact Nat.le_of_not_lt hd), ← Array.getD_eq_getD_getElem?]
      exact h.at_ t
theorem RepE.ext {w' : World} {S' : Nat → Prop} {σ' : Nat → Option Value} {H' : AH} {a : Act} {env : Env} (h : RepE n a w S σ env) (hs : Sat P w S σ H) (e : Ext w S σ H w' S' σ' H') : RepE n a w' S' σ' env :=
  ⟨h.size, h.defers, fun t => e.rp hs (h.at_ t)⟩
theorem cls_pu {o : Op} {po : PO} {xs : List Operand} (h : cls P o = .pu po xs) : clsP P o = some (po, xs) := by
  unfold cls at h
  split at h <;> try (cases h; done)
  · rename_i hc; injection h with h1 h2; subst h1; subst h2; exact hc
  · split at h <;> try (cases h; done)
    split at h <;> try (cases h; done)
    split at h <;> try (cases h; done)
    split at h <;> try (cases h; done)
    split at h <;> cases h
theorem cls_mv {o : Op} {x : Operand} (h : cls P o = .mv x) : clsP P o = some (.mv, [x]) := by
  unfold cls at h
  split at h <;> try (cases h; done)
  · rename_i hc; injection h with h1; subst h1; exact hc
  · split at h <;> try (cases h; done)
    split at h <;> try (cases h; done)
    split at h <;> try (cases h; done)
    split at h <;> try (cases h; done)
    split at h <;> cases h
theorem cls_rd {o : Op} {ro : RO} {xs : List Operand} (h : cls P o = .rd ro xs) : clsR P o = some (ro, xs) := by
  unfold cls at h
  split at h <;> try (cases h; done)
  · split at h <;> try (cases h; done)
    · rename_i hc; injection h with h1 h2; subst h1; subst h2; exact hc
    · split at h <;> try (cases h; done)
      split at h <;> try (cases h; done)
      split at h <;> try (cases h; done)
      split at h <;> cases h
theorem cls_al {o : Op} {ao : AOp} {xs : List Operand} (h : cls P o = .al ao xs) : clsA P o = some (ao, xs) := by
  unfold cls at h
  split at h <;> try (cases h; done)
  · split at h <;> try (cases h; done)
    split at h <;> try (cases h; done)
    · rename_i hc; injection h with h1 h2; subst h1; subst h2; exact hc
    · split at h <;> try (cases h; done)
      split at h <;> try (cases h; done)
      split at h <;> cases h
theorem cls_wr {o : Op} {wo : WO} {xs : List Operand} (h : cls P o = .wr wo xs) : clsW P o = some (wo, xs) := by
  unfold cls at h
  split at h <;> try (cases h; done)
  · split at h <;> try (cases h; done)
    split at h <;> try (cases h; done)
    split at h <;> try (cases h; done)
    · rename_i hc; injection h with h1 h2; subst h1; subst h2; exact hc
    · split at h <;> try (cases h; done)
      split at h <;> cases h
theorem cls_ca {o : Op} {f : Operand} {xs : List Operand} (h : cls P o = .ca f xs) : ∃ c, o = .call c ∧ c.callee = .value f ∧ c.args.toList = xs := by
  unfold cls at h
  split at h <;> try (cases h; done)
  · split at h <;> try (cases h; done)
    split at h <;> try (cases h; done)
    split at h <;> try (cases h; done)
    split at h <;> try (cases h; done)
    split at h <;> try (cases h; done)
    rename_i c _ _ hc
    injection h with h1 h2
    subst h1; subst h2
    exact ⟨_, rfl, hc, rfl⟩
/-- a call that is made -/
theorem call_run {o : Oper} {c : Call} {fo : Operand} {ev : Operand → Value} {f : FuncId} {first cap : List AV} {args : List AV} (ho : o.op = .call c) (hc : c.callee = .value fo) (hf : Rp w S σ (.fn (.func f) first cap) (ev fo)) (hcal : callable P f = true) (hr : Rps w S σ args (c.args.toList.map ev)) :
    ∃ us : List Value, (execOp ev o).run P w = .ok (.enter f us.toArray) w ∧ Rps w S σ (first ++ args ++ cap) us := by
  obtain ⟨fs, cs, hfe, h1, h2⟩ := hf.fn_inv
  refine ⟨fs.toList ++ c.args.toList.map ev ++ cs.toList, ?_, (h1.append hr).append h2⟩
  unfold callable at hcal
  cases hfn : P.funcs[f]? with
  | none => rw [hfn] at hcal; cases hcal
  | some fn =>
    rw [hfn] at hcal
    simp only [Bool.and_eq_true, bne_iff_ne, ne_eq] at hcal
    obtain ⟨n1, n2⟩ := hcal
    have n3 : ¬ fn.body = none := by intro e; rw [e] at n2; cases n2
    have he : (fs ++ c.args.map ev) ++ cs = (fs.toList ++ c.args.toList.map ev ++ cs.toList).toArray := by
      apply Array.ext'; simp
    rw [← he]
    simp [execOp, ho, resolve, hc, hfe, Deferred.ofValue, invoke, callFunc, hfn, n1, n3]
end
end Go.Proofs.Ytcmnjoepadjioaa

/- Operations one behind the other, and in whatever order: what the model does is what is told. Nothing of the program is named here. -/
namespace Go.Proofs.Ytcmnjoepadjioaa
open Go.RowKit Go.Maps

section
variable {P : Program} {w : World} {S : Nat → Prop} {σ : Nat → Option Value} {H V : AH} {n b : Nat} {ops : Array Oper}
/-- what stands behind an operation -/
def Aft (P : Program) (nd : Bool) (n id : Nat) (w : World) (S : Nat → Prop) (σ : Nat → Option Value) (H : AH) (dst : Option Tmp) (env : Env) (k : AV → AH → Prop) (a' : Act) (w' : World) : Prop :=
  ∃ x H' S' σ', k x H' ∧ RepE n a' w' S' σ' (setE n env dst x) ∧ Sat P w' S' σ' H' ∧ Ext w S σ H w' S' σ' H' ∧ H.nx ≤ H'.nx ∧ ∀ j, (nd = true → j ≠ id) → j < H.nx → σ' j = σ j
theorem val_wp {nd : Bool} {o : Oper} {a : Act} {env : Env} {x : AV} {k : AV → AH → Prop} {id : Nat} {Q : Exit → Act → World → Prop} (hr : RepE n a w S σ env) (hs : Sat P w S σ H) (h : Val1 P w S σ a.eval o x) (hk : k x H) : o.wp P a w (Aft P nd n id w S σ H o.dst env k) Q := by
  obtain ⟨v, hv, hx⟩ := h
  unfold Oper.wp
  rw [hv]
  exact ⟨x, H, S, σ, hk, hr.put _ hx, hs, .refl _ _ _ _, Nat.le_refl _, fun _ _ _ => rfl⟩
theorem eff_wp {o : Oper} {a : Act} {env : Env} {x : AV} {k : AV → AH → Prop} {id : Nat} {Q : Exit → Act → World → Prop} {H' : AH} (hr : RepE n a w S σ env) (hs : Sat P w S σ H) (h : Eff P w S σ H a.eval o id x H') (hn : H.nx ≤ H'.nx) (hk : k x H') : o.wp P a w (Aft P true n id w S σ H o.dst env k) Q := by
  obtain ⟨nx, w', σ', hv, hx, h1, h2, h3⟩ := h
  unfold Oper.wp
  rw [hv]
  rcases hx with ⟨v, rfl, hx⟩ | ⟨rfl, rfl⟩
  · exact ⟨x, H', S, σ', hk, (hr.ext hs h2).put _ hx, h1, h2, hn, fun j hj _ => h3 j (hj rfl)⟩
  · exact ⟨_, H', S, σ', hk, (hr.ext hs h2).put _ (.any _), h1, h2, hn, fun j hj _ => h3 j (hj rfl)⟩
theorem ca_wp {nd : Bool} {o : Oper} {a : Act} {env : Env} {c : Call} {fo : Operand} {f : FuncId} {first cap : List AV} {R : AV → AH → Prop} {k : AV → AH → Prop} {id : Nat} {Q : Exit → Act → World → Prop} (hr : RepE n a w S σ env) (hs : Sat P w S σ H) (ho : o.op = .call c) (hc : c.callee = .value fo)
    (hf : ev0 env fo = .fn (.func f) first cap) (hcal : callable P f = true) (ht : Tri P f (first ++ c.args.toList.map (ev0 env) ++ cap) H R) (hk : ∀ r H', SatE P H' → R r H' → k r H') : o.wp P a w (Aft P nd n id w S σ H o.dst env k) Q := by
  have hfv := hr.ev fo
  rw [hf] at hfv
  obtain ⟨us, hrun, hus⟩ := call_run (P := P) ho hc hfv hcal (hr.evs c.args.toList)
  unfold Oper.wp
  rw [hrun]
  refine (ht w S σ us hs hus).mono fun e w' ⟨v, S', σ', r, H', he, hq, h1, h2, h3, h4, h5⟩ => ?_
  subst he
  exact ⟨r, H', S', σ', hk r H' ⟨_, _, _, h1⟩ hq, (hr.ext hs h3).put _ h2, h1, h3, h4, fun j _ hj => h5 j hj⟩
theorem wr_nx {id : Nat} {wo : WO} {args : List AV} {a : AV} {H' : AH} (h : WrR P id wo args H a H') : H'.nx = H.nx := by cases h <;> rfl
theorem sat_hsz (hs : Sat P w S σ H) : ∀ id A n c, σ id = some (.slice A n c) → n ≤ c ∧ (0 < c → ∃ g o, A = some ⟨g, o, none⟩) := fun id A n c h => ⟨(hs.sl id A n c h).1, (hs.sl id A n c h).2.1⟩
theorem coreS_wp {o : Oper} {a : Act} {env : Env} {k : AV → AH → Prop} {id : Nat} {Q : Exit → Act → World → Prop} (hr : RepE n a w S σ env) (hs : Sat P w S σ H) (hid : needC (cls P o.op) = true → id < H.nx ∧ σ id = none) (h : coreS P id o.op env k H) : o.wp P a w (Aft P (needC (cls P o.op)) n id w S σ H o.dst env k) Q := by
  unfold coreS at h
  split at h
  · rename_i x hc
    exact val_wp hr hs (pu_sound (cls_mv hc) (.mv _) (hr.evs [x]) (sat_hsz hs)) h
  · rename_i po xs hc
    obtain ⟨x, hp, hk⟩ := h
    exact val_wp hr hs (pu_sound (cls_pu hc) hp (hr.evs xs) (sat_hsz hs)) hk
  · rename_i ro xs hc
    obtain ⟨x, hp, hk⟩ := h
    exact val_wp hr hs (rd_sound hs (cls_rd hc) hp (hr.evs xs)) hk
  · rename_i ao xs hc
    obtain ⟨x, o', hp, hk⟩ := h
    rw [show needC (cls P o.op) = true from by rw [hc]; rfl]
    exact eff_wp hr hs (al_sound (fun _ => rfl) hs (hid (by rw [hc]; rfl)).1 (hid (by rw [hc]; rfl)).2 (cls_al hc) hp (hr.evs xs)) (Nat.le_refl _) hk
  · rename_i wo xs hc
    obtain ⟨x, H', hp, hk⟩ := h
    rw [show needC (cls P o.op) = true from by rw [hc]; rfl]
    exact eff_wp hr hs (wr_sound hs (hid (by rw [hc]; rfl)) (cls_wr hc) hp (hr.evs xs)) (Nat.le_of_eq (wr_nx hp).symm) hk
  · rename_i f xs hc
    obtain ⟨c, ho, hcc, rfl⟩ := cls_ca hc
    obtain ⟨g, first, cap, R, hf, hcal, ht, hk⟩ := h
    exact ca_wp hr hs ho hcc hf hcal ht hk
  · exact h.elim
theorem AtA.le {a : AV} {ds : List AV} (h : AtA V a ds) (hle : V.le H) : AtA H a ds := by
  cases h with
  | box id off t cs hg => exact .box id off t cs (hle _ _ hg)
  | row id sz i j t es e hg he => exact .row id sz i j t es e (hle _ _ hg) he
  | frz id sz i j es e hg he => exact .frz id sz i j es e (hle _ _ hg) he
  | dat sz i j xs e he => exact .dat sz i j xs e he
theorem RdR.le {ro : RO} {args : List AV} {a : AV} (h : RdR P V ro args a) (hle : V.le H) : RdR P H ro args a := by
  cases h with
  | ld_agg _ _ _ hat hn => exact .ld_agg _ _ _ (hat.le hle) hn
  | ld_one _ _ _ _ hat hb => exact .ld_one _ _ _ _ (hat.le hle) hb
  | look_no _ _ _ _ _ _ _ _ hg hK hu hk hf => exact .look_no _ _ _ _ _ _ _ _ (hle _ _ hg) hK hu hk hf
  | look_yes _ _ _ _ _ _ _ _ _ hg hK hu hk hf => exact .look_yes _ _ _ _ _ _ _ _ _ (hle _ _ hg) hK hu hk hf
/-- the same in whatever order: what was there when the region began is read -/
def AftV (P : Program) (nd : Bool) (n id : Nat) (w : World) (S : Nat → Prop) (σ : Nat → Option Value) (H : AH) (dst : Option Tmp) (env : Env) (k : AV → AH → AH → Prop) (a' : Act) (w' : World) : Prop :=
  ∃ x V' H' S' σ', k x V' H' ∧ V'.le H' ∧ RepE n a' w' S' σ' (setE n env dst x) ∧ Sat P w' S' σ' H' ∧ Ext w S σ H w' S' σ' H' ∧ H.nx ≤ H'.nx ∧ ∀ j, (nd = true → j ≠ id) → j < H.nx → σ' j = σ j
theorem Aft.toV {nd : Bool} {id : Nat} {dst : Option Tmp} {env : Env} {k : AV → AH → Prop} {k' : AV → AH → AH → Prop} {a' : Act} {w' : World} (h : Aft P nd n id w S σ H dst env k a' w') (hk : ∀ x H', k x H' → ∃ V', k' x V' H' ∧ V'.le H') : AftV P nd n id w S σ H dst env k' a' w' := by
  obtain ⟨x, H', S', σ', h1, h2⟩ := h
  obtain ⟨V', h3, h4⟩ := hk x H' h1
  exact ⟨x, V', H', S', σ', h3, h4, h2⟩
theorem put_le {id : Nat} {o' : AO} (hle : V.le H) (hn : H.get id = none) : V.le (H.put id o') := by
  intro j o hj
  have h := hle j o hj
  by_cases e : j = id
  · subst e; rw [hn] at h; cases h
  · rw [AH.get_put_ne e]; exact h
theorem Sat.none_get (hs : Sat P w S σ H) {id : Nat} (h : σ id = none) : H.get id = none := by
  cases hg : H.get id with
  | none => rfl
  | some o =>
    have := hs.obj id o hg
    cases o with
    | box t cs => obtain ⟨g, arr, h1, _⟩ := this; rw [h] at h1; cases h1
    | row t sz es => obtain ⟨A, c, h1, _⟩ := this; rw [h] at h1; cases h1
    | frz sz es => obtain ⟨A, c, h1, _⟩ := this; rw [h] at h1; cases h1
    | map kt m f => obtain ⟨g, f', h1, _⟩ := this; rw [h] at h1; cases h1
    | siter s p => obtain ⟨g, h1, _⟩ := this; rw [h] at h1; cases h1
    | dead => have h2 : (σ id).isSome = true := this; rw [h] at h2; cases h2
theorem AH.le_refl (H : AH) : H.le H := fun _ _ h => h
theorem ElA.le {sz : Nat} {x : AV} {ys : List (List AV)} (h : ElA V sz x ys) (hle : V.le H) : ElA H sz x ys := by
  cases h with
  | dsl xs => exact .dsl _
  | row id off n t es hg hn => exact .row id off n t es (hle _ _ hg) hn
  | frz id off n es hg hn => exact .frz id off n es (hle _ _ hg) hn
  | nil_ A c => exact .nil_ A c
theorem ElF.toA {src : Option Nat} {sz : Nat} {x : AV} {ys : List (List AV)} (h : ElF V H src sz x ys) (hle : V.le H) : ElA H sz x ys := by
  cases h with
  | old x ys h => exact h.le hle
  | new i off n t es _ hg hn => exact .row i off n t es hg hn
theorem put_leV {i : Nat} {o' : AO} (hle : V.le H) (hn : V.get i = none) : V.le (H.put i o') := by
  intro j o hj
  have hne : j ≠ i := fun e => by subst e; rw [hn] at hj; cases hj
  rw [AH.get_put_ne hne]; exact hle j o hj
theorem wrF_wr {tgt src : Option Nat} {id : Nat} {wo : WO} {args : List AV} {a : AV} {H' : AH} (hle : V.le H) (hid : H.get id = none) (h : WrFR V tgt src id wo args H a H') : WrR P id wo args H a H' ∧ V.le H' := by
  have hv : V.get id = none := by
    cases hg : V.get id with
    | none => rfl
    | some o => rw [hle _ _ hg] at hid; cases hid
  cases h with
  | st n i off t cs a _ h1 h2 h3 h4 h5 h6 => exact ⟨.st_box n i off t cs a _ h3 h4 h5 h6, put_leV hle h2⟩
  | app_row t sz bytes r off n es ys x _ h1 h2 h3 h4 h5 h6 h7 => exact ⟨.app_row t sz bytes r off n es ys x _ h3 h4 (h5.toA hle) h6 h7, put_leV (put_leV hle h2) hv⟩
  | app_nil t sz bytes ys x _ h1 h2 h3 h4 => exact ⟨.app_nil t sz bytes ys x _ (h2.toA hle) h3 h4, put_leV hle hv⟩
theorem mixV_le (hle : V.le H) : ∀ sl : List Nat, (mixV V H sl).le H
  | [] => hle
  | i :: r => by
    have ih := mixV_le hle r
    unfold mixV
    cases hg : H.get i with
    | none => exact ih
    | some o =>
      intro j o' hj
      by_cases e : j = i
      · subst e; simp only [mixO] at hj; rw [AH.get_put_self] at hj; rw [hg]; exact hj
      · simp only [mixO] at hj; rw [AH.get_put_ne e] at hj; exact ih j o' hj
theorem mixV_congr {H2 : AH} : ∀ sl : List Nat, (∀ i ∈ sl, H2.get i = H.get i) → mixV V H2 sl = mixV V H sl
  | [], _ => rfl
  | i :: r, h => by
    unfold mixV
    rw [h i (by simp), mixV_congr r fun j hj => h j (by simp [hj])]
theorem coreV_wp {o : Oper} {a : Act} {env : Env} {k : AV → AH → AH → Prop} {id : Nat} {Q : Exit → Act → World → Prop} (hr : RepE n a w S σ env) (hs : Sat P w S σ H) (hle : V.le H) (hid : needC (cls P o.op) = true → id < H.nx ∧ σ id = none) {fw : Option (Option Nat × Option Nat) × List Nat} (h : coreV P b fw V id o.op env k H) : o.wp P a w (AftV P (needC (cls P o.op)) n id w S σ H o.dst env k) Q := by
  have up : ∀ {k1 : AV → AH → Prop}, o.wp P a w (Aft P (needC (cls P o.op)) n id w S σ H o.dst env k1) Q → (∀ x H', k1 x H' → ∃ V', k x V' H' ∧ V'.le H') → o.wp P a w (AftV P (needC (cls P o.op)) n id w S σ H o.dst env k) Q := fun h1 h2 => Oper.wp_mono (fun _ _ h => h.toV h2) h1
  unfold coreV at h
  split at h
  · rename_i x hc
    exact up (k1 := fun x H' => k x V H' ∧ V.le H') (val_wp hr hs (pu_sound (cls_mv hc) (.mv _) (hr.evs [x]) (sat_hsz hs)) ⟨h, hle⟩) (fun _ _ h => ⟨V, h⟩)
  · rename_i po xs hc
    obtain ⟨x, hp, hk⟩ := h
    exact up (k1 := fun x H' => k x V H' ∧ V.le H') (val_wp hr hs (pu_sound (cls_pu hc) hp (hr.evs xs) (sat_hsz hs)) ⟨hk, hle⟩) (fun _ _ h => ⟨V, h⟩)
  · rename_i ro xs hc
    obtain ⟨fw, sl⟩ := fw
    cases sl with
    | nil =>
      obtain ⟨x, hp, hk⟩ := h
      exact up (k1 := fun x H' => k x V H' ∧ V.le H') (val_wp hr hs (rd_sound hs (cls_rd hc) (hp.le hle) (hr.evs xs)) ⟨hk, hle⟩) (fun _ _ h => ⟨V, h⟩)
    | cons j r =>
      obtain ⟨x, hp, hk⟩ := h
      exact up (k1 := fun x H' => k x V H' ∧ V.le H') (val_wp hr hs (rd_sound hs (cls_rd hc) (hp.le (mixV_le hle _)) (hr.evs xs)) ⟨hk, hle⟩) (fun _ _ h => ⟨V, h⟩)
  · rename_i ao xs hc
    obtain ⟨x, o', hp, hk⟩ := h
    refine up (k1 := fun x H' => k x V H' ∧ V.le H') (by rw [show needC (cls P o.op) = true from by rw [hc]; rfl]; exact eff_wp hr hs (al_sound (fun _ => rfl) hs (hid (by rw [hc]; rfl)).1 (hid (by rw [hc]; rfl)).2 (cls_al hc) hp (hr.evs xs)) (Nat.le_refl _) ⟨hk, put_le hle (hs.none_get (hid (by rw [hc]; rfl)).2)⟩) (fun _ _ h => ⟨V, h⟩)
  · rename_i wo xs hc
    obtain ⟨fw, sl⟩ := fw
    cases fw with
    | none =>
      obtain ⟨x, H', hp, hk⟩ := h
      refine up (k1 := fun x H' => k x H' H') (by rw [show needC (cls P o.op) = true from by rw [hc]; rfl]; exact eff_wp hr hs (wr_sound hs (hid (by rw [hc]; rfl)) (cls_wr hc) hp (hr.evs xs)) (Nat.le_of_eq (wr_nx hp).symm) hk) (fun _ H' h => ⟨H', h, AH.le_refl _⟩)
    | some f =>
      obtain ⟨tg, sr⟩ := f
      obtain ⟨x, H', hp, hk⟩ := h
      obtain ⟨hp', hle'⟩ := wrF_wr hle (hs.none_get (hid (by rw [hc]; rfl)).2) hp
      refine up (k1 := fun x H' => k x V H' ∧ V.le H') (by rw [show needC (cls P o.op) = true from by rw [hc]; rfl]; exact eff_wp hr hs (wr_sound hs (hid (by rw [hc]; rfl)) (cls_wr hc) hp' (hr.evs xs)) (Nat.le_of_eq (wr_nx hp').symm) ⟨hk, hle'⟩) (fun _ _ h => ⟨V, h⟩)
  · rename_i fo xs hc
    obtain ⟨c, ho, hcc, rfl⟩ := cls_ca hc
    obtain ⟨fw, sl⟩ := fw
    have h : ∃ f first cap a, ev0 env fo = .fn (.func f) first cap ∧ callable P f = true ∧ Tri P f (first ++ c.args.toList.map (ev0 env) ++ cap) H (fun r H' => H' = H ∧ r = a) ∧ k a V H := by
      cases sl with
      | nil => obtain ⟨g, first, cap, x, hf, hcal, ht, hk⟩ := h; exact ⟨g, first, cap, x, hf, hcal, ht H hle, hk⟩
      | cons j r => obtain ⟨g, first, cap, x, hf, hcal, ht, hk⟩ := h; exact ⟨g, first, cap, x, hf, hcal, ht H (mixV_le hle _), hk⟩
    obtain ⟨g, first, cap, x, hf, hcal, ht, hk⟩ := h
    exact up (k1 := fun x H' => k x V H' ∧ V.le H') (ca_wp hr hs ho hcc hf hcal ht (fun r H' _ ⟨h1, h2⟩ => by subst h1; subst h2; exact ⟨hk, hle⟩)) (fun _ _ h => ⟨V, h⟩)
  · exact h.elim
theorem gv_yield {a : Act} {env : Env} {j : Nat} {c : Option Bool} (hr : RepE n a w S σ env) (h : gv n ops env j = gb c) : yielded ops a.tmps j = c := by
  unfold gv at h
  cases hd : (ops[j]?).bind (·.dst) with
  | none => rw [hd] at h; cases c <;> cases h
  | some d =>
    rw [hd] at h
    simp only at h
    cases hb : Nat.blt d n with
    | false => rw [hb] at h; cases c <;> cases h
    | true =>
      rw [hb, cond_true] at h
      have hlt : d < n := by rw [Nat.blt_eq] at hb; exact hb
      have := hr.at_ d
      rw [h] at this
      rw [Array.getD_eq_getD_getElem?, Array.getElem?_eq_getElem (by rw [hr.size]; exact hlt), Option.getD_some] at this
      unfold yielded
      rw [hd]
      simp only [Option.bind_some]
      rw [Array.getElem?_eq_getElem (by rw [hr.size]; exact hlt)]
      cases c with
      | some c => rw [this.p_inv.1]
      | none =>
        obtain ⟨vs, hv, _⟩ := this.tup_inv
        rw [hv]
theorem skip_rp : Rp w S σ (.tup []) undef := .tup [] #[] rfl (by simp)
/-- the operations of a region, one behind the other -/
theorem seqA_sound {nd : Bool} {B0 : Nat} {Q : Exit → Act → World → Prop} : ∀ (l : List Oper) (i : Nat) (env : Env) (k : Env → AH → Prop) (a : Act) (w : World) (S : Nat → Prop) (σ : Nat → Option Value) (H : AH), RepE n a w S σ env → Sat P w S σ H →
    (∀ o ∈ l, needC (cls P o.op) = true → nd = true) → (nd = true → ∀ j, i ≤ j → j < i + l.length → b + j < H.nx ∧ σ (b + j) = none) → B0 ≤ H.nx → (nd = true → B0 ≤ b) → (∀ a' w' S' σ' env' H', k env' H' → RepE n a' w' S' σ' env' → Sat P w' S' σ' H' → Ext w S σ H w' S' σ' H' → H.nx ≤ H'.nx → (∀ j, j < B0 → σ' j = σ j) → Q .normal a' w') →
    seqA P n b ops l i env k H → wpList P ops Q l a w
  | [], i, env, k, a, w, S, σ, H, hr, hs, _, _, _, _, hQ, h => hQ a w S σ env H h hr hs (.refl _ _ _ _) (Nat.le_refl _) (fun _ _ => rfl)
  | o :: rest, i, env, k, a, w, S, σ, H, hr, hs, hnd, hres, hB, hBb, hQ, h => by
    have hid : needC (cls P o.op) = true → b + i < H.nx ∧ σ (b + i) = none := fun h => hres (hnd o (by simp) h) i (Nat.le_refl _) (by simp)
    have next : ∀ (a' : Act) (w' : World), Aft P (needC (cls P o.op)) n (b + i) w S σ H o.dst env (fun x => seqA P n b ops rest (i + 1) (setE n env o.dst x) k) a' w' → wpList P ops Q rest a' w' := by
      rintro a' w' ⟨x, H', S', σ', h1, h2, h3, h4, h5, h6⟩
      refine seqA_sound rest (i + 1) _ k a' w' S' σ' H' h2 h3 (fun o ho => hnd o (by simp [ho])) (fun hn j hj1 hj2 => ?_) (by omega) hBb (fun a2 w2 S2 σ2 env2 H2 q1 q2 q3 q4 q5 q6 => hQ a2 w2 S2 σ2 env2 H2 q1 q2 q3 (h4.trans q4) (Nat.le_trans h5 q5) (fun j hj => (q6 j hj).trans (h6 j (fun hn => by have := hBb (hnd o (by simp) hn); omega) (by omega)))) h1
      obtain ⟨g1, g2⟩ := hres hn j (by omega) (by simp; omega)
      exact ⟨by omega, by rw [h6 _ (fun _ => by omega) g1]; exact g2⟩
    simp only [seqA] at h
    unfold wpList
    cases hg : o.guard with
    | none =>
      rw [hg] at h
      rw [if_pos (by simp [Region.wanted, hg])]
      exact .inl (Oper.wp_mono next (coreS_wp hr hs hid h))
    | some g =>
      obtain ⟨j, want⟩ := g
      rw [hg] at h
      obtain ⟨c, hc, h1, h2⟩ := h
      have hy := gv_yield hr hc
      by_cases hcw : c = some want
      · rw [if_pos (by simp [Region.wanted, hg, hy, hcw])]
        exact .inl (Oper.wp_mono next (coreS_wp hr hs hid (h1 hcw)))
      · rw [if_neg (by simp [Region.wanted, hg, hy, hcw])]
        exact next _ _ ⟨.tup [], H, S, σ, h2 hcw, hr.put _ skip_rp, hs, .refl _ _ _ _, Nat.le_refl _, fun _ _ _ => rfl⟩
end
end Go.Proofs.Ytcmnjoepadjioaa

/- A region that draws its order: one walk in the text's order serves every order. Nothing of the program is named here. -/
namespace Go.Proofs.Ytcmnjoepadjioaa
open Go.RowKit Go.Maps

def clsXs : Cls → List Operand
  | .mv x => [x]
  | .pu _ xs | .rd _ xs | .al _ xs | .wr _ xs => xs
  | .ca f xs => f :: xs
  | .bad => []
def catOf (P : Program) (ops : Array Oper) (o : Op) : Nat :=
  match cls P o with
  | .mv _ | .pu .. => 0
  | .rd .. | .al .. | .ca .. => 1
  | .wr .. => bif (freshW P ops o).isSome then 1 else 2
  | .bad => 2
/-- which of the things that the region lays are touched -/
def touch (P : Program) (ops : Array Oper) (o : Op) (i : Nat) : List Nat :=
  match cls P o with
  | .al .. => [i]
  | .wr .. => match freshW P ops o with
    | some (tg, sr) => i :: (tg.toList ++ sr.toList)
    | none => []
  | .rd .. | .ca .. => srcsOf P ops o
  | _ => []
def disj (a b : List Nat) : Bool := a.all fun x => !b.contains x
def tmpsIn : List Operand → List Tmp
  | [] => []
  | .tmp t :: r => t :: tmpsIn r
  | _ :: r => tmpsIn r
def looks (P : Program) (ops : Array Oper) (o : Oper) : List Tmp :=
  tmpsIn (clsXs (cls P o.op)) ++ (match o.guard with
    | some (g, _) => ((ops[g]?).bind (·.dst)).toList
    | none => [])
def indep (P : Program) (ops : Array Oper) (x y : Oper) (i j : Nat) : Bool :=
  (match x.dst with
   | some d => !(looks P ops y).contains d && y.dst != some d
   | none => true) &&
  (match y.dst with
   | some d => !(looks P ops x).contains d
   | none => true) &&
  (catOf P ops x.op == 0 || catOf P ops y.op == 0 || (catOf P ops x.op == 1 && catOf P ops y.op == 1 && disj (touch P ops x.op i) (touch P ops y.op j)))
/-- what an operation gives -/
def CS (P : Program) (b : Nat) (fw : Option (Option Nat × Option Nat) × List Nat) (V : AH) (id : Nat) (o : Op) (env : Env) (H : AH) (x : AV) (V' H' : AH) : Prop :=
  match cls P o with
  | .mv y => x = ev0 env y ∧ V' = V ∧ H' = H
  | .pu po xs => PuR P po (xs.map (ev0 env)) x ∧ V' = V ∧ H' = H
  | .rd ro xs => RdR P (mixV V H (fw.2.map (b + ·))) ro (xs.map (ev0 env)) x ∧ V' = V ∧ H' = H
  | .al ao xs => ∃ o', AlR id ao (xs.map (ev0 env)) o' x ∧ V' = V ∧ H' = H.put id o'
  | .wr wo xs => match fw.1 with
    | some (tg, sr) => WrFR V (plusB b tg) (plusB b sr) id wo (xs.map (ev0 env)) H x H' ∧ V' = V
    | none => WrR P id wo (xs.map (ev0 env)) H x H' ∧ V' = H'
  | .ca f xs => (∃ g first cap, ev0 env f = .fn (.func g) first cap ∧ callable P g = true ∧ (∀ H2, (mixV V H (fw.2.map (b + ·))).le H2 → Tri P g (first ++ xs.map (ev0 env) ++ cap) H2 (fun r H' => H' = H2 ∧ r = x))) ∧ V' = V ∧ H' = H
  | .bad => False
def GS (P : Program) (n b : Nat) (ops : Array Oper) (o : Oper) (i : Nat) (env : Env) (V H : AH) (x : AV) (V' H' : AH) : Prop :=
  match o.guard with
  | none => CS P b (freshW P ops o.op, srcsOf P ops o.op) V (b + i) o.op env H x V' H'
  | some (j, want) => ∃ c, gv n ops env j = gb c ∧ (c = some want → CS P b (freshW P ops o.op, srcsOf P ops o.op) V (b + i) o.op env H x V' H') ∧ (c ≠ some want → x = .tup [] ∧ V' = V ∧ H' = H)

section
variable {P : Program} {w : World} {S : Nat → Prop} {σ : Nat → Option Value} {H V : AH} {n b : Nat} {ops : Array Oper}
theorem coreV_iff {fw : Option (Option Nat × Option Nat) × List Nat} {id : Nat} {o : Op} {env : Env} {k : AV → AH → AH → Prop} : coreV P b fw V id o env k H ↔ ∃ x V' H', CS P b fw V id o env H x V' H' ∧ k x V' H' := by
  unfold coreV CS
  cases cls P o with
  | mv y => constructor; · exact fun h => ⟨_, V, H, ⟨rfl, rfl, rfl⟩, h⟩
            · rintro ⟨x, V', H', ⟨rfl, rfl, rfl⟩, h⟩; exact h
  | pu po xs => constructor; · rintro ⟨a, h1, h2⟩; exact ⟨a, V, H, ⟨h1, rfl, rfl⟩, h2⟩
                · rintro ⟨x, V', H', ⟨h, rfl, rfl⟩, h2⟩; exact ⟨x, h, h2⟩
  | rd ro xs =>
    obtain ⟨fw, sl⟩ := fw
    cases sl with
    | nil => constructor; · rintro ⟨a, h1, h2⟩; exact ⟨a, V, H, ⟨h1, rfl, rfl⟩, h2⟩
             · rintro ⟨x, V', H', ⟨h, rfl, rfl⟩, h2⟩; exact ⟨x, h, h2⟩
    | cons j r => constructor; · rintro ⟨a, h1, h2⟩; exact ⟨a, V, H, ⟨h1, rfl, rfl⟩, h2⟩
                  · rintro ⟨x, V', H', ⟨h, rfl, rfl⟩, h2⟩; exact ⟨x, h, h2⟩
  | al ao xs => constructor; · rintro ⟨a, o', h1, h2⟩; exact ⟨a, V, _, ⟨o', h1, rfl, rfl⟩, h2⟩
                · rintro ⟨x, V', H', ⟨o', h, rfl, rfl⟩, h2⟩; exact ⟨x, o', h, h2⟩
  | wr wo xs =>
    obtain ⟨fw, sl⟩ := fw
    cases fw with
    | none => constructor; · rintro ⟨a, H', h1, h2⟩; exact ⟨a, H', H', ⟨h1, rfl⟩, h2⟩
              · rintro ⟨x, V', H', ⟨h, rfl⟩, h2⟩; exact ⟨x, _, h, h2⟩
    | some f => obtain ⟨tg, sr⟩ := f; constructor; · rintro ⟨a, H', h1, h2⟩; exact ⟨a, V, H', ⟨h1, rfl⟩, h2⟩
                · rintro ⟨x, V', H', ⟨h, rfl⟩, h2⟩; exact ⟨x, _, h, h2⟩
  | ca f xs =>
    obtain ⟨fw, sl⟩ := fw
    cases sl with
    | nil => constructor; · rintro ⟨g, first, cap, a, h1, h2, h3, h4⟩; exact ⟨a, V, H, ⟨⟨g, first, cap, h1, h2, h3⟩, rfl, rfl⟩, h4⟩
             · rintro ⟨x, V', H', ⟨⟨g, first, cap, h1, h2, h3⟩, rfl, rfl⟩, h4⟩; exact ⟨g, first, cap, x, h1, h2, h3, h4⟩
    | cons j r => constructor; · rintro ⟨g, first, cap, a, h1, h2, h3, h4⟩; exact ⟨a, V, H, ⟨⟨g, first, cap, h1, h2, h3⟩, rfl, rfl⟩, h4⟩
                  · rintro ⟨x, V', H', ⟨⟨g, first, cap, h1, h2, h3⟩, rfl, rfl⟩, h4⟩; exact ⟨g, first, cap, x, h1, h2, h3, h4⟩
  | bad => constructor; · exact fun h => h.elim
           · rintro ⟨_, _, _, h, _⟩; exact h.elim
theorem stepV_iff {o : Oper} {i : Nat} {env : Env} {k : Env → AH → AH → Prop} : stepV P n b ops o i env V k H ↔ ∃ x V' H', GS P n b ops o i env V H x V' H' ∧ k (setE n env o.dst x) V' H' := by
  unfold stepV GS
  cases o.guard with
  | none => exact coreV_iff
  | some g =>
    obtain ⟨j, want⟩ := g
    constructor
    · rintro ⟨c, hc, h1, h2⟩
      by_cases hcw : c = some want
      · obtain ⟨x, V', H', h3, h4⟩ := coreV_iff.1 (h1 hcw)
        exact ⟨x, V', H', ⟨c, hc, fun _ => h3, fun h => absurd hcw h⟩, h4⟩
      · exact ⟨.tup [], V, H, ⟨c, hc, fun h => absurd h hcw, fun _ => ⟨rfl, rfl, rfl⟩⟩, h2 hcw⟩
    · rintro ⟨x, V', H', ⟨c, hc, h1, h2⟩, h4⟩
      refine ⟨c, hc, fun h => coreV_iff.2 ⟨x, V', H', h1 h, h4⟩, fun h => ?_⟩
      obtain ⟨rfl, rfl, rfl⟩ := h2 h
      exact h4
theorem stepV_mono {o : Oper} {i : Nat} {env : Env} {k k' : Env → AH → AH → Prop} (h : stepV P n b ops o i env V k H) (hk : ∀ e V H, k e V H → k' e V H) : stepV P n b ops o i env V k' H := by
  rw [stepV_iff] at h ⊢
  obtain ⟨x, V', H', h1, h2⟩ := h
  exact ⟨x, V', H', h1, hk _ _ _ h2⟩
theorem mem_tmps {t : Tmp} : ∀ {xs : List Operand}, Operand.tmp t ∈ xs → t ∈ tmpsIn xs
  | [], h => by cases h
  | x :: xs, h => by
    rcases List.mem_cons.1 h with h | h
    · subst h; simp [tmpsIn]
    · have := mem_tmps h
      cases x <;> simp [tmpsIn, this]
theorem ev_set {env : Env} {dst : Option Tmp} {a : AV} {x : Operand} (h : ∀ d, dst = some d → x ≠ .tmp d) : ev0 (setE n env dst a) x = ev0 env x := by
  cases x with
  | tmp t =>
    cases dst with
    | none => rfl
    | some d =>
      have hne : t ≠ d := fun e => h d rfl (by rw [e])
      simp only [ev0, setE]
      cases Nat.blt d n
      · rfl
      · simp only [cond_true]
        rw [show Nat.beq t d = false from by rw [Bool.eq_false_iff]; exact fun e => hne (Nat.eq_of_beq_eq_true e)]
        rfl
  | const v => rfl
  | global g => rfl
  | func f => rfl
theorem evs_set {env : Env} {dst : Option Tmp} {a : AV} {xs : List Operand} (h : ∀ d, dst = some d → d ∉ tmpsIn xs) : xs.map (ev0 (setE n env dst a)) = xs.map (ev0 env) :=
  List.map_congr_left fun x hx => ev_set fun d hd e => h d hd (mem_tmps (e ▸ hx))
theorem CS_congr {fw : Option (Option Nat × Option Nat) × List Nat} {id : Nat} {o : Op} {env : Env} {dst : Option Tmp} {a : AV} {x : AV} {V' H' : AH} (h : ∀ d, dst = some d → d ∉ tmpsIn (clsXs (cls P o))) : CS P b fw V id o (setE n env dst a) H x V' H' ↔ CS P b fw V id o env H x V' H' := by
  unfold CS
  cases hc : cls P o with
  | mv y => rw [hc] at h; have := evs_set (n := n) (env := env) (a := a) h; simp only [clsXs, List.map_cons, List.map_nil, List.cons.injEq, and_true] at this; dsimp only; rw [this]
  | pu po xs => rw [hc] at h; dsimp only; rw [evs_set (xs := xs) h]
  | rd ro xs => rw [hc] at h; dsimp only; rw [evs_set (xs := xs) h]
  | al ao xs => rw [hc] at h; dsimp only; rw [evs_set (xs := xs) h]
  | wr wo xs => rw [hc] at h; dsimp only; rw [evs_set (xs := xs) h]
  | ca f xs => rw [hc] at h; have := evs_set (n := n) (env := env) (a := a) h; simp only [clsXs, List.map_cons, List.cons.injEq] at this; dsimp only; rw [this.1, this.2]
  | bad => exact Iff.rfl
theorem gv_set {env : Env} {dst : Option Tmp} {a : AV} {j : Nat} (h : ∀ d, dst = some d → d ∉ ((ops[j]?).bind (·.dst)).toList) : gv n ops (setE n env dst a) j = gv n ops env j := by
  unfold gv
  cases hd : (ops[j]?).bind (·.dst) with
  | none => rfl
  | some e =>
    rw [hd] at h
    simp only
    have := ev_set (n := n) (env := env) (a := a) (dst := dst) (x := .tmp e) (fun d hd he => h d hd (by injection he with he; subst he; simp))
    simp only [ev0] at this
    rw [this]
theorem GS_congr {o : Oper} {i : Nat} {env : Env} {dst : Option Tmp} {a : AV} {x : AV} {V' H' : AH} (h : ∀ d, dst = some d → d ∉ looks P ops o) : GS P n b ops o i (setE n env dst a) V H x V' H' ↔ GS P n b ops o i env V H x V' H' := by
  have h1 : ∀ d, dst = some d → d ∉ tmpsIn (clsXs (cls P o.op)) := fun d hd hm => h d hd (List.mem_append_left _ hm)
  unfold GS
  cases hg : o.guard with
  | none => exact CS_congr h1
  | some g =>
    obtain ⟨j, want⟩ := g
    have h2 : gv n ops (setE n env dst a) j = gv n ops env j := gv_set fun d hd hm => h d hd (List.mem_append_right _ (by rw [hg]; exact hm))
    simp only [h2, CS_congr h1]
theorem CS_zero {fw : Option (Option Nat × Option Nat) × List Nat} {id : Nat} {o : Op} {env : Env} {x : AV} {V' H' : AH} (hc : catOf P ops o = 0) (h : CS P b fw V id o env H x V' H') : V' = V ∧ H' = H ∧ ∀ V2 H2, CS P b fw V2 id o env H2 x V2 H2 := by
  unfold CS at h ⊢
  unfold catOf at hc
  cases hcl : cls P o with
  | mv y => rw [hcl] at h; exact ⟨h.2.1, h.2.2, fun _ _ => ⟨h.1, rfl, rfl⟩⟩
  | pu po xs => rw [hcl] at h; exact ⟨h.2.1, h.2.2, fun _ _ => ⟨h.1, rfl, rfl⟩⟩
  | rd ro xs => rw [hcl] at hc; cases hc
  | al ao xs => rw [hcl] at hc; cases hc
  | wr wo xs => rw [hcl] at hc; dsimp only at hc; cases hf : (freshW P ops o).isSome <;> rw [hf] at hc <;> cases hc
  | ca f xs => rw [hcl] at hc; cases hc
  | bad => rw [hcl] at hc; cases hc
/-- changes to some things -/
def apE : List (Nat × AO) → AH → AH
  | [], H => H
  | (i, o) :: r, H => apE r (H.put i o)
theorem apE_get {j : Nat} : ∀ (e : List (Nat × AO)) (H : AH), (∀ p ∈ e, p.1 ≠ j) → (apE e H).get j = H.get j
  | [], H, _ => rfl
  | (i, o) :: r, H, h => by
    have hi : i ≠ j := h (i, o) (by simp)
    rw [apE, apE_get r _ fun p hp => h p (by simp [hp]), AH.get_put_ne (fun e => hi e.symm)]
theorem apE_one {i : Nat} {o' : AO} : ∀ (e : List (Nat × AO)) (H : AH), (∀ p ∈ e, p.1 ≠ i) → apE e (H.put i o') = (apE e H).put i o'
  | [], H, _ => rfl
  | (j, o) :: r, H, h => by
    have hi : j ≠ i := h (j, o) (by simp)
    simp only [apE]
    rw [← apE_one r (H.put j o) fun p hp => h p (by simp [hp])]
    congr 1
    simp only [AH.put, lput_comm hi]
theorem apE_comm : ∀ (e f : List (Nat × AO)) (H : AH), (∀ p ∈ e, ∀ q ∈ f, p.1 ≠ q.1) → apE f (apE e H) = apE e (apE f H)
  | [], f, H, _ => rfl
  | (i, o) :: e, f, H, h => by
    simp only [apE]
    rw [apE_comm e f _ fun a ha q hq => h a (by simp [ha]) q hq]
    congr 1
    exact apE_one f H fun q hq e => h (i, o) (by simp) q hq e.symm
theorem ElF.local {src : Option Nat} {sz : Nat} {x : AV} {ys : List (List AV)} {H2 : AH} (h : ElF V H src sz x ys) (hg : ∀ i, src = some i → H2.get i = H.get i) : ElF V H2 src sz x ys := by
  cases h with
  | old x ys h => exact .old x ys h
  | new i off n t es hs hi hn => exact .new i off n t es hs (by rw [hg i hs]; exact hi) hn
/-- what it does hangs on what it touches alone -/
theorem wrF_local {tgt src : Option Nat} {id : Nat} {wo : WO} {args : List AV} {a : AV} {H' : AH} (h : WrFR V tgt src id wo args H a H') : ∃ e : List (Nat × AO), (∀ p ∈ e, p.1 = id ∨ tgt = some p.1) ∧ H' = apE e H ∧
    ∀ H2 : AH, (∀ i, i = id ∨ tgt = some i ∨ src = some i → H2.get i = H.get i) → WrFR V tgt src id wo args H2 a (apE e H2) := by
  cases h with
  | st n i off t cs a _ h1 h2 h3 h4 h5 h6 => exact ⟨[(i, .box t (cs.take off ++ a.cells ++ cs.drop (off + n)))], by simp [h1], rfl, fun H2 hg => .st n i off t cs a H2 h1 h2 (by rw [hg i (.inr (.inl h1))]; exact h3) h4 h5 h6⟩
  | app_row t sz bytes r off n es ys x _ h1 h2 h3 h4 h5 h6 h7 => exact ⟨[(r, .dead), (id, .row t sz ((es.drop off).take n ++ ys))], by simp [h1], rfl, fun H2 hg => .app_row t sz bytes r off n es ys x H2 h1 h2 (by rw [hg r (.inr (.inl h1))]; exact h3) h4 (h5.local fun i hi => hg i (.inr (.inr hi))) h6 h7⟩
  | app_nil t sz bytes ys x _ h1 h2 h3 h4 => exact ⟨[(id, .row t sz ys)], by simp, rfl, fun H2 hg => .app_nil t sz bytes ys x H2 h1 (h2.local fun i hi => hg i (.inr (.inr hi))) h3 h4⟩
theorem plusB_mem {t : Option Nat} {i : Nat} (h : plusB b t = some i) : ∃ j, t = some j ∧ i = b + j := by
  cases t with
  | none => cases h
  | some j => injection h with h; exact ⟨j, rfl, h.symm⟩
theorem CS_one {i : Nat} {o : Op} {env : Env} {x : AV} {V' H' : AH} (hc : catOf P ops o = 1) (h : CS P b (freshW P ops o, srcsOf P ops o) V (b + i) o env H x V' H') : V' = V ∧ ∃ e : List (Nat × AO), (∀ p ∈ e, ∃ k ∈ touch P ops o i, p.1 = b + k) ∧ H' = apE e H ∧
    ∀ H2 : AH, (∀ k ∈ touch P ops o i, H2.get (b + k) = H.get (b + k)) → CS P b (freshW P ops o, srcsOf P ops o) V (b + i) o env H2 x V (apE e H2) := by
  unfold CS at h ⊢
  unfold catOf at hc
  unfold touch
  cases hcl : cls P o with
  | mv y => rw [hcl] at hc; cases hc
  | pu po xs => rw [hcl] at hc; cases hc
  | rd ro xs =>
    rw [hcl] at h
    refine ⟨h.2.1, [], by simp, h.2.2, fun H2 hg => ⟨?_, rfl, rfl⟩⟩
    dsimp only at hg ⊢
    rw [mixV_congr (H := H) (H2 := H2) _ fun k hk => by obtain ⟨j, hj, rfl⟩ := List.mem_map.1 hk; exact hg j hj]; exact h.1
  | al ao xs => rw [hcl] at h; obtain ⟨o', h1, h2, h3⟩ := h; exact ⟨h2, [(b + i, o')], by simp, h3, fun _ _ => ⟨o', h1, rfl, rfl⟩⟩
  | wr wo xs =>
    rw [hcl] at h hc
    dsimp only at h hc ⊢
    cases hf : freshW P ops o with
    | none => rw [hf] at hc; cases hc
    | some f =>
      obtain ⟨tg, sr⟩ := f
      rw [hf] at h
      obtain ⟨h1, h2⟩ := h
      obtain ⟨e, q1, q2, q3⟩ := wrF_local h1
      refine ⟨h2, e, fun p hp => ?_, q2, fun H2 hg => ⟨q3 H2 fun k hk => ?_, rfl⟩⟩
      · rcases q1 p hp with h | h
        · exact ⟨i, by simp, h⟩
        · obtain ⟨j, hj, h⟩ := plusB_mem h; exact ⟨j, by simp [hj], h⟩
      · rcases hk with rfl | hk | hk
        · exact hg i (by simp)
        · obtain ⟨j, rfl, rfl⟩ := plusB_mem hk; exact hg j (by simp)
        · obtain ⟨j, rfl, rfl⟩ := plusB_mem hk; exact hg j (by simp)
  | ca f xs =>
    rw [hcl] at h
    refine ⟨h.2.1, [], by simp, h.2.2, fun H2 hg => ⟨?_, rfl, rfl⟩⟩
    dsimp only at hg ⊢
    rw [mixV_congr (H := H) (H2 := H2) _ fun k hk => by obtain ⟨j, hj, rfl⟩ := List.mem_map.1 hk; exact hg j hj]; exact h.1
  | bad => rw [hcl] at hc; cases hc
theorem GS_zero {o : Oper} {i : Nat} {env : Env} {x : AV} {V' H' : AH} (hc : catOf P ops o.op = 0) (h : GS P n b ops o i env V H x V' H') : V' = V ∧ H' = H ∧ ∀ V2 H2, GS P n b ops o i env V2 H2 x V2 H2 := by
  unfold GS at h ⊢
  cases hg : o.guard with
  | none => rw [hg] at h; exact CS_zero hc h
  | some g =>
    rw [hg] at h
    obtain ⟨c, h0, h1, h2⟩ := h
    by_cases hw : c = some g.2
    · obtain ⟨q1, q2, q3⟩ := CS_zero hc (h1 hw)
      exact ⟨q1, q2, fun V2 H2 => ⟨c, h0, fun _ => q3 V2 H2, fun h => absurd hw h⟩⟩
    · obtain ⟨q1, q2, q3⟩ := h2 hw
      exact ⟨q2, q3, fun V2 H2 => ⟨c, h0, fun h => absurd h hw, fun _ => ⟨q1, rfl, rfl⟩⟩⟩
theorem GS_one {o : Oper} {i : Nat} {env : Env} {x : AV} {V' H' : AH} (hc : catOf P ops o.op = 1) (h : GS P n b ops o i env V H x V' H') : V' = V ∧ ∃ e : List (Nat × AO), (∀ p ∈ e, ∃ k ∈ touch P ops o.op i, p.1 = b + k) ∧ H' = apE e H ∧
    ∀ H2 : AH, (∀ k ∈ touch P ops o.op i, H2.get (b + k) = H.get (b + k)) → GS P n b ops o i env V H2 x V (apE e H2) := by
  unfold GS at h ⊢
  cases hg : o.guard with
  | none => rw [hg] at h; exact CS_one hc h
  | some g =>
    rw [hg] at h
    obtain ⟨c, h0, h1, h2⟩ := h
    by_cases hw : c = some g.2
    · obtain ⟨q1, e, q2, q3, q4⟩ := CS_one hc (h1 hw)
      exact ⟨q1, e, q2, q3, fun H2 hg => ⟨c, h0, fun _ => q4 H2 hg, fun h => absurd hw h⟩⟩
    · obtain ⟨q1, q2, q3⟩ := h2 hw
      exact ⟨q2, [], by simp, q3, fun H2 _ => ⟨c, h0, fun h => absurd h hw, fun _ => ⟨q1, rfl, rfl⟩⟩⟩
theorem setE_comm {env : Env} {d e : Option Tmp} {x y : AV} (h : ∀ t, d = some t → e ≠ some t) : setE n (setE n env d x) e y = setE n (setE n env e y) d x := by
  cases d with
  | none => rfl
  | some d =>
    cases e with
    | none => rfl
    | some e =>
      have hne : d ≠ e := fun q => h d rfl (by rw [q])
      simp only [setE]
      cases Nat.blt d n <;> cases Nat.blt e n <;> simp only [cond_true, cond_false]
      funext t
      by_cases h1 : t = d
      · subst h1
        rw [show Nat.beq t t = true from Nat.beq_refl t, show Nat.beq t e = false from by rw [Bool.eq_false_iff]; exact fun q => hne (Nat.eq_of_beq_eq_true q)]
        rfl
      · rw [show Nat.beq t d = false from by rw [Bool.eq_false_iff]; exact fun q => h1 (Nat.eq_of_beq_eq_true q)]
        rfl
theorem indep_spec {x y : Oper} {i j : Nat} (h : indep P ops x y i j = true) : (∀ d, x.dst = some d → d ∉ looks P ops y) ∧ (∀ d, x.dst = some d → y.dst ≠ some d) ∧ (∀ d, y.dst = some d → d ∉ looks P ops x) ∧
    (catOf P ops x.op = 0 ∨ catOf P ops y.op = 0 ∨ (catOf P ops x.op = 1 ∧ catOf P ops y.op = 1 ∧ ∀ k ∈ touch P ops x.op i, k ∉ touch P ops y.op j)) := by
  unfold indep at h
  simp only [Bool.and_eq_true, Bool.or_eq_true, beq_iff_eq] at h
  obtain ⟨⟨h1, h2⟩, h3⟩ := h
  refine ⟨fun d hd => ?_, fun d hd => ?_, fun d hd => ?_, h3.elim (fun h3 => h3.elim .inl (fun h => .inr (.inl h))) (fun h => .inr (.inr ⟨h.1.1, h.1.2, fun k hk hk' => by
    have := List.all_eq_true.1 h.2 k hk
    simp at this
    exact this hk'⟩))⟩
  · rw [hd] at h1; simp at h1; exact h1.1
  · rw [hd] at h1; simp at h1; exact h1.2
  · rw [hd] at h2; simp at h2; exact h2
/-- two operations change places -/
theorem stepV_swap {x y : Oper} {i j : Nat} {env : Env} {k : Env → AH → AH → Prop} (hi : indep P ops x y i j = true)
    (h : stepV P n b ops x i env V (fun env' V' H' => stepV P n b ops y j env' V' k H') H) : stepV P n b ops y j env V (fun env' V' H' => stepV P n b ops x i env' V' k H') H := by
  obtain ⟨a1, a2, a3, a4⟩ := indep_spec hi
  rw [stepV_iff] at h ⊢
  obtain ⟨u, V1, H1, g1, h⟩ := h
  rw [stepV_iff] at h
  obtain ⟨v, V2, H2, g2, h⟩ := h
  rw [GS_congr a1] at g2
  rw [setE_comm a2] at h
  have fin : ∀ V1' H1', GS P n b ops y j env V H v V1' H1' → GS P n b ops x i env V1' H1' u V2 H2 → ∃ x_1 V' H', GS P n b ops y j env V H x_1 V' H' ∧ stepV P n b ops x i (setE n env y.dst x_1) V' k H' := fun V1' H1' q1 q2 =>
    ⟨v, V1', H1', q1, stepV_iff.2 ⟨u, V2, H2, (GS_congr a3).2 q2, h⟩⟩
  rcases a4 with a4 | a4 | ⟨a4, a5, a6⟩
  · obtain ⟨rfl, rfl, q⟩ := GS_zero a4 g1
    exact fin V2 H2 g2 (q V2 H2)
  · obtain ⟨rfl, rfl, q⟩ := GS_zero a4 g2
    exact fin V H (q V H) g1
  · obtain ⟨rfl, e, e1, rfl, q1⟩ := GS_one a4 g1
    obtain ⟨rfl, f, f1, rfl, q2⟩ := GS_one a5 g2
    have hef : ∀ p ∈ e, ∀ q ∈ f, p.1 ≠ q.1 := fun p hp q hq h => by
      obtain ⟨k, hk, h1⟩ := e1 p hp
      obtain ⟨l, hl, h2⟩ := f1 q hq
      have : k = l := by omega
      subst this
      exact a6 k hk hl
    refine fin _ (apE f H) (q2 H fun k hk => (apE_get e H fun p hp h => ?_).symm) ?_
    · obtain ⟨l, hl, h1⟩ := e1 p hp
      have : l = k := by omega
      subst this
      exact a6 l hl hk
    · rw [apE_comm e f H hef]
      exact q1 _ fun k hk => apE_get f H fun p hp h => by
        obtain ⟨l, hl, h1⟩ := f1 p hp
        have : l = k := by omega
        subst this
        exact a6 l hk hl
def opV (P : Program) (n b : Nat) (ops : Array Oper) (i : Nat) (env : Env) (V : AH) (k : Env → AH → AH → Prop) (H : AH) : Prop :=
  match ops[i]? with
  | some o => stepV P n b ops o i env V k H
  | none => k env V H
/-- in whatever order -/
def anyA (P : Program) (n b : Nat) (ops : Array Oper) (K : Env → AH → Prop) : Nat → Array Bool → Env → AH → AH → Prop
  | 0, listed, env, _, H => Region.ready .any ops listed = [] ∧ K env H
  | fuel + 1, listed, env, V, H => (Region.ready .any ops listed = [] → K env H) ∧ ∀ i ∈ Region.ready .any ops listed, opV P n b ops i env V (fun env' V' H' => anyA P n b ops K fuel (listed.setIfInBounds i true) env' V' H') H
theorem opV_mono {i : Nat} {env : Env} {k k' : Env → AH → AH → Prop} (h : opV P n b ops i env V k H) (hk : ∀ e V H, k e V H → k' e V H) : opV P n b ops i env V k' H := by
  unfold opV at h ⊢
  cases ho : ops[i]? with
  | none => rw [ho] at h; exact hk _ _ _ h
  | some o => rw [ho] at h; exact stepV_mono h hk
/-- which hang on which -/
def maskOk (ops : Array Oper) (M : Array Nat) : Bool :=
  (List.range ops.size).all fun j => match ops[j]? with
    | some o => o.after.all (fun e => !Region.binds .any e || Nat.blt e.on j) && (List.range ops.size).all fun i => !(M.getD j 0).testBit i || o.after.any (fun e => Region.binds .any e && (e.on == i || (M.getD e.on 0).testBit i))
    | none => true
def closedL (ops : Array Oper) (listed : Array Bool) : Prop := ∀ (j : Nat) (o : Oper), ops[j]? = some o → listed.getD j false = true → ∀ e ∈ o.after, Region.binds .any e = true → listed.getD e.on false = true
theorem mask_spec {M : Array Nat} (h : maskOk ops M = true) {j : Nat} {o : Oper} (ho : ops[j]? = some o) : (∀ e ∈ o.after, Region.binds .any e = true → e.on < j) ∧ ∀ i, i < ops.size → (M.getD j 0).testBit i = true → ∃ e ∈ o.after, Region.binds .any e = true ∧ (e.on = i ∨ (M.getD e.on 0).testBit i = true) := by
  unfold maskOk at h
  rw [List.all_eq_true] at h
  have hj := h j (List.mem_range.2 (Array.getElem?_eq_some_iff.1 ho).1)
  rw [ho] at hj
  simp only [Bool.and_eq_true] at hj
  obtain ⟨h1, h2⟩ := hj
  refine ⟨fun e he hb => ?_, fun i hi hm => ?_⟩
  · have := Array.all_eq_true_iff_forall_mem.1 h1 e he
    simp only [hb, Bool.not_true, Bool.false_or, Nat.blt_eq] at this
    exact this
  · rw [List.all_eq_true] at h2
    have := h2 i (List.mem_range.2 hi)
    simp only [hm, Bool.not_true, Bool.false_or] at this
    obtain ⟨e, he, hb⟩ := Array.any_eq_true'.1 this
    simp only [Bool.and_eq_true, Bool.or_eq_true, beq_iff_eq] at hb
    exact ⟨e, he, hb.1, hb.2⟩
theorem mask_listed {M : Array Nat} (h : maskOk ops M = true) {listed : Array Bool} (hc : closedL ops listed) {i : Nat} (hi : i < ops.size) : ∀ (j : Nat), listed.getD j false = true → (M.getD j 0).testBit i = true → (∃ o, ops[j]? = some o) → listed.getD i false = true := by
  intro j
  induction j using Nat.strongRecOn with
  | _ j ih =>
    rintro hj hm ⟨o, ho⟩
    obtain ⟨m1, m2⟩ := mask_spec h ho
    obtain ⟨e, he, hb, hor⟩ := m2 i hi hm
    have hl := hc j o ho hj e he hb
    rcases hor with hor | hor
    · rw [← hor]; exact hl
    · exact ih e.on (m1 e he hb) hl hor ⟨_, Array.getElem?_eq_getElem (Nat.lt_trans (m1 e he hb) (Array.getElem?_eq_some_iff.1 ho).1)⟩
theorem mask_ready {M : Array Nat} (h : maskOk ops M = true) {listed : Array Bool} (hc : closedL ops listed) {i j : Nat} (hi : i < ops.size) (hj : j ∈ Region.ready .any ops listed) (hm : (M.getD j 0).testBit i = true) : listed.getD i false = true := by
  obtain ⟨_, o, ho, hall⟩ := mem_ready.1 hj
  obtain ⟨m1, m2⟩ := mask_spec h ho
  obtain ⟨e, he, hb, hor⟩ := m2 i hi hm
  have hl := hall e he hb
  rcases hor with hor | hor
  · rw [← hor]; exact hl
  · exact mask_listed h hc hi e.on hl hor ⟨_, Array.getElem?_eq_getElem (Nat.lt_trans (m1 e he hb) (Array.getElem?_eq_some_iff.1 ho).1)⟩
theorem closed_set {listed : Array Bool} (hc : closedL ops listed) {j : Nat} (hj : j ∈ Region.ready .any ops listed) : closedL ops (listed.setIfInBounds j true) := by
  intro k o ho hk e he hb
  by_cases hkj : j = k
  · subst hkj
    obtain ⟨_, o', ho', hall⟩ := mem_ready.1 hj
    rw [ho] at ho'; injection ho' with ho'; subst ho'
    exact getD_set_true (hall e he hb)
  · rw [getD_set_ne false hkj] at hk
    exact getD_set_true (hc k o ho hk e he hb)
theorem getD_tf {listed : Array Bool} {i : Nat} (h : listed.getD i true = false) : listed.getD i false = false := by
  rcases Nat.lt_or_ge i listed.size with h' | h'
  · simp [h'] at h ⊢; exact h
  · simp [Array.getElem?_eq_none h'] at h
/-- one that may go first -/
theorem anyA_first {K : Env → AH → Prop} {M : Array Nat} (hM : maskOk ops M = true) {i : Nat} {oi : Oper} (hi : ops[i]? = some oi) : ∀ (fuel : Nat) (listed : Array Bool) (env : Env) (V H : AH), closedL ops listed →
    (∀ j oj, ops[j]? = some oj → j ≠ i → listed.getD j true = false → (M.getD j 0).testBit i = false → indep P ops oi oj i j = true) → i ∈ Region.ready .any ops listed →
    opV P n b ops i env V (fun env' V' H' => anyA P n b ops K fuel (listed.setIfInBounds i true) env' V' H') H → anyA P n b ops K (fuel + 1) listed env V H := by
  intro fuel
  induction fuel with
  | zero =>
    intro listed env V H hc hfree hr h
    refine ⟨fun h0 => (by rw [h0] at hr; cases hr), fun j hj => ?_⟩
    by_cases hji : j = i
    · subst hji; exact h
    · have hj' := ready_mono (i := i) hj hji
      simp only [opV, hi] at h
      rw [stepV_iff] at h
      obtain ⟨_, _, _, _, h⟩ := h
      rw [h.1] at hj'
      cases hj'
  | succ fuel ih =>
    intro listed env V H hc hfree hr h
    refine ⟨fun h0 => (by rw [h0] at hr; cases hr), fun j hj => ?_⟩
    by_cases hji : j = i
    · subst hji; exact h
    · obtain ⟨hjun, oj, hoj, hall⟩ := mem_ready.1 hj
      have hiun := (mem_ready.1 hr).1
      have hnm : (M.getD j 0).testBit i = false := by
        cases hm : (M.getD j 0).testBit i with
        | false => rfl
        | true =>
          have := mask_ready hM hc (Array.getElem?_eq_some_iff.1 hi).1 hj hm
          rw [getD_tf hiun] at this; cases this
      have hind := hfree j oj hoj hji hjun hnm
      have h1 : stepV P n b ops oi i env V (fun env' V' H' => stepV P n b ops oj j env' V' (fun env2 V2 H2 => anyA P n b ops K fuel ((listed.setIfInBounds i true).setIfInBounds j true) env2 V2 H2) H') H := by
        simp only [opV, hi] at h
        refine stepV_mono h fun e V H hh => ?_
        have := hh.2 j (ready_mono hj hji)
        simp only [opV, hoj] at this
        exact this
      have h2 := stepV_swap hind h1
      simp only [opV, hoj]
      refine stepV_mono h2 fun e V H h3 => ih (listed.setIfInBounds j true) e V H (closed_set hc hj) (fun k ok hk hki hun hno => ?_) (ready_mono hr (Ne.symm hji)) ?_
      · refine hfree k ok hk hki ?_ hno
        by_cases hjk : j = k
        · subst hjk; exact hjun
        · rw [getD_set_ne true hjk] at hun; exact hun
      · rw [Array.setIfInBounds_comm _ _ hji]
        simp only [opV, hi]
        exact h3
/-- all that need not wait for one another may change places -/
def freeOk (P : Program) (ops : Array Oper) (M : Array Nat) : Bool :=
  (List.range ops.size).all fun i => (List.range ops.size).all fun j => Nat.ble j i || (M.getD j 0).testBit i || match ops[i]?, ops[j]? with
    | some x, some y => indep P ops x y i j
    | _, _ => true
theorem free_spec {M : Array Nat} (h : freeOk P ops M = true) {i j : Nat} {x y : Oper} (hx : ops[i]? = some x) (hy : ops[j]? = some y) (hij : i < j) (hm : (M.getD j 0).testBit i = false) : indep P ops x y i j = true := by
  unfold freeOk at h
  rw [List.all_eq_true] at h
  have h1 := h i (List.mem_range.2 (Array.getElem?_eq_some_iff.1 hx).1)
  rw [List.all_eq_true] at h1
  have h2 := h1 j (List.mem_range.2 (Array.getElem?_eq_some_iff.1 hy).1)
  rw [hx, hy, hm] at h2
  simp only [Bool.or_false, Bool.or_eq_true, Nat.ble_eq] at h2
  rcases h2 with h2 | h2
  · omega
  · exact h2
/-- the first k are done -/
def firstK (m k : Nat) (listed : Array Bool) : Prop := listed.size = m ∧ ∀ j, listed.getD j true = false ↔ (k ≤ j ∧ j < m)
theorem firstK_zero (m : Nat) : firstK m 0 (Array.replicate m false) := by
  refine ⟨by simp, fun j => ?_⟩
  by_cases hj : j < m
  · simp [hj]
  · simp [Array.getElem?_eq_none, hj]
theorem firstK_succ {m k : Nat} {listed : Array Bool} (h : firstK m k listed) (hk : k < m) : firstK m (k + 1) (listed.setIfInBounds k true) := by
  obtain ⟨h1, h2⟩ := h
  refine ⟨by simp [h1], fun j => ?_⟩
  by_cases hj : k = j
  · subst hj
    have hks : k < listed.size := by rw [h1]; exact hk
    simp [hks]; omega
  · rw [getD_set_ne true hj, h2 j]; omega
theorem firstK_false {m k : Nat} {listed : Array Bool} (h : firstK m k listed) (j : Nat) : listed.getD j false = true ↔ j < m ∧ j < k := by
  obtain ⟨h1, h2⟩ := h
  by_cases hj : j < m
  · have hjs : j < listed.size := by rw [h1]; exact hj
    have h3 := h2 j
    simp only [Array.getD_eq_getD_getElem?, Array.getElem?_eq_getElem hjs, Option.getD_some] at h3 ⊢
    cases hb : listed[j] with
    | true => rw [hb] at h3; simp at h3; simp; omega
    | false => rw [hb] at h3; simp at h3; simp; omega
  · have hjs : listed.size ≤ j := by rw [h1]; omega
    simp only [Array.getD_eq_getD_getElem?, Array.getElem?_eq_none hjs, Option.getD_none]
    constructor
    · intro h; cases h
    · rintro ⟨h, _⟩; exact absurd h hj
theorem anyA_lex {K : Env → AH → Prop} {M : Array Nat} (hM : maskOk ops M = true) (hF : freeOk P ops M = true) : ∀ (l : List Oper) (i : Nat) (listed : Array Bool) (env : Env) (V H : AH), (∀ j, l[j]? = ops[i + j]?) → i + l.length = ops.size → firstK ops.size i listed →
    seqV P n b ops l i env K V H → anyA P n b ops K l.length listed env V H
  | [], i, listed, env, V, H, hl, hlen, hk, h => by
    refine ⟨?_, h⟩
    rw [List.eq_nil_iff_forall_not_mem]
    intro j hj
    obtain ⟨h1, o, ho, _⟩ := mem_ready.1 hj
    have := (hk.2 j).1 h1
    simp at hlen
    omega
  | o :: l, i, listed, env, V, H, hl, hlen, hk, h => by
    have h0 : ops[i]? = some o := by simpa using (hl 0).symm
    have hi : i < ops.size := (Array.getElem?_eq_some_iff.1 h0).1
    obtain ⟨m1, _⟩ := mask_spec hM h0
    have hready : i ∈ Region.ready .any ops listed := mem_ready.2 ⟨(hk.2 i).2 ⟨Nat.le_refl _, hi⟩, o, h0, fun e he hb => (firstK_false hk e.on).2 (by have := m1 e he hb; omega)⟩
    have hclosed : closedL ops listed := fun j oj hoj hj e he hb => by
      have hj' := (firstK_false hk j).1 hj
      have := (mask_spec hM hoj).1 e he hb
      exact (firstK_false hk e.on).2 (by omega)
    refine anyA_first hM h0 l.length listed env V H hclosed (fun j oj hoj hji hun hm => ?_) hready ?_
    · have := (hk.2 j).1 hun
      exact free_spec hF h0 hoj (by omega) hm
    · simp only [opV, h0]
      simp only [seqV] at h
      exact stepV_mono h fun e V' H' hh => anyA_lex hM hF l (i + 1) _ e V' H' (fun j => by have := hl (j + 1); simpa [Nat.add_assoc, Nat.add_comm 1 j] using this) (by simp at hlen; omega) (firstK_succ hk hi) hh
/-- what is told of every order holds of the model -/
theorem anyA_sound {nd : Bool} {B0 : Nat} (hnd : ∀ (j : Nat) (o : Oper), ops[j]? = some o → needC (cls P o.op) = true → nd = true) {Q : Exit → Act → World → Prop} {K : Env → AH → Prop} : ∀ (fuel : Nat) (listed : Array Bool) (env : Env) (V : AH) (a : Act) (w : World) (S : Nat → Prop) (σ : Nat → Option Value) (H : AH), RepE n a w S σ env → Sat P w S σ H → V.le H →
    (nd = true → ∀ j, listed.getD j true = false → b + j < H.nx ∧ σ (b + j) = none) → B0 ≤ H.nx → (nd = true → B0 ≤ b) → (∀ a' w' S' σ' env' H', K env' H' → RepE n a' w' S' σ' env' → Sat P w' S' σ' H' → Ext w S σ H w' S' σ' H' → H.nx ≤ H'.nx → (∀ j, j < B0 → σ' j = σ j) → Q .normal a' w') →
    anyA P n b ops K fuel listed env V H → wpAny P .any ops Q fuel listed a w := by
  intro fuel
  induction fuel with
  | zero => intro listed env V a w S σ H hr hs _ _ _ _ hQ h; exact ⟨h.1, hQ a w S σ env H h.2 hr hs (.refl _ _ _ _) (Nat.le_refl _) (fun _ _ => rfl)⟩
  | succ fuel ih =>
    intro listed env V a w S σ H hr hs hle hres hB hBb hQ h
    refine ⟨fun h0 => hQ a w S σ env H (h.1 h0) hr hs (.refl _ _ _ _) (Nat.le_refl _) (fun _ _ => rfl), fun i hi => ?_⟩
    obtain ⟨hun, o, ho, _⟩ := mem_ready.1 hi
    have hid : needC (cls P o.op) = true → b + i < H.nx ∧ σ (b + i) = none := fun h => hres (hnd i o ho h) i hun
    have h1 := h.2 i hi
    have next : ∀ (a' : Act) (w' : World), AftV P (needC (cls P o.op)) n (b + i) w S σ H o.dst env (fun x V' H' => anyA P n b ops K fuel (listed.setIfInBounds i true) (setE n env o.dst x) V' H') a' w' → wpAny P .any ops Q fuel (listed.setIfInBounds i true) a' w' := by
      rintro a' w' ⟨x, V', H', S', σ', h1, h2, h3, h4, h5, h6, h7⟩
      refine ih _ _ V' a' w' S' σ' H' h3 h4 h2 (fun hn j hj => ?_) (by omega) hBb (fun a2 w2 S2 σ2 env2 H2 q1 q2 q3 q4 q5 q6 => hQ a2 w2 S2 σ2 env2 H2 q1 q2 q3 (h5.trans q4) (Nat.le_trans h6 q5) (fun j hj => (q6 j hj).trans (h7 j (fun hn => by have := hBb (hnd i o ho hn); omega) (by omega)))) h1
      have hij : i ≠ j := by
        rintro rfl
        rcases Nat.lt_or_ge i listed.size with h' | h'
        · simp [h'] at hj
        · simp [Array.getElem?_eq_none, h'] at hj
      rw [getD_set_ne true hij] at hj
      obtain ⟨g1, g2⟩ := hres hn j hj
      exact ⟨by omega, by rw [h7 _ (fun _ => by omega) g1]; exact g2⟩
    simp only [opV, ho] at h1
    simp only [wpOp, ho]
    unfold stepV at h1
    cases hg : o.guard with
    | none =>
      rw [hg] at h1
      rw [if_pos (by simp [Region.wanted, hg])]
      exact .inl (Oper.wp_mono next (coreV_wp hr hs hle hid h1))
    | some g =>
      obtain ⟨j, want⟩ := g
      rw [hg] at h1
      obtain ⟨c, hc, h1, h2⟩ := h1
      have hy := gv_yield hr hc
      by_cases hcw : c = some want
      · rw [if_pos (by simp [Region.wanted, hg, hy, hcw])]
        exact .inl (Oper.wp_mono next (coreV_wp hr hs hle hid (h1 hcw)))
      · rw [if_neg (by simp [Region.wanted, hg, hy, hcw])]
        exact next _ _ ⟨.tup [], V, H, S, σ, h2 hcw, hle, hr.put _ skip_rp, hs, .refl _ _ _ _, Nat.le_refl _, fun _ _ _ => rfl⟩
end
end Go.Proofs.Ytcmnjoepadjioaa

/- Whole bodies on abstract memory: branches, blocks, loops, cuts where ways meet; the contract of a function. Nothing of the program is named here. -/
namespace Go.Proofs.Ytcmnjoepadjioaa
open Go.RowKit Go.Maps

/-- a function's text, with marks: which variables live on where ways meet -/
inductive AC where
  | skip | ret
  | exit (id : Nat)
  | reg (k : Nat)
  | seq (a b : AC)
  | cut (ws : List Tmp) (ks : List (Nat × Nat)) (a b : AC)
  | cond (c : Operand) (a b : AC)
  | block (id : Nat) (a : AC)
  | loop (ws : List Tmp) (ks : List (Nat × Nat)) (a : AC)
  | scope (a : AC)
  | label (l : Nat)
  | gh (a : AC)
structure Reg where
  id : Nat
  ops : Array Oper
  draw : Bool
def regsOf : Code → List Reg
  | .region id ops d => [⟨id, ops, d⟩]
  | .seq a b => regsOf a ++ regsOf b
  | .cond _ a b => regsOf a ++ regsOf b
  | .block _ a => regsOf a
  | .loop a => regsOf a
  | .scope a => regsOf a
  | _ => []
def erase (rs : List Reg) : AC → Code
  | .skip => .skip
  | .ret => .ret
  | .exit id => .exit id
  | .reg k => match rs[k]? with
    | some r => .region r.id r.ops r.draw
    | none => .skip
  | .seq a b => .seq (erase rs a) (erase rs b)
  | .cut _ _ a b => .seq (erase rs a) (erase rs b)
  | .cond c a b => .cond c (erase rs a) (erase rs b)
  | .block id a => .block id (erase rs a)
  | .loop _ _ a => .loop (erase rs a)
  | .scope a => .scope (erase rs a)
  | .label l => .label l
  | .gh a => erase rs a
/-- a state is told anew -/
def GW (P : Program) (B : Nat) (vs : List AV) (H1 : AH) (vs' : List AV) (H2 : AH) : Prop := ∀ w S σ us, Sat P w S σ H1 → Rps w S σ vs us →
  ∃ S' σ', Sat P w S' σ' H2 ∧ Rps w S' σ' vs' us ∧ (∀ b, S b → S' b) ∧ (∀ b, S' b → S b ∨ Foot σ H1 b) ∧ (∀ b, Foot σ' H2 b → Foot σ H1 b) ∧ (∀ id, id < B → σ' id = σ id) ∧ B ≤ H2.nx
def Gh (P : Program) (B : Nat) (vs : List AV) (H : AH) (J : List AV → AH → Prop) : Prop := ∃ vs' H2, GW P B vs H vs' H2 ∧ J vs' H2
/-- what is held is told anew: some of it is handed over as data, or let go -/
def Gst (P : Program) (H H2 : AH) : Prop := H.nx ≤ H2.nx ∧ ∀ w S σ, Sat P w S σ H → ∃ S', Sat P w S' σ H2 ∧ (∀ b, S b → S' b) ∧ (∀ b, S' b → S b ∨ Foot σ H b) ∧ (∀ b, Foot σ H2 b → Foot σ H b)
def Gq (P : Program) (F : AH → Prop) (H : AH) : Prop := ∃ H2, Gst P H H2 ∧ F H2
def CutA (P : Program) (m : Nat) (A : (List AV → AH → Prop) → AH → Prop) (K : List AV → AH → Prop) (H : AH) : Prop :=
  ∃ J : List AV → AH → Prop, A (fun vs H' => Gh P H.nx vs H' J) H ∧ ∀ vs H', vs.length = m → H.nx ≤ H'.nx → SatE P H' → J vs H' → K vs H'
def LoopA (P : Program) (m : Nat) (B : List AV → (List AV → AH → Prop) → AH → Prop) (vs0 : List AV) (H : AH) : Prop :=
  ∃ (I : List AV → AH → Prop) (μ : List AV → AH → Nat), Gh P H.nx vs0 H I ∧ ∀ vs H1, vs.length = m → H.nx ≤ H1.nx → SatE P H1 → I vs H1 → B vs (fun vs' H' => Gh P H.nx vs' H' (fun vs2 H2 => I vs2 H2 ∧ μ vs2 H2 < μ vs H1)) H1
def idxOf (t : Nat) : List Nat → Nat → Option Nat
  | [], _ => none
  | x :: r, i => bif Nat.beq t x then some i else idxOf t r (i + 1)
def inIv (ks : List (Nat × Nat)) (t : Nat) : Bool := ks.any fun p => Nat.ble p.1 t && Nat.blt t p.2
def ovr (env : Env) (ws : List Tmp) (ks : List (Nat × Nat)) (vs : List AV) : Env := fun t => match idxOf t ws 0 with
  | some i => vs.getD i .any
  | none => bif inIv ks t then .any else env t
def CdA (c : AV) (X Y : AH → Prop) (H : AH) : Prop := ∃ b, c = .p (.bool b) ∧ (b = true → X H) ∧ (b = false → Y H)
def needsR (P : Program) (ops : Array Oper) : Bool := ops.toList.any fun o => needC (cls P o.op)
def regB (P : Program) (n b : Nat) (r : Reg) (env : Env) (k : Env → AH → Prop) : AH → Prop :=
  bif r.draw then Vw (fun V => seqV P n b r.ops r.ops.toList 0 env k V) else seqA P n b r.ops r.ops.toList 0 env k
def regA (P : Program) (n : Nat) (r : Reg) (env : Env) (k : Env → AH → Prop) : AH → Prop :=
  bif needsR P r.ops then Rg r.ops.size (fun b => regB P n b r env k) else regB P n 0 r env k
def Knt := Exit → Env → AH → Prop
def thenK (k : Env → AH → Prop) (K : Knt) : Knt
  | .normal, env, H => k env H
  | e, env, H => K e env H
def blockK (id : Nat) (K : Knt) : Knt
  | .exit id', env, H => if id' = id then K .normal env H else K (.exit id') env H
  | e, env, H => K e env H
def scopeK (K : Knt) : Knt
  | .goto _, _, _ => False
  | e, env, H => K e env H
def wpA (P : Program) (n : Nat) (rs : List Reg) : AC → Env → Knt → AH → Prop
  | .skip, env, K => K .normal env
  | .ret, env, K => K .ret env
  | .exit id, env, K => K (.exit id) env
  | .label _, env, K => K .normal env
  | .reg k, env, K => match rs[k]? with
    | some r => regA P n r env (K .normal)
    | none => K .normal env
  | .seq a b, env, K => wpA P n rs a env (thenK (fun env' => wpA P n rs b env' K) K)
  | .cut ws ks a b, env, K => CutA P ws.length (fun k => wpA P n rs a env (thenK (fun env' => k (ws.map env')) K)) (fun vs => wpA P n rs b (ovr env ws ks vs) K)
  | .cond c a b, env, K => CdA (ev0 env c) (wpA P n rs a env K) (wpA P n rs b env K)
  | .block id a, env, K => wpA P n rs a env (blockK id K)
  | .loop ws ks a, env, K => LoopA P ws.length (fun vs k => wpA P n rs a (ovr env ws ks vs) (thenK (fun env' => k (ws.map env')) K)) (ws.map env)
  | .scope a, env, K => wpA P n rs a env (scopeK K)
  | .gh a, env, K => Gq P (wpA P n rs a env K)
def dstsOf (ops : List Oper) : List Tmp := ops.filterMap (·.dst)
/-- is all that is written told -/
def wrIn (rs : List Reg) (ok : Tmp → Bool) : AC → Bool
  | .reg k => match rs[k]? with
    | some r => r.ops.toList.all fun o => match o.dst with
      | some d => ok d
      | none => true
    | none => true
  | .seq a b | .cond _ a b => wrIn rs ok a && wrIn rs ok b
  | .cut ws ks a b => wrIn rs ok a && wrIn rs ok b && ws.all ok && ks.all (fun p => (List.range (p.2 - p.1)).all fun k => ok (p.1 + k))
  | .loop ws ks a => wrIn rs ok a && ws.all ok && ks.all (fun p => (List.range (p.2 - p.1)).all fun k => ok (p.1 + k))
  | .block _ a | .scope a | .gh a => wrIn rs ok a
  | _ => true
def inW (ws : List Tmp) (ks : List (Nat × Nat)) (t : Tmp) : Bool := (idxOf t ws 0).isSome || inIv ks t
def marksOk (P : Program) (rs : List Reg) (Ms : List (Array Nat)) : AC → Bool
  | .reg k => match rs[k]? with
    | some r => !r.draw || (maskOk r.ops (Ms.getD k #[]) && freeOk P r.ops (Ms.getD k #[]))
    | none => true
  | .seq a b | .cond _ a b => marksOk P rs Ms a && marksOk P rs Ms b
  | .cut ws ks a b => wrIn rs (inW ws ks) a && marksOk P rs Ms a && marksOk P rs Ms b
  | .loop ws ks a => wrIn rs (inW ws ks) a && marksOk P rs Ms a
  | .block _ a | .scope a | .gh a => marksOk P rs Ms a
  | _ => true
end Go.Proofs.Ytcmnjoepadjioaa

/- Whole bodies on abstract memory: what is told holds of the model. Nothing of the program is named here. -/
namespace Go.Proofs.Ytcmnjoepadjioaa
open Go.RowKit Go.Maps

section
variable {P : Program} {w : World} {S : Nat → Prop} {σ : Nat → Option Value} {H V : AH} {n b : Nat} {ops : Array Oper} {rs : List Reg} {ok : Tmp → Bool}
def Same (ok : Tmp → Bool) (env env' : Env) : Prop := ∀ t, ok t = false → env' t = env t
theorem Same.refl (env : Env) : Same ok env env := fun _ _ => rfl
theorem Same.trans {a b c : Env} (h : Same ok a b) (k : Same ok b c) : Same ok a c := fun t ht => (k t ht).trans (h t ht)
theorem Same.set {env : Env} {dst : Option Tmp} {a : AV} (h : ∀ d, dst = some d → ok d = true) : Same ok env (setE n env dst a) := by
  intro t ht
  cases dst with
  | none => rfl
  | some d =>
    have hne : t ≠ d := fun e => by subst e; rw [h t rfl] at ht; cases ht
    simp only [setE]
    cases Nat.blt d n
    · rfl
    · simp only [cond_true]
      rw [show Nat.beq t d = false from by rw [Bool.eq_false_iff]; exact fun e => hne (Nat.eq_of_beq_eq_true e)]
      rfl
theorem coreS_mono {id : Nat} {o : Op} {env : Env} {k k' : AV → AH → Prop} (h : coreS P id o env k H) (hk : ∀ x H, k x H → k' x H) : coreS P id o env k' H := by
  unfold coreS at h ⊢
  cases hc : cls P o <;> rw [hc] at h <;> dsimp only at h ⊢
  · exact hk _ _ h
  · obtain ⟨a, h1, h2⟩ := h; exact ⟨a, h1, hk _ _ h2⟩
  · obtain ⟨a, h1, h2⟩ := h; exact ⟨a, h1, hk _ _ h2⟩
  · obtain ⟨a, o', h1, h2⟩ := h; exact ⟨a, o', h1, hk _ _ h2⟩
  · obtain ⟨a, H', h1, h2⟩ := h; exact ⟨a, H', h1, hk _ _ h2⟩
  · obtain ⟨g, first, cap, Q, h1, h2, h3, h4⟩ := h; exact ⟨g, first, cap, Q, h1, h2, h3, fun r H' hs hq => hk _ _ (h4 r H' hs hq)⟩
theorem seqA_frame : ∀ (l : List Oper) (i : Nat) (env : Env) (k : Env → AH → Prop) (H : AH), (∀ o ∈ l, ∀ d, o.dst = some d → ok d = true) → seqA P n b ops l i env k H → seqA P n b ops l i env (fun env' H' => k env' H' ∧ Same ok env env') H
  | [], i, env, k, H, _, h => ⟨h, .refl _⟩
  | o :: rest, i, env, k, H, ho, h => by
    have step : ∀ x H, seqA P n b ops rest (i + 1) (setE n env o.dst x) k H → seqA P n b ops rest (i + 1) (setE n env o.dst x) (fun env' H' => k env' H' ∧ Same ok env env') H := by
      intro x H h
      have h1 := seqA_frame rest (i + 1) _ k H (fun o' ho' => ho o' (by simp [ho'])) h
      have h2 : Same ok env (setE n env o.dst x) := .set (ho o (by simp))
      exact seqA_mono rest (i + 1) _ _ _ H h1 (fun e H ⟨q1, q2⟩ => ⟨q1, h2.trans q2⟩)
    simp only [seqA] at h ⊢
    cases hg : o.guard with
    | none => rw [hg] at h; exact coreS_mono h step
    | some g =>
      obtain ⟨j, want⟩ := g
      rw [hg] at h
      obtain ⟨c, hc, h1, h2⟩ := h
      exact ⟨c, hc, fun hw => coreS_mono (h1 hw) step, fun hw => step _ _ (h2 hw)⟩
where
  seqA_mono : ∀ (l : List Oper) (i : Nat) (env : Env) (k k' : Env → AH → Prop) (H : AH), seqA P n b ops l i env k H → (∀ e H, k e H → k' e H) → seqA P n b ops l i env k' H
  | [], i, env, k, k', H, h, hk => hk _ _ h
  | o :: rest, i, env, k, k', H, h, hk => by
    simp only [seqA] at h ⊢
    cases hg : o.guard with
    | none => rw [hg] at h; exact coreS_mono h fun x H h => seqA_mono rest (i + 1) _ k k' H h hk
    | some g =>
      obtain ⟨j, want⟩ := g
      rw [hg] at h
      obtain ⟨c, hc, h1, h2⟩ := h
      exact ⟨c, hc, fun hw => coreS_mono (h1 hw) fun x H h => seqA_mono rest (i + 1) _ k k' H h hk, fun hw => seqA_mono rest (i + 1) _ k k' H (h2 hw) hk⟩
theorem seqV_mono : ∀ (l : List Oper) (i : Nat) (env : Env) (k k' : Env → AH → Prop) (V H : AH), seqV P n b ops l i env k V H → (∀ e H, k e H → k' e H) → seqV P n b ops l i env k' V H
  | [], i, env, k, k', V, H, h, hk => hk _ _ h
  | o :: rest, i, env, k, k', V, H, h, hk => by
    simp only [seqV] at h ⊢
    exact stepV_mono h fun e V H h => seqV_mono rest (i + 1) _ k k' V H h hk
theorem seqV_frame : ∀ (l : List Oper) (i : Nat) (env : Env) (k : Env → AH → Prop) (V H : AH), (∀ o ∈ l, ∀ d, o.dst = some d → ok d = true) → seqV P n b ops l i env k V H → seqV P n b ops l i env (fun env' H' => k env' H' ∧ Same ok env env') V H
  | [], i, env, k, V, H, _, h => ⟨h, .refl _⟩
  | o :: rest, i, env, k, V, H, ho, h => by
    simp only [seqV] at h ⊢
    rw [stepV_iff] at h ⊢
    obtain ⟨x, V', H', h1, h2⟩ := h
    have h3 := seqV_frame rest (i + 1) _ k V' H' (fun o' ho' => ho o' (by simp [ho'])) h2
    have h4 : Same ok env (setE n env o.dst x) := .set (ho o (by simp))
    exact ⟨x, V', H', h1, seqV_mono rest (i + 1) _ _ _ V' H' h3 (fun e H ⟨q1, q2⟩ => ⟨q1, h4.trans q2⟩)⟩
theorem regB_frame {r : Reg} {env : Env} {k : Env → AH → Prop} (ho : ∀ o ∈ r.ops.toList, ∀ d, o.dst = some d → ok d = true) (h : regB P n b r env k H) : regB P n b r env (fun env' H' => k env' H' ∧ Same ok env env') H := by
  unfold regB at h ⊢
  cases hd : r.draw <;> rw [hd] at h
  · exact seqA_frame _ _ _ _ _ ho h
  · exact seqV_frame _ _ _ _ _ _ ho h
theorem regB_mono {r : Reg} {env : Env} {k k' : Env → AH → Prop} (h : regB P n b r env k H) (hk : ∀ e H, k e H → k' e H) : regB P n b r env k' H := by
  unfold regB at h ⊢
  cases hd : r.draw <;> rw [hd] at h
  · exact seqA_frame.seqA_mono _ _ _ _ _ _ h hk
  · exact seqV_mono _ _ _ _ _ _ _ h hk
theorem regA_mono {r : Reg} {env : Env} {k k' : Env → AH → Prop} (h : regA P n r env k H) (hk : ∀ e H, k e H → k' e H) : regA P n r env k' H := by
  unfold regA at h ⊢
  cases hd : needsR P r.ops <;> rw [hd] at h
  · exact regB_mono h hk
  · exact regB_mono (H := H.up r.ops.size) h hk
theorem regA_frame {r : Reg} {env : Env} {k : Env → AH → Prop} (ho : ∀ o ∈ r.ops.toList, ∀ d, o.dst = some d → ok d = true) (h : regA P n r env k H) : regA P n r env (fun env' H' => k env' H' ∧ Same ok env env') H := by
  unfold regA at h ⊢
  cases hd : needsR P r.ops <;> rw [hd] at h
  · exact regB_frame ho h
  · exact regB_frame (H := H.up r.ops.size) ho h
theorem Gh_mono {B : Nat} {vs : List AV} {J J' : List AV → AH → Prop} (h : Gh P B vs H J) (hj : ∀ vs H, J vs H → J' vs H) : Gh P B vs H J' := by
  obtain ⟨vs', H2, h1, h2⟩ := h; exact ⟨vs', H2, h1, hj _ _ h2⟩
theorem wpA_mono : ∀ (c : AC) (env : Env) (K K' : Knt) (H : AH), wpA P n rs c env K H → (∀ e env H, K e env H → K' e env H) → wpA P n rs c env K' H := by
  intro c
  induction c with
  | skip => exact fun env K K' H h hk => hk _ _ _ h
  | ret => exact fun env K K' H h hk => hk _ _ _ h
  | exit id => exact fun env K K' H h hk => hk _ _ _ h
  | label l => exact fun env K K' H h hk => hk _ _ _ h
  | reg k =>
    intro env K K' H h hk
    simp only [wpA] at h ⊢
    cases hr : rs[k]? with
    | none => rw [hr] at h; exact hk _ _ _ h
    | some r => rw [hr] at h; exact regA_mono h fun e H h => hk _ _ _ h
  | seq a b iha ihb =>
    intro env K K' H h hk
    exact iha env _ _ H h fun e env H h => by cases e <;> first | exact ihb _ _ _ _ h hk | exact hk _ _ _ h
  | cut ws ks a b iha ihb =>
    intro env K K' H h hk
    obtain ⟨J, h1, h2⟩ := h
    exact ⟨J, iha env _ _ H h1 fun e env H h => by cases e <;> first | exact h | exact hk _ _ _ h, fun vs H' hl hn hs hj => ihb _ _ _ _ (h2 vs H' hl hn hs hj) hk⟩
  | cond c a b iha ihb =>
    intro env K K' H h hk
    obtain ⟨c, h1, h2, h3⟩ := h
    exact ⟨c, h1, fun hc => iha _ _ _ _ (h2 hc) hk, fun hc => ihb _ _ _ _ (h3 hc) hk⟩
  | block id a iha =>
    intro env K K' H h hk
    refine iha env _ _ H h fun e env H h => ?_
    cases e <;> first | exact hk _ _ _ h | skip
    simp only [blockK] at h ⊢
    split at h
    · rename_i hi; rw [if_pos hi]; exact hk _ _ _ h
    · rename_i hi; rw [if_neg hi]; exact hk _ _ _ h
  | loop ws ks a iha =>
    intro env K K' H h hk
    obtain ⟨I, μ, h1, h2⟩ := h
    exact ⟨I, μ, h1, fun vs H1 hl hn hs hi => iha _ _ _ _ (h2 vs H1 hl hn hs hi) fun e env H h => by cases e <;> first | exact h | exact hk _ _ _ h⟩
  | scope a iha =>
    intro env K K' H h hk
    exact iha env _ _ H h fun e env H h => by cases e <;> first | exact h.elim | exact hk _ _ _ h
  | gh a iha =>
    intro env K K' H h hk
    obtain ⟨H2, h1, h2⟩ := h
    exact ⟨H2, h1, iha _ _ _ _ h2 hk⟩
theorem idx_mem : ∀ {l : List Nat} {t i j : Nat}, idxOf t l i = some j → i ≤ j ∧ l[j - i]? = some t
  | [], t, i, j, h => by cases h
  | x :: r, t, i, j, h => by
    unfold idxOf at h
    cases hb : Nat.beq t x <;> rw [hb] at h <;> simp only [cond_true, cond_false] at h
    · obtain ⟨h1, h2⟩ := idx_mem h
      refine ⟨by omega, ?_⟩
      rw [show j - i = (j - (i + 1)) + 1 by omega, List.getElem?_cons_succ]; exact h2
    · injection h with h
      subst h
      have := Nat.eq_of_beq_eq_true hb
      subst this
      exact ⟨Nat.le_refl _, by simp⟩
theorem ovr_same {env : Env} {ws : List Tmp} {ks : List (Nat × Nat)} {vs : List AV} (h1 : ws.all ok = true) (h2 : ks.all (fun p => (List.range (p.2 - p.1)).all fun k => ok (p.1 + k)) = true) : Same ok env (ovr env ws ks vs) := by
  intro t ht
  unfold ovr
  cases hi' : idxOf t ws 0 with
  | some i =>
    obtain ⟨_, h3⟩ := idx_mem hi'
    have := List.all_eq_true.1 h1 t (List.mem_of_getElem? h3)
    rw [this] at ht; cases ht
  | none =>
    dsimp only
    cases hb : inIv ks t with
    | false => rfl
    | true =>
      unfold inIv at hb
      obtain ⟨p, hp, hb⟩ := List.any_eq_true.1 hb
      simp only [Bool.and_eq_true, Nat.ble_eq, Nat.blt_eq] at hb
      have := List.all_eq_true.1 (List.all_eq_true.1 h2 p hp) (t - p.1) (List.mem_range.2 (by omega))
      rw [show p.1 + (t - p.1) = t by omega, ht] at this
      cases this
theorem wpA_frame : ∀ (c : AC) (env : Env) (K : Knt) (H : AH), wrIn rs ok c = true → wpA P n rs c env K H → wpA P n rs c env (fun e env' H' => K e env' H' ∧ Same ok env env') H := by
  intro c
  induction c with
  | skip => exact fun env K H _ h => ⟨h, .refl _⟩
  | ret => exact fun env K H _ h => ⟨h, .refl _⟩
  | exit id => exact fun env K H _ h => ⟨h, .refl _⟩
  | label l => exact fun env K H _ h => ⟨h, .refl _⟩
  | reg k =>
    intro env K H hw h
    simp only [wpA, wrIn] at h hw ⊢
    cases hr : rs[k]? with
    | none => rw [hr] at h; exact ⟨h, .refl _⟩
    | some r =>
      rw [hr] at h hw
      refine regA_frame (fun o ho d hd => ?_) h
      have := List.all_eq_true.1 hw o ho
      rw [hd] at this
      exact this
  | seq a b iha ihb =>
    intro env K H hw h
    simp only [wrIn, Bool.and_eq_true] at hw
    refine wpA_mono a env _ _ H (iha env _ H hw.1 h) fun e env1 H1 ⟨h1, h2⟩ => ?_
    cases e <;> first | exact wpA_mono b env1 _ _ H1 (ihb env1 _ H1 hw.2 h1) (fun e2 env2 H2 ⟨q1, q2⟩ => ⟨q1, h2.trans q2⟩) | exact ⟨h1, h2⟩
  | cut ws ks a b iha ihb =>
    intro env K H hw h
    simp only [wrIn, Bool.and_eq_true] at hw
    obtain ⟨⟨⟨w1, w2⟩, w3⟩, w4⟩ := hw
    obtain ⟨J, h1, h2⟩ := h
    refine ⟨J, wpA_mono a env _ _ H (iha env _ H w1 h1) (fun e env1 H1 ⟨h1, h2⟩ => by cases e <;> first | exact h1 | exact ⟨h1, h2⟩), fun vs H' hl hn hs hj => ?_⟩
    exact wpA_mono b _ _ _ H' (ihb _ _ H' w2 (h2 vs H' hl hn hs hj)) fun e2 env2 H2 ⟨q1, q2⟩ => ⟨q1, (ovr_same w3 w4).trans q2⟩
  | cond c a b iha ihb =>
    intro env K H hw h
    simp only [wrIn, Bool.and_eq_true] at hw
    obtain ⟨c, h1, h2, h3⟩ := h
    exact ⟨c, h1, fun hc => iha _ _ _ hw.1 (h2 hc), fun hc => ihb _ _ _ hw.2 (h3 hc)⟩
  | block id a iha =>
    intro env K H hw h
    refine wpA_mono a env _ _ H (iha env _ H hw h) fun e env1 H1 ⟨h1, h2⟩ => ?_
    cases e <;> first | exact ⟨h1, h2⟩ | skip
    simp only [blockK] at h1 ⊢
    split at h1
    · rename_i hi; rw [if_pos hi]; exact ⟨h1, h2⟩
    · rename_i hi; rw [if_neg hi]; exact ⟨h1, h2⟩
  | loop ws ks a iha =>
    intro env K H hw h
    simp only [wrIn, Bool.and_eq_true] at hw
    obtain ⟨⟨w1, w3⟩, w4⟩ := hw
    obtain ⟨I, μ, h1, h2⟩ := h
    refine ⟨I, μ, h1, fun vs H1 hl hn hs hi => wpA_mono a _ _ _ H1 (iha _ _ H1 w1 (h2 vs H1 hl hn hs hi)) fun e env1 H1 ⟨q1, q2⟩ => ?_⟩
    cases e <;> first | exact q1 | exact ⟨q1, (ovr_same w3 w4).trans q2⟩
  | scope a iha =>
    intro env K H hw h
    exact wpA_mono a env _ _ H (iha env _ H hw h) fun e env H ⟨h1, h2⟩ => by cases e <;> first | exact h1.elim | exact ⟨h1, h2⟩
  | gh a iha =>
    intro env K H hw h
    obtain ⟨H2, h1, h2⟩ := h
    exact ⟨H2, h1, iha _ _ _ hw h2⟩
end
end Go.Proofs.Ytcmnjoepadjioaa

/- Whole bodies on abstract memory: what is told holds of the model; the contract of a function. Nothing of the program is named here. -/
namespace Go.Proofs.Ytcmnjoepadjioaa
open Go.RowKit Go.Maps

section
variable {P : Program} {w : World} {S : Nat → Prop} {σ : Nat → Option Value} {H V : AH} {n b : Nat} {ops : Array Oper} {rs : List Reg} {Ms : List (Array Nat)}
/-- what is named lies below -/
def Scp (B : Nat) (a : AV) : Prop := ∃ w S σ v, Rp w S σ a v ∧ ∀ id u, σ id = some u → id < B
theorem Scp.comps {B : Nat} {cs : List AV} {w : World} {S : Nat → Prop} {σ : Nat → Option Value} {vs : List Value} (h : Rps w S σ cs vs) (hb : ∀ id u, σ id = some u → id < B) : ∀ a ∈ cs, Scp B a := by
  intro a ha
  obtain ⟨i, hi⟩ := List.getElem?_of_mem ha
  obtain ⟨v, _, hr⟩ := h.at_ hi
  exact ⟨w, S, σ, v, hr, hb⟩
theorem Rp.re {S2 : Nat → Prop} {σ2 : Nat → Option Value} {B : Nat} {a : AV} {v : Value} (h : Rp w S σ a v) (hS : ∀ b, S b → S2 b) (hσ : ∀ id, id < B → σ2 id = σ id) : Scp B a → Rp w S2 σ2 a v := by
  induction h with
  | any v => exact fun _ => .any v
  | data a v h => exact fun _ => .data _ _ (h.mono hS (fun _ _ => rfl))
  | agg cs vs hl _ h1 ih =>
    rintro ⟨w0, S0, σ0, v0, hr, hb⟩
    obtain ⟨us, _, q, _⟩ := hr.agg_inv
    exact .agg cs vs hl (fun i a v ha hv => ih i a v ha hv (Scp.comps q hb a (List.mem_of_getElem? ha))) h1
  | tup cs vs hl _ ih =>
    rintro ⟨w0, S0, σ0, v0, hr, hb⟩
    obtain ⟨us, _, q⟩ := hr.tup_inv
    exact .tup cs vs hl (fun i a v ha hv => ih i a v ha hv (Scp.comps q hb a (List.mem_of_getElem? ha)))
  | dptr sz xs i j g o c h hi => exact fun _ => .dptr sz xs i j g o c (h.mono hS (fun _ _ => rfl)) hi
  | ptr id off g h =>
    rintro ⟨w0, S0, σ0, v0, hr, hb⟩
    obtain ⟨_, _, q⟩ := hr.ptr_inv
    exact .ptr id off g ((hσ id (hb _ _ q)).trans h)
  | eptr id sz i j g o n c h =>
    rintro ⟨w0, S0, σ0, v0, hr, hb⟩
    obtain ⟨_, _, _, _, _, q⟩ := hr.eptr_inv
    exact .eptr id sz i j g o n c ((hσ id (hb _ _ q)).trans h)
  | osl id sz off n A B' N c cc h h1 h2 h3 =>
    rintro ⟨w0, S0, σ0, v0, hr, hb⟩
    obtain ⟨_, _, _, _, _, _, q, _⟩ := hr.osl_inv
    exact .osl id sz off n A B' N c cc ((hσ id (hb _ _ q)).trans h) h1 h2 h3
  | mp id g h =>
    rintro ⟨w0, S0, σ0, v0, hr, hb⟩
    obtain ⟨_, _, q⟩ := hr.mp_inv
    exact .mp id g ((hσ id (hb _ _ q)).trans h)
  | fn f first captured fs cs h1 h2 _ _ ih1 ih2 =>
    rintro ⟨w0, S0, σ0, v0, hr, hb⟩
    obtain ⟨_, _, _, q1, q2⟩ := hr.fn_inv
    exact .fn f first captured fs cs h1 h2 (fun i a v ha hv => ih1 i a v ha hv (Scp.comps q1 hb a (List.mem_of_getElem? ha))) (fun i a v ha hv => ih2 i a v ha hv (Scp.comps q2 hb a (List.mem_of_getElem? ha)))
/-- how things stand, told -/
def St (P : Program) (n : Nat) (w0 : World) (S0 : Nat → Prop) (σ0 : Nat → Option Value) (H0 : AH) (K : Env → AH → Prop) (a' : Act) (w' : World) : Prop :=
  ∃ env' H' S' σ', K env' H' ∧ RepE n a' w' S' σ' env' ∧ Sat P w' S' σ' H' ∧ Ext w0 S0 σ0 H0 w' S' σ' H' ∧ H0.nx ≤ H'.nx ∧ ∀ j, j < H0.nx → σ' j = σ0 j
theorem Sat.up (hs : Sat P w S σ H) (m : Nat) : Sat P w S σ (H.up m) := hs.congr (fun _ => rfl) (Nat.le_add_right _ _)
theorem Ext.ofUp {w' : World} {S' : Nat → Prop} {σ' : Nat → Option Value} {H' : AH} {m : Nat} (h : Ext w S σ (H.up m) w' S' σ' H') : Ext w S σ H w' S' σ' H' := ⟨h.os, h.tape, h.output, h.size, h.keep, h.sup, h.sub, h.foot, h.sig⟩
theorem RepE.world {a : Act} {env : Env} {w1 : World} (h : RepE n a w S σ env) (hw : w1.heap = w.heap) : RepE n a w1 S σ env := ⟨h.size, h.defers, fun t => (h.at_ t).world hw⟩
theorem regB_sound {r : Reg} {nd : Bool} {B0 : Nat} (hm : P.follows .mixedOrders = true) {M : Array Nat} (hM : r.draw = true → maskOk r.ops M = true ∧ freeOk P r.ops M = true) (hnd : ∀ o ∈ r.ops.toList, needC (cls P o.op) = true → nd = true)
    {Q : Exit → Act → World → Prop} {env : Env} {k : Env → AH → Prop} {a : Act} (hr : RepE n a w S σ env) (hs : Sat P w S σ H) (hres : nd = true → ∀ j, j < r.ops.size → b + j < H.nx ∧ σ (b + j) = none) (hB : B0 ≤ H.nx) (hBb : nd = true → B0 ≤ b)
    (hQ : ∀ a' w' S' σ' env' H', k env' H' → RepE n a' w' S' σ' env' → Sat P w' S' σ' H' → Ext w S σ H w' S' σ' H' → H.nx ≤ H'.nx → (∀ j, j < B0 → σ' j = σ j) → Q .normal a' w') (h : regB P n b r env k H) : (Code.region r.id r.ops r.draw).wp P Q a w := by
  unfold regB at h
  cases hd : r.draw with
  | false =>
    rw [hd] at h
    simp only [cond_false] at h
    exact wp_region_list (seqA_sound (nd := nd) _ 0 env k a w S σ H hr hs hnd (fun hn j _ hj => hres hn j (by simpa using hj)) hB hBb hQ h)
  | true =>
    rw [hd] at h
    simp only [cond_true, Vw] at h
    obtain ⟨m1, m2⟩ := hM hd
    have e1 : Ext w S σ H { w with drawn := w.drawn + 1 } S σ H := Ext.draw w S σ H 1
    refine wp_region_any hm (anyA_sound (nd := nd) (K := k) (V := H) (fun j o ho => hnd o (by rw [← Array.getElem?_toList] at ho; exact List.mem_of_getElem? ho)) _ _ env a _ S σ H (hr.world rfl) (hs.world rfl) (AH.le_refl H)
      (fun hn j hj => hres hn j ?_) hB hBb (fun a' w' S' σ' env' H' q1 q2 q3 q4 q5 q6 => hQ a' w' S' σ' env' H' q1 q2 q3 (e1.trans q4) q5 q6) ?_)
    · exact ((firstK_zero r.ops.size).2 j).1 hj |>.2
    · have := anyA_lex m1 m2 r.ops.toList 0 (Array.replicate r.ops.size false) env H H (fun j => by simp) (by simp) (firstK_zero _) h
      simpa using this
theorem regA_sound {r : Reg} (hm : P.follows .mixedOrders = true) {M : Array Nat} (hM : r.draw = true → maskOk r.ops M = true ∧ freeOk P r.ops M = true)
    {Q : Exit → Act → World → Prop} {env : Env} {k : Env → AH → Prop} {a : Act} (hr : RepE n a w S σ env) (hs : Sat P w S σ H)
    (hQ : ∀ a' w' S' σ' env' H', k env' H' → RepE n a' w' S' σ' env' → Sat P w' S' σ' H' → Ext w S σ H w' S' σ' H' → H.nx ≤ H'.nx → (∀ j, j < H.nx → σ' j = σ j) → Q .normal a' w') (h : regA P n r env k H) : (Code.region r.id r.ops r.draw).wp P Q a w := by
  unfold regA at h
  cases hn : needsR P r.ops with
  | false =>
    rw [hn] at h
    refine regB_sound (nd := false) (B0 := H.nx) hm hM (fun o ho hc => ?_) hr hs (fun h => by cases h) (Nat.le_refl _) (fun h => by cases h) hQ h
    unfold needsR at hn
    rw [List.any_eq_false] at hn
    exact absurd hc (hn o ho)
  | true =>
    rw [hn] at h
    simp only [cond_true, Rg] at h
    refine regB_sound (nd := true) (B0 := H.nx) (H := H.up r.ops.size) hm hM (fun _ _ _ => rfl) hr (hs.up _) (fun _ j hj => ⟨by show H.nx + j < H.nx + r.ops.size; omega, ?_⟩) (Nat.le_add_right _ _) (fun _ => Nat.le_refl _) (fun a' w' S' σ' env' H' q1 q2 q3 q4 q5 q6 => hQ a' w' S' σ' env' H' q1 q2 q3 q4.ofUp (Nat.le_trans (Nat.le_add_right _ _) q5) q6) h
    cases hσ : σ (H.nx + j) with
    | none => rfl
    | some u => have := hs.dom _ _ hσ; omega
theorem marks_reg {k : Nat} {r : Reg} (hk : rs[k]? = some r) (h : marksOk P rs Ms (.reg k) = true) : r.draw = true → maskOk r.ops (Ms.getD k #[]) = true ∧ freeOk P r.ops (Ms.getD k #[]) = true := by
  intro hd
  simp only [marksOk, hk, hd, Bool.not_true, Bool.false_or, Bool.and_eq_true] at h
  exact h
theorem tmps_rps {a : Act} {env : Env} (hr : RepE n a w S σ env) (ws : List Tmp) : Rps w S σ (ws.map env) (ws.map fun t => a.tmps.getD t undef) := by
  induction ws with
  | nil => exact .nil
  | cons t ws ih => exact .cons (hr.at_ t) ih
/-- behind a new telling -/
theorem gw_step {B : AH} {w0 : World} {S0 : Nat → Prop} {σ0 : Nat → Option Value} {a0 a' : Act} {env env' : Env} {ws : List Tmp} {ks : List (Nat × Nat)} {vs' : List AV} {H' H2 : AH} (hs0 : Sat P w0 S0 σ0 B) (hr0 : RepE n a0 w0 S0 σ0 env)
    (hr : RepE n a' w S σ env') (hs : Sat P w S σ H') (hx : Ext w0 S0 σ0 B w S σ H') (hsame : Same (inW ws ks) env env') (hg : GW P B.nx (ws.map env') H' vs' H2) :
    ∃ S2 σ2, RepE n a' w S2 σ2 (ovr env ws ks vs') ∧ Sat P w S2 σ2 H2 ∧ Ext w0 S0 σ0 B w S2 σ2 H2 ∧ B.nx ≤ H2.nx ∧ vs'.length = ws.length ∧ ∀ j, j < B.nx → σ2 j = σ j := by
  obtain ⟨S2, σ2, g1, g2, g3, g4, g5, g6, g7⟩ := hg w S σ _ hs (tmps_rps hr ws)
  refine ⟨S2, σ2, ⟨hr.size, hr.defers, fun t => ?_⟩, g1, ⟨hx.os, hx.tape, hx.output, hx.size, hx.keep, fun b hb => g3 b (hx.sup b hb), fun b hb => ?_, fun b hb => hx.foot b (g5 b hb), fun id u hu => ?_⟩, g7, by rw [g2.1]; simp, g6⟩
  · unfold ovr
    cases hi' : idxOf t ws 0 with
    | some i =>
      obtain ⟨_, h3⟩ := idx_mem hi'
      rw [Nat.sub_zero] at h3
      have hlt : i < vs'.length := by rw [g2.1, List.length_map]; exact (List.getElem?_eq_some_iff.1 h3).1
      dsimp only
      rw [List.getD_eq_getElem?_getD, List.getElem?_eq_getElem hlt, Option.getD_some]
      exact g2.2 i _ _ (List.getElem?_eq_getElem hlt) (by rw [List.getElem?_map, h3]; rfl)
    | none =>
      dsimp only
      cases hb : inIv ks t with
      | true => exact .any _
      | false =>
        have hin : inW ws ks t = false := by unfold inW; rw [hi', hb]; rfl
        have hse := hsame t hin
        have h1 := hr.at_ t
        rw [hse] at h1
        exact h1.re g3 g6 ⟨w0, S0, σ0, _, hr0.at_ t, hs0.dom⟩
  · rcases g4 b hb with h | h
    · exact hx.sub b h
    · exact .inr (hx.foot b h)
  · rw [g6 id (hs0.dom _ _ hu)]; exact hx.sig _ _ hu
theorem least_ex {p : Nat → Prop} : ∀ m, p m → ∃ m, p m ∧ ∀ k, p k → m ≤ k := by
  intro m
  induction m using Nat.strongRecOn with
  | _ m ih =>
    intro hm
    by_cases h : ∃ k, k < m ∧ p k
    · obtain ⟨k, hk, hp⟩ := h; exact ih k hk hp
    · exact ⟨m, hm, fun k hk => Nat.le_of_not_lt fun hlt => h ⟨k, hlt, hk⟩⟩
noncomputable def leastN (p : Nat → Prop) : Nat := Classical.epsilon fun m => p m ∧ ∀ k, p k → m ≤ k
theorem least_spec {p : Nat → Prop} (h : ∃ m, p m) : p (leastN p) ∧ ∀ k, p k → leastN p ≤ k := by
  obtain ⟨m, hm⟩ := h
  exact Classical.epsilon_spec (least_ex m hm)
theorem wpA_sound (hm : P.follows .mixedOrders = true) : ∀ (c : AC) (env : Env) (K : Knt) (a : Act) (w : World) (S : Nat → Prop) (σ : Nat → Option Value) (H : AH), marksOk P rs Ms c = true → RepE n a w S σ env → Sat P w S σ H → wpA P n rs c env K H →
    (erase rs c).wp P (fun e => St P n w S σ H (K e)) a w := by
  intro c
  induction c with
  | skip => exact fun env K a w S σ H _ hr hs h => wp_skip ⟨env, H, S, σ, h, hr, hs, .refl _ _ _ _, Nat.le_refl _, fun _ _ => rfl⟩
  | ret => exact fun env K a w S σ H _ hr hs h => wp_ret ⟨env, H, S, σ, h, hr, hs, .refl _ _ _ _, Nat.le_refl _, fun _ _ => rfl⟩
  | exit id => exact fun env K a w S σ H _ hr hs h => wp_exit ⟨env, H, S, σ, h, hr, hs, .refl _ _ _ _, Nat.le_refl _, fun _ _ => rfl⟩
  | label l => exact fun env K a w S σ H _ hr hs h => wp_label ⟨env, H, S, σ, h, hr, hs, .refl _ _ _ _, Nat.le_refl _, fun _ _ => rfl⟩
  | reg k =>
    intro env K a w S σ H hmk hr hs h
    simp only [wpA] at h
    cases hk : rs[k]? with
    | none => rw [hk] at h; simp only [erase, hk]; exact wp_skip ⟨env, H, S, σ, h, hr, hs, .refl _ _ _ _, Nat.le_refl _, fun _ _ => rfl⟩
    | some r =>
      rw [hk] at h
      simp only [erase, hk]
      exact regA_sound hm (marks_reg hk hmk) hr hs (fun a' w' S' σ' env' H' q1 q2 q3 q4 q5 q6 => ⟨env', H', S', σ', q1, q2, q3, q4, q5, q6⟩) h
  | seq x y ihx ihy =>
    intro env K a w S σ H hmk hr hs h
    simp only [marksOk, Bool.and_eq_true] at hmk
    refine wp_seq (wp_mono (ihx env _ a w S σ H hmk.1 hr hs h) fun e a' w' hst => ?_)
    obtain ⟨env', H', S', σ', q1, q2, q3, q4, q5, q6⟩ := hst
    cases e <;> first
      | (refine wp_mono (ihy env' K a' w' S' σ' H' hmk.2 q2 q3 q1) ?_
         rintro e2 a2 w2 ⟨env2, H2, S2, σ2, r1, r2, r3, r4, r5, r6⟩
         exact ⟨env2, H2, S2, σ2, r1, r2, r3, q4.trans r4, Nat.le_trans q5 r5, fun j hj => (r6 j (by omega)).trans (q6 j hj)⟩)
      | exact ⟨env', H', S', σ', q1, q2, q3, q4, q5, q6⟩
  | cut ws ks x y ihx ihy =>
    intro env K a w S σ H hmk hr hs h
    simp only [marksOk, Bool.and_eq_true] at hmk
    obtain ⟨⟨hw, hmx⟩, hmy⟩ := hmk
    obtain ⟨J, h1, h2⟩ := h
    refine wp_seq (wp_mono (ihx env _ a w S σ H hmx hr hs (wpA_frame x env _ H hw h1)) fun e a' w' hst => ?_)
    obtain ⟨env', H', S', σ', ⟨q1, qs⟩, q2, q3, q4, q5, q6⟩ := hst
    cases e <;> first
      | (obtain ⟨vs', H2, hg, hj⟩ := q1
         obtain ⟨S2, σ2, g1, g2, g3, g4, g5, g6⟩ := gw_step hs hr q2 q3 q4 qs hg
         refine wp_mono (ihy _ K a' w' S2 σ2 H2 hmy g1 g2 (h2 vs' H2 g5 g4 ⟨_, _, _, g2⟩ hj)) ?_
         rintro e2 a2 w2 ⟨env2, H3, S3, σ3, r1, r2, r3, r4, r5, r6⟩
         exact ⟨env2, H3, S3, σ3, r1, r2, r3, g3.trans r4, Nat.le_trans g4 r5, fun j hj => (r6 j (by omega)).trans ((g6 j hj).trans (q6 j hj))⟩)
      | exact ⟨env', H', S', σ', q1, q2, q3, q4, q5, q6⟩
  | cond c x y ihx ihy =>
    intro env K a w S σ H hmk hr hs h
    simp only [marksOk, Bool.and_eq_true] at hmk
    obtain ⟨t, h1, h2, h3⟩ := h
    have hc := hr.ev c
    rw [h1] at hc
    have hv := hc.p_inv.1
    cases t with
    | true => exact wp_cond_true hv (ihx env K a w S σ H hmk.1 hr hs (h2 rfl))
    | false => exact wp_cond_false hv (ihy env K a w S σ H hmk.2 hr hs (h3 rfl))
  | block id x ihx =>
    intro env K a w S σ H hmk hr hs h
    refine wp_block (wp_mono (ihx env _ a w S σ H hmk hr hs h) fun e a' w' hst => ?_)
    obtain ⟨env', H', S', σ', q1, q2, q3, q4, q5, q6⟩ := hst
    cases e <;> first | exact ⟨env', H', S', σ', q1, q2, q3, q4, q5, q6⟩ | skip
    rename_i id'
    simp only [blockK] at q1
    simp only [Exit.inBlock]
    split at q1
    · rename_i hi; rw [if_pos hi]; exact ⟨env', H', S', σ', q1, q2, q3, q4, q5, q6⟩
    · rename_i hi; rw [if_neg hi]; exact ⟨env', H', S', σ', q1, q2, q3, q4, q5, q6⟩
  | loop ws ks x ihx =>
    intro env K a w S σ H hmk hr hs h
    simp only [marksOk, Bool.and_eq_true] at hmk
    obtain ⟨hw, hmx⟩ := hmk
    obtain ⟨I, μ, h0, hround⟩ := h
    -- the state at the loop's head, with its measure
    let At (m : Nat) (a' : Act) (w' : World) : Prop := ∃ vs H1 S1 σ1, vs.length = ws.length ∧ H.nx ≤ H1.nx ∧ I vs H1 ∧ μ vs H1 = m ∧ RepE n a' w' S1 σ1 (ovr env ws ks vs) ∧ Sat P w' S1 σ1 H1 ∧ Ext w S σ H w' S1 σ1 H1 ∧ ∀ j, j < H.nx → σ1 j = σ j
    refine wp_loop (fun a' w' => ∃ m, At m a' w') (fun a' w' => leastN fun m => At m a' w') ?_ ?_
    · obtain ⟨vs', H2, hg, hj⟩ := h0
      obtain ⟨S2, σ2, g1, g2, g3, g4, g5, g6⟩ := gw_step hs hr hr hs (.refl _ _ _ _) (.refl _) hg
      exact ⟨_, vs', H2, S2, σ2, g5, g4, hj, rfl, g1, g2, g3, g6⟩
    · intro a' w' hex
      obtain ⟨vs, H1, S1, σ1, k1, k2, k3, k4, k5, k6, k7, k8⟩ := (least_spec hex).1
      refine wp_mono (ihx (ovr env ws ks vs) _ a' w' S1 σ1 H1 hmx k5 k6 (wpA_frame x _ _ H1 hw (hround vs H1 k1 k2 ⟨_, _, _, k6⟩ k3))) fun e a2 w2 hst => ?_
      obtain ⟨env', H', S', σ', ⟨q1, qs⟩, q2, q3, q4, q5, q6⟩ := hst
      cases e <;> first
        | (obtain ⟨vs', H2, hg, hj, hlt⟩ := q1
           have qs' : Same (inW ws ks) env env' := fun t ht => by
             rw [qs t ht]
             unfold ovr
             unfold inW at ht
             simp only [Bool.or_eq_false_iff] at ht
             obtain ⟨t1, t2⟩ := ht
             cases hx : idxOf t ws 0 with
             | some i => rw [hx] at t1; cases t1
             | none => dsimp only; rw [t2]; rfl
           obtain ⟨S2, σ2, g1, g2, g3, g4, g5, g6⟩ := gw_step hs hr q2 q3 (k7.trans q4) qs' hg
           have hat : At (μ vs' H2) a2 w2 := ⟨vs', H2, S2, σ2, g5, g4, hj, rfl, g1, g2, g3, fun j hj => (g6 j hj).trans ((q6 j (by omega)).trans (k8 j hj))⟩
           refine ⟨⟨_, hat⟩, ?_⟩
           have h5 := (least_spec (p := fun m => At m a2 w2) ⟨_, hat⟩).2 _ hat
           rw [k4] at hlt
           exact Nat.lt_of_le_of_lt h5 hlt)
        | exact ⟨env', H', S', σ', q1, q2, q3, k7.trans q4, Nat.le_trans k2 q5, fun j hj => (q6 j (by omega)).trans (k8 j hj)⟩
  | scope x ihx =>
    intro env K a w S σ H hmk hr hs h
    refine wp_scope_straight (wp_mono (ihx env _ a w S σ H hmk hr hs h) fun e a' w' hst => ?_)
    obtain ⟨env', H', S', σ', q1, q2, q3, q4, q5, q6⟩ := hst
    cases e <;> first | exact q1.elim | exact ⟨env', H', S', σ', q1, q2, q3, q4, q5, q6⟩
  | gh x ihx =>
    intro env K a w S σ H hmk hr hs h
    obtain ⟨H2, ⟨g1, g2⟩, h2⟩ := h
    obtain ⟨S2, k1, k2, k3, k4⟩ := g2 w S σ hs
    have e1 : Ext w S σ H w S2 σ H2 := ⟨rfl, rfl, rfl, Nat.le_refl _, fun _ _ _ => rfl, k2, fun b hb => (k3 b hb).elim .inl (fun h => .inr (.inl h)), fun b hb => .inl (k4 b hb), fun _ _ h => h⟩
    refine wp_mono (ihx env K a w S2 σ H2 hmk (hr.ext hs e1) k1 h2) ?_
    rintro e a' w' ⟨env', H', S', σ', q1, q2, q3, q4, q5, q6⟩
    exact ⟨env', H', S', σ', q1, q2, q3, e1.trans q4, Nat.le_trans g1 q5, fun j hj => q6 j (by omega)⟩
def regsF (f : Func) : List Reg := match f.body with
  | some c => regsOf c
  | none => []
def env0 (args : List AV) : Env := fun t => args.getD t .any
/-- a result: a variable, or what lies at an address -/
inductive RV where
  | tm (x : Tmp)
  | ce (x : Tmp) (ty : TypeId)
def RV.var : RV → ResultVar
  | .tm x => .tmp x
  | .ce x ty => .cell x ty
def mkR : List AV → AV
  | [a] => a
  | l => .tup l
def mkV : List Value → Value
  | [a] => a
  | l => .tuple l.toArray
def retL (P : Program) : List RV → Env → List AV → (List AV → AH → Prop) → AH → Prop
  | [], _, acc, k => k acc
  | .tm t :: r, env, acc, k => retL P r env (acc ++ [env t]) k
  | .ce a ty :: r, env, acc, k => match aggB P ty, P.info? ty with
    | some b, some i => RdS P (.ld i.size b) [env a] (fun v => retL P r env (acc ++ [v]) k)
    | _, _ => fun _ => False
def runRV (tmps : Array Value) : ResultVar → Sem Value
  | .tmp t => pure (tmps.getD t undef)
  | .cell a t => do loadVar t (← asAddr (tmps.getD a undef))
theorem Rps.mk {ps : List AV} {vs : List Value} (h : Rps w S σ ps vs) : Rp w S σ (mkR ps) (mkV vs) := by
  obtain ⟨hl, h⟩ := h
  match ps, vs, hl with
  | [], [], _ => exact Rps.tup (by simpa using Rps.nil)
  | [a], [v], _ => exact h 0 a v rfl rfl
  | a :: b :: r, v :: u :: q, hl => exact Rps.tup (by exact ⟨hl, h⟩)
theorem retL_sound {a : Act} {env : Env} (hr : RepE n a w S σ env) (hs : Sat P w S σ H) : ∀ (res : List RV) (acc : List AV) (k : List AV → AH → Prop), retL P res env acc k H →
    ∃ ps vs, k (acc ++ ps) H ∧ Rps w S σ ps vs ∧ ((res.map RV.var).mapM (runRV a.tmps)).run P w = .ok vs w
  | [], acc, k, h => ⟨[], [], by simpa [retL] using h, .nil, rfl⟩
  | .tm t :: r, acc, k, h => by
    obtain ⟨ps, vs, h1, h2, h3⟩ := retL_sound hr hs r _ k h
    exact ⟨env t :: ps, _ :: vs, by simpa using h1, .cons (hr.at_ t) h2, by simp only [List.map_cons, RV.var, List.mapM_cons, runRV, Sem.run_bind, Sem.run_pure, Result.andThen_ok, h3]⟩
  | .ce x ty :: r, acc, k, h => by
    simp only [retL] at h
    cases hb : aggB P ty with
    | none => rw [hb] at h; exact h.elim
    | some b =>
      cases hi : P.info? ty with
      | none => rw [hb, hi] at h; exact h.elim
      | some i =>
        rw [hb, hi] at h
        obtain ⟨v, hv, hk⟩ := h
        obtain ⟨ps, vs, h1, h2, h3⟩ := retL_sound hr hs r _ k hk
        have ho : Val1 P w S σ a.eval { dst := none, op := .load ty (.tmp x), type := ty, pos := "", after := #[], guard := none } v := rd_load hs rfl hb hi hv (hr.evs [.tmp x])
        obtain ⟨u, hu, hru⟩ := ho
        have hl : (do loadVar ty (← asAddr (a.tmps.getD x undef)) : Sem Value).run P w = .ok u w := by
          have hp : ∃ ad, a.tmps.getD x undef = .pointer (some ad) := by
            have hx := hr.at_ x
            cases hv with
            | ld_agg _ _ _ hat _ => obtain ⟨g, off, e, _⟩ := at_sound hs hat hx; exact ⟨_, e⟩
            | ld_one _ _ _ _ hat _ => obtain ⟨g, off, e, _⟩ := at_sound hs hat hx; exact ⟨_, e⟩
          obtain ⟨ad, hp⟩ := hp
          rw [hp]
          have hev : a.eval (.tmp x) = .pointer (some ad) := hp
          simp only [execOp, hev, Instr.loadAt, Instr.sureAddr, Sem.run_bind, Sem.run_pure, Result.andThen_ok] at hu
          simp only [asAddr, Sem.run_bind, Sem.run_pure, Result.andThen_ok]
          cases hq : (loadVar ty ad).run P w with
          | ok q w2 => rw [hq] at hu; simp only [Result.andThen_ok, Result.ok.injEq, Next.value.injEq] at hu; obtain ⟨rfl, rfl⟩ := hu; rfl
          | halt q w2 => rw [hq] at hu; cases hu
        refine ⟨v :: ps, u :: vs, by simpa using h1, .cons hru h2, ?_⟩
        simp only [List.map_cons, RV.var, List.mapM_cons, runRV, Sem.run_bind, hl, Result.andThen_ok, h3, Sem.run_pure]
theorem results_run {fn : Func} {tmps : Array Value} {l : List ResultVar} (h : fn.results = l.toArray) {vs : List Value} (hv : (l.mapM (runRV tmps)).run P w = .ok vs w) : (results fn tmps).run P w = .ok (mkV vs) w := by
  have hf : results fn tmps = (fn.results.mapM (runRV tmps) >>= fun us => pure (if h : us.size = 1 then us[0] else .tuple us)) := by
    unfold results
    congr 2
  rw [hf, h, Array.mapM_eq_mapM_toList, List.toList_toArray]
  simp only [Sem.run_bind, Sem.run_map, hv, Result.andThen_ok, Sem.run_pure]
  match vs with
  | [] => rfl
  | [v] => rfl
  | v :: u :: r => simp [mkV]
def Rt (P : Program) (B : Nat) (r : AV) (Q : AV → AH → Prop) (H : AH) : Prop := Gh P B [r] H (fun vs H2 => ∃ r', vs = [r'] ∧ Q r' H2)
def retK (P : Program) (B : Nat) (res : List RV) (Q : AV → AH → Prop) : Knt
  | .ret, env, H => retL P res env [] (fun l => Rt P B (mkR l) Q) H
  | .normal, env, H => retL P res env [] (fun l => Rt P B (mkR l) Q) H
  | _, _, _ => False
def FnA (P : Program) (n : Nat) (rs : List Reg) (c : AC) (res : List RV) (args : List AV) (H : AH) (Q : AV → AH → Prop) : Prop := wpA P n rs c (env0 args) (retK P H.nx res Q) H
/-- the contract of a function -/
theorem tri_of (hm : P.follows .mixedOrders = true) {f : FuncId} {fn : Func} {body : Code} {c : AC} {res : List RV} {args : List AV} {Q : AV → AH → Prop} (hf : P.funcs[f]? = some fn) (hb : fn.body = some body) (he : erase rs c = body) (hmk : marksOk P rs Ms c = true)
    (hres : fn.results.toList = res.map RV.var) (hn : args.length ≤ fn.ntmps) (h : FnA P fn.ntmps rs c res args H Q) : Tri P f args H Q := by
  intro w S σ us hs hr
  refine calls_of_wp hf hb ?_
  rw [← he]
  have hul : us.length = args.length := hr.1.symm
  have hrep : RepE fn.ntmps { tmps := us.toArray ++ Array.replicate (fn.ntmps - us.toArray.size) undef, defers := [] } w S σ (env0 args) := by
    refine ⟨by simp; omega, rfl, fun t => ?_⟩
    unfold env0
    by_cases ht : t < args.length
    · rw [List.getD_eq_getElem?_getD, List.getElem?_eq_getElem ht, Option.getD_some, Array.getD_eq_getD_getElem?, Array.getElem?_append_left (by simp; omega)]
      have htu : t < us.length := by omega
      rw [List.getElem?_toArray, List.getElem?_eq_getElem htu, Option.getD_some]
      exact hr.2 t _ _ (List.getElem?_eq_getElem ht) (List.getElem?_eq_getElem htu)
    · rw [List.getD_eq_getElem?_getD, List.getElem?_eq_none (by omega), Option.getD_none]
      exact .any _
  refine wp_mono (wpA_sound (Ms := Ms) hm c _ _ _ w S σ H hmk hrep hs h) ?_
  rintro e a' w' ⟨env', H', S', σ', q1, q2, q3, q4, q5, q6⟩
  have fin : ∀ (_ : retL P res env' [] (fun l => Rt P H.nx (mkR l) Q) H'), bodyPost P fn (fun e w' => ∃ v S' σ' r H', e = .returned v ∧ Q r H' ∧ Sat P w' S' σ' H' ∧ Rp w' S' σ' r v ∧ Ext w S σ H w' S' σ' H' ∧ H.nx ≤ H'.nx ∧ ∀ id, id < H.nx → σ' id = σ id) .ret a' w' := by
    intro hret
    obtain ⟨ps, vs, ⟨_, H2, hg, r, rfl, hq⟩, hps, hrun⟩ := retL_sound q2 q3 res [] _ hret
    have hrv := results_run (P := P) (w := w') (tmps := a'.tmps) (Array.toList_inj.1 (by rw [hres]) : fn.results = (res.map RV.var).toArray) hrun
    have hrp : Rps w' S' σ' [mkR ([] ++ ps)] [mkV vs] := .cons (by simpa using hps.mk) .nil
    obtain ⟨S2, σ2, g1, g2, g3, g4, g5, g6, g7⟩ := hg w' S' σ' _ q3 hrp
    refine ⟨q2.defers, _, hrv, _, S2, σ2, r, H2, rfl, hq, g1, g2.2 0 _ _ rfl rfl, ⟨q4.os, q4.tape, q4.output, q4.size, q4.keep, fun b hb => g3 b (q4.sup b hb), fun b hb => ?_, fun b hb => q4.foot b (g5 b hb), fun id u hu => ?_⟩, g7, fun id hid => ?_⟩
    · rcases g4 b hb with h | h
      · exact q4.sub b h
      · exact .inr (q4.foot b h)
    · rw [g6 id (hs.dom _ _ hu)]; exact q4.sig _ _ hu
    · rw [g6 id hid]; exact q6 id hid
  cases e <;> first | exact fin q1 | exact q1.elim
end
end Go.Proofs.Ytcmnjoepadjioaa

/- Abstract walks at this translation. -/
namespace Go.Proofs.Ytcmnjoepadjioaa
open Go.RowKit
theorem mixed : Try.prog.follows .mixedOrders = true := by kernel_rfl
end Go.Proofs.Ytcmnjoepadjioaa

/- Abstract walks of functions, written by a program (wip/aw/aw.py): each equation is checked by the kernel. -/
namespace Go.Proofs.Ytcmnjoepadjioaa
open Go.RowKit

/-! (*wordhoard/prove.arguer).put -/
def ac_arguer_put : AC := (.seq (.reg 0) (.seq (.reg 1) (.seq (.reg 2) (.cond (.tmp 20) (.seq (.reg 3) (.reg 4)) .skip))))
def S_arguer_put (a0 a1 a2 a3 : AV) (Q : AV → AH → Prop) (H : AH) : Prop := (
    Rg 1 fun b =>
    Al (b + 0) (.bx 24) [a2] fun v6 =>
    Vw fun V =>
    Pu Try.prog .nilck [a0] fun v12 =>
    Pu Try.prog (.addOff 1) [v12] fun v13 =>
    Rd Try.prog V (.ld 1 false) [v13] fun v14 =>
    Rd Try.prog V (.ld 3 true) [v6] fun v15 =>
    Rd Try.prog V (.look 24 (.p (.int .i64 0)) true) [v14, v15] fun v16 =>
    Pu Try.prog (.ext 0) [v16] fun _ =>
    Pu Try.prog (.ext 1) [v16] fun v18 =>
    Pu Try.prog (.un .not) [v18] fun v20 =>
    CdA v20
      (
      Rg 11 fun b_12 =>
      Vw fun V_13 =>
      Pu Try.prog .nilck [a0] fun v22 =>
      Pu Try.prog (.addOff 1) [v22] fun v23 =>
      Rd Try.prog V_13 (.ld 1 false) [v23] fun v24 =>
      Rd Try.prog V_13 (.ld 3 true) [v6] fun v25 =>
      Pu Try.prog .nilck [a0] fun v27 =>
      Pu Try.prog (.addOff 0) [v27] fun v28 =>
      Rd Try.prog V_13 (.ld 1 false) [v28] fun v29 =>
      Pu Try.prog .len [v29] fun v30 =>
      Wr Try.prog (b_12 + 10) (.mset 24) [v24, v25, v30] fun _ _ =>
      Rg 14 fun b_24 =>
      Vw fun V_25 =>
      Pu Try.prog .nilck [a0] fun v33 =>
      Pu Try.prog (.addOff 0) [v33] fun v34 =>
      Rd Try.prog V_25 (.ld 1 false) [v34] fun v35 =>
      Rd Try.prog V_25 (.ld 3 true) [v6] fun v37 =>
      Pu Try.prog (.bld [.p (.int .i64 0), .p (.bool false), .p (.int .i64 0), .p (.int .i64 0), .p (.slice none 0 0)] [(0, 1), (1, 3), (4, 1)]) [a1, v37, a3] fun v39 =>
      Al (b_24 + 9) (.bs 36 5 1 [.p (.int .i64 0), .p (.bool false), .p (.int .i64 0), .p (.int .i64 0), .p (.slice none 0 0)] [(0, 5)]) [v39] fun v40 =>
      Wr Try.prog (b_24 + 10) (.app 36 5 56) [v35, v40] fun v41 _ =>
      Pu Try.prog .nilck [a0] fun v42 =>
      Pu Try.prog (.addOff 0) [v42] fun v43 =>
      Wr Try.prog (b_24 + 13) (.st 1) [v43, v41] fun _ _ =>
      Rt Try.prog H.nx (.tup []) Q
      ) (
      Rt Try.prog H.nx (.tup []) Q
      )
    ) H
theorem eq_arguer_put (a0 a1 a2 a3 : AV) (Q : AV → AH → Prop) (H : AH) : FnA Try.prog 44 (regsF Try.f26) ac_arguer_put [] [a0, a1, a2, a3] H Q = S_arguer_put a0 a1 a2 a3 Q H := by kernel_rfl
theorem tri_arguer_put {a0 a1 a2 a3 : AV} {H : AH} {Q : AV → AH → Prop} (h : S_arguer_put a0 a1 a2 a3 Q H) : Tri Try.prog 26 [a0, a1, a2, a3] H Q :=
  tri_of (Ms := [#[], #[0, 1, 3, 7, 0, 31, 63, 127, 127, 255, 1023], #[], #[0, 1, 3, 7, 0, 0, 32, 96, 224, 480, 1023], #[0, 0, 2, 6, 14, 0, 0, 0, 224, 480, 1022, 2047, 4095, 8191]]) mixed Try.func26 rfl (by kernel_rfl) (by kernel_rfl) rfl (of_decide_eq_true rfl : 4 ≤ 44) ((eq_arguer_put a0 a1 a2 a3 Q H).symm ▸ h : FnA Try.prog 44 (regsF Try.f26) ac_arguer_put [] [a0, a1, a2, a3] H Q)

/-! (*wordhoard/prove.arguer).one -/
def ac_arguer_one : AC := (.seq (.reg 0) (.block 0 (.seq (.reg 1) (.cond (.tmp 55) (.seq (.reg 2) (.reg 3)) (.seq (.reg 4) (.seq (.seq (.reg 5) (.cond (.tmp 32) .ret .skip)) (.seq (.reg 6) (.block 1 (.loop [5] [(7, 8), (33, 55)] (.seq (.seq (.reg 7) (.cond (.tmp 34) .skip (.exit 1))) (.seq (.block 2 (.seq (.reg 8) (.block 3 (.loop [42] [(7, 8), (43, 55)] (.seq (.reg 9) (.seq (.cond (.tmp 43) .skip (.exit 3)) (.seq (.block 4 (.seq (.reg 10) (.reg 11))) (.reg 12)))))))) (.reg 13))))))))))))
def S_arguer_one (a0 a1 : AV) (Q : AV → AH → Prop) (H : AH) : Prop := (
    Rg 10 fun b =>
    Pu Try.prog .nilck [a0] fun v9 =>
    Pu Try.prog (.addOff 0) [v9] fun v10 =>
    RdS Try.prog (.ld 1 false) [v10] fun v11 =>
    Pu Try.prog (.idx 5) [v11, a1] fun v13 =>
    Pu Try.prog (.addOff 1) [v13] fun v14 =>
    RdS Try.prog (.ld 3 true) [v14] fun v15 =>
    Al (b + 8) (.nw 24 [.p (.bool false), .p (.int .i64 0), .p (.int .i64 0)]) [] fun v4 =>
    WrS Try.prog (b + 9) (.st 3) [v4, v15] fun _ =>
    Pu Try.prog (.addOff 0) [v4] fun v56 =>
    RdS Try.prog (.ld 1 false) [v56] fun v57 =>
    CdA v57
      (
      Rg 9 fun b_12 =>
      Pu Try.prog (.addOff 2) [v4] fun v59 =>
      RdS Try.prog (.ld 1 false) [v59] fun v60 =>
      Pu Try.prog (.addOff 1) [v4] fun v61 =>
      RdS Try.prog (.ld 1 false) [v61] fun v62 =>
      Pu Try.prog (.bld [.p (.bool false), .p (.int .i64 0), .p (.int .i64 0)] [(0, 1), (1, 1), (2, 1)]) [(.p (.bool true)), v60, v62] fun v63 =>
      Al (b_12 + 7) (.bs 3 1 1 [.p (.int .i64 0)] [(0, 1)]) [a1] fun v65 =>
      Ca Try.prog (.fn (.func 26) [] []) [a0, (.p (.int .i64 7)), v63, v65] fun _ =>
      Rg 9 fun b_20 =>
      Pu Try.prog (.addOff 1) [v4] fun v68 =>
      RdS Try.prog (.ld 1 false) [v68] fun v69 =>
      Pu Try.prog (.addOff 1) [v4] fun v70 =>
      RdS Try.prog (.ld 1 false) [v70] fun v71 =>
      Pu Try.prog (.bld [.p (.bool false), .p (.int .i64 0), .p (.int .i64 0)] [(0, 1), (1, 1), (2, 1)]) [(.p (.bool true)), v69, v71] fun v72 =>
      Al (b_20 + 7) (.bs 3 1 1 [.p (.int .i64 0)] [(0, 1)]) [a1] fun v74 =>
      Ca Try.prog (.fn (.func 26) [] []) [a0, (.p (.int .i64 8)), v72, v74] fun _ =>
      Rt Try.prog H.nx (.tup []) Q
      ) (
      Rg 11 fun b_28 =>
      Pu Try.prog (.addOff 2) [v4] fun v17 =>
      RdS Try.prog (.ld 1 false) [v17] fun v18 =>
      Pu Try.prog (.un .neg) [v18] fun v19 =>
      Pu Try.prog (.addOff 1) [v4] fun v20 =>
      RdS Try.prog (.ld 1 false) [v20] fun v21 =>
      Pu Try.prog (.un .neg) [v21] fun v22 =>
      Pu Try.prog (.bld [.p (.bool false), .p (.int .i64 0), .p (.int .i64 0)] [(1, 1), (2, 1)]) [v19, v22] fun v23 =>
      Al (b_28 + 9) (.bs 3 1 1 [.p (.int .i64 0)] [(0, 1)]) [a1] fun v25 =>
      Ca Try.prog (.fn (.func 26) [] []) [a0, (.p (.int .i64 4)), v23, v25] fun _ =>
      Pu Try.prog (.addOff 2) [v4] fun v27 =>
      RdS Try.prog (.ld 1 false) [v27] fun v28 =>
      Pu Try.prog (.addOff 1) [v4] fun v29 =>
      RdS Try.prog (.ld 1 false) [v29] fun v30 =>
      Pu Try.prog (.un .neg) [v30] fun v31 =>
      Pu Try.prog (.bin .neq 3) [v28, v31] fun v32 =>
      CdA v32
        (
        Rt Try.prog H.nx (.tup []) Q
        ) (
        LoopA Try.prog 1 (fun vs k =>
          Pu Try.prog (.bin .leq 3) [(vs.getD 0 .any), (.p (.int .i64 6))] fun v34 =>
          CdA v34
            (
            Rg 6 fun b_47 =>
            Pu Try.prog (.un .neg) [(vs.getD 0 .any)] fun v39 =>
            Al (b_47 + 3) (.bs 3 1 2 [.p (.int .i64 0)] [(0, 1), (1, 1)]) [(vs.getD 0 .any), v39] fun v40 =>
            Pu Try.prog .len [v40] fun v41 =>
            LoopA Try.prog 1 (fun vs_52 k_51 =>
              Pu Try.prog (.bin .lss 3) [(vs_52.getD 0 .any), v41] fun v43 =>
              CdA v43
                (
                Pu Try.prog (.idx 1) [v40, (vs_52.getD 0 .any)] fun v44 =>
                RdS Try.prog (.ld 1 false) [v44] fun v45 =>
                Rg 8 fun b_56 =>
                Pu Try.prog (.addOff 1) [v4] fun v47 =>
                RdS Try.prog (.ld 1 false) [v47] fun v48 =>
                Pu Try.prog (.bld [.p (.bool false), .p (.int .i64 0), .p (.int .i64 0)] [(1, 1), (2, 1)]) [v48, v45] fun v50 =>
                Al (b_56 + 6) (.bs 3 1 1 [.p (.int .i64 0)] [(0, 1)]) [a1] fun v52 =>
                Ca Try.prog (.fn (.func 26) [] []) [a0, (.p (.int .i64 5)), v50, v52] fun _ =>
                Pu Try.prog (.bin .add 3) [(vs_52.getD 0 .any), (.p (.int .i64 1))] fun v54 =>
                k_51 [v54]
                ) (
                Pu Try.prog (.bin .add 3) [(vs.getD 0 .any), (.p (.int .i64 1))] fun v36 =>
                k [v36]
                )
              ) [(.p (.int .i64 0))]
            ) (
            Rt Try.prog H.nx (.tup []) Q
            )
          ) [(.p (.int .i64 1))]
        )
      )
    ) H
theorem eq_arguer_one (a0 a1 : AV) (Q : AV → AH → Prop) (H : AH) : FnA Try.prog 76 (regsF Try.f27) ac_arguer_one [] [a0, a1] H Q = S_arguer_one a0 a1 Q H := by kernel_rfl
theorem tri_arguer_one {a0 a1 : AV} {H : AH} {Q : AV → AH → Prop} (h : S_arguer_one a0 a1 Q H) : Tri Try.prog 27 [a0, a1] H Q :=
  tri_of (Ms := [#[], #[], #[], #[], #[], #[], #[], #[], #[], #[], #[], #[], #[], #[]]) mixed Try.func27 rfl (by kernel_rfl) (by kernel_rfl) rfl (of_decide_eq_true rfl : 2 ≤ 76) ((eq_arguer_one a0 a1 Q H).symm ▸ h : FnA Try.prog 76 (regsF Try.f27) ac_arguer_one [] [a0, a1] H Q)

/-! (*wordhoard/prove.arguer).two -/
def ac_arguer_two : AC := (.seq (.reg 0) (.block 0 (.seq (.reg 1) (.cond (.tmp 24) .skip (.seq (.reg 2) (.cond (.tmp 27) (.reg 3) (.seq (.reg 4) (.cond (.tmp 48) (.reg 5) .skip))))))))
def S_arguer_two (a0 a1 a2 : AV) (Q : AV → AH → Prop) (H : AH) : Prop := (
    Rg 20 fun b =>
    Vw fun V =>
    Pu Try.prog .nilck [a0] fun v9 =>
    Pu Try.prog (.addOff 0) [v9] fun v10 =>
    Rd Try.prog V (.ld 1 false) [v10] fun v11 =>
    Pu Try.prog (.idx 5) [v11, a1] fun v13 =>
    Pu Try.prog (.addOff 1) [v13] fun v14 =>
    Rd Try.prog V (.ld 3 true) [v14] fun v15 =>
    Pu Try.prog .nilck [a0] fun v17 =>
    Pu Try.prog (.addOff 0) [v17] fun v18 =>
    Rd Try.prog V (.ld 1 false) [v18] fun v19 =>
    Pu Try.prog (.idx 5) [v19, a2] fun v21 =>
    Pu Try.prog (.addOff 1) [v21] fun v22 =>
    Rd Try.prog V (.ld 3 true) [v22] fun v23 =>
    Al (b + 16) (.nw 24 [.p (.bool false), .p (.int .i64 0), .p (.int .i64 0)]) [] fun v6 =>
    Al (b + 17) (.nw 24 [.p (.bool false), .p (.int .i64 0), .p (.int .i64 0)]) [] fun v7 =>
    WrF V (some (b + 16)) none (b + 18) (.st 3) [v6, v15] fun _ =>
    WrF V (some (b + 17)) none (b + 19) (.st 3) [v7, v23] fun _ =>
    Pu Try.prog (.addOff 0) [v7] fun v25 =>
    RdS Try.prog (.ld 1 false) [v25] fun v26 =>
    CdA v26
      (
      Rt Try.prog H.nx (.tup []) Q
      ) (
      Pu Try.prog (.addOff 0) [v6] fun v28 =>
      RdS Try.prog (.ld 1 false) [v28] fun v29 =>
      Pu Try.prog (.un .not) [v29] fun v30 =>
      Gd v30 true (fun k => Pu Try.prog (.addOff 2) [v6] k) fun v32 =>
      Gd v30 true (fun k_27 => RdS Try.prog (.ld 1 false) [v32] k_27) fun v33 =>
      Gd v30 true (fun k_29 => Pu Try.prog (.addOff 1) [v7] k_29) fun v34 =>
      Gd v30 true (fun k_31 => RdS Try.prog (.ld 1 false) [v34] k_31) fun v35 =>
      Gd v30 true (fun k_33 => Pu Try.prog (.bin .eql 3) [v33, v35] k_33) fun v36 =>
      Pu Try.prog .pick [v30, v36, (.p (.bool false))] fun v37 =>
      CdA v37
        (
        Rg 10 fun b_35 =>
        Pu Try.prog (.addOff 1) [v6] fun v39 =>
        RdS Try.prog (.ld 1 false) [v39] fun v40 =>
        Pu Try.prog (.addOff 2) [v7] fun v41 =>
        RdS Try.prog (.ld 1 false) [v41] fun v42 =>
        Pu Try.prog (.bld [.p (.bool false), .p (.int .i64 0), .p (.int .i64 0)] [(1, 1), (2, 1)]) [v40, v42] fun v43 =>
        Al (b_35 + 8) (.bs 3 1 2 [.p (.int .i64 0)] [(0, 1), (1, 1)]) [a1, a2] fun v46 =>
        Ca Try.prog (.fn (.func 26) [] []) [a0, (.p (.int .i64 3)), v43, v46] fun _ =>
        Rt Try.prog H.nx (.tup []) Q
        ) (
        Pu Try.prog (.addOff 0) [v6] fun v49 =>
        RdS Try.prog (.ld 1 false) [v49] fun v50 =>
        Gd v50 true (fun k_46 => Pu Try.prog (.addOff 2) [v6] k_46) fun v52 =>
        Gd v50 true (fun k_48 => RdS Try.prog (.ld 1 false) [v52] k_48) fun v53 =>
        Gd v50 true (fun k_50 => Pu Try.prog (.addOff 1) [v7] k_50) fun v54 =>
        Gd v50 true (fun k_52 => RdS Try.prog (.ld 1 false) [v54] k_52) fun v55 =>
        Gd v50 true (fun k_54 => Pu Try.prog (.bin .eql 3) [v53, v55] k_54) fun v56 =>
        Pu Try.prog .pick [v50, v56, (.p (.bool false))] fun v57 =>
        CdA v57
          (
          Rg 10 fun b_56 =>
          Pu Try.prog (.addOff 1) [v6] fun v59 =>
          RdS Try.prog (.ld 1 false) [v59] fun v60 =>
          Pu Try.prog (.addOff 2) [v7] fun v61 =>
          RdS Try.prog (.ld 1 false) [v61] fun v62 =>
          Pu Try.prog (.bld [.p (.bool false), .p (.int .i64 0), .p (.int .i64 0)] [(0, 1), (1, 1), (2, 1)]) [(.p (.bool true)), v60, v62] fun v63 =>
          Al (b_56 + 8) (.bs 3 1 2 [.p (.int .i64 0)] [(0, 1), (1, 1)]) [a1, a2] fun v66 =>
          Ca Try.prog (.fn (.func 26) [] []) [a0, (.p (.int .i64 9)), v63, v66] fun _ =>
          Rt Try.prog H.nx (.tup []) Q
          ) (
          Rt Try.prog H.nx (.tup []) Q
          )
        )
      )
    ) H
theorem eq_arguer_two (a0 a1 a2 : AV) (Q : AV → AH → Prop) (H : AH) : FnA Try.prog 68 (regsF Try.f28) ac_arguer_two [] [a0, a1, a2] H Q = S_arguer_two a0 a1 a2 Q H := by kernel_rfl
theorem tri_arguer_two {a0 a1 a2 : AV} {H : AH} {Q : AV → AH → Prop} (h : S_arguer_two a0 a1 a2 Q H) : Tri Try.prog 28 [a0, a1, a2] H Q :=
  tri_of (Ms := [#[0, 1, 3, 7, 0, 31, 63, 127, 0, 256, 768, 1792, 0, 7936, 16128, 32512, 0, 0, 196863, 524287], #[], #[], #[], #[], #[]]) mixed Try.func28 rfl (by kernel_rfl) (by kernel_rfl) rfl (of_decide_eq_true rfl : 3 ≤ 68) ((eq_arguer_two a0 a1 a2 Q H).symm ▸ h : FnA Try.prog 68 (regsF Try.f28) ac_arguer_two [] [a0, a1, a2] H Q)

/-! (*wordhoard/prove.arguer).needed -/
def ac_arguer_needed : AC := (.seq (.reg 0) (.seq (.reg 1) (.seq (.reg 2) (.seq (.seq (.reg 3) (.block 0 (.loop [6] [(8, 9), (24, 60)] (.seq (.seq (.reg 4) (.cond (.tmp 25) .skip (.exit 0))) (.seq (.block 1 (.seq (.reg 5) (.cond (.tmp 42) (.seq (.reg 6) (.block 2 (.loop [52] [(8, 9), (53, 60)] (.seq (.reg 7) (.seq (.cond (.tmp 53) .skip (.exit 2)) (.seq (.block 3 (.seq (.reg 8) (.reg 9))) (.reg 10))))))) .skip))) (.reg 11)))))) (.seq (.reg 12) (.seq (.reg 13) (.seq (.seq (.reg 14) (.block 4 (.loop [10, 68] [(11, 14), (69, 119)] (.seq (.reg 15) (.seq (.cond (.tmp 69) .skip (.exit 4)) (.seq (.block 5 (.seq (.reg 16) (.seq (.seq (.reg 17) (.cond (.tmp 75) (.exit 5) .skip)) (.seq (.reg 18) (.seq (.reg 19) (.seq (.reg 20) (.seq (.seq (.reg 21) (.cond (.tmp 94) (.seq (.reg 22) (.block 6 (.loop [98] [(13, 14), (99, 114)] (.seq (.reg 23) (.seq (.cond (.tmp 99) .skip (.exit 6)) (.seq (.block 7 (.seq (.reg 24) (.reg 25))) (.reg 26))))))) .skip)) (.gh (.reg 27))))))))) (.reg 28))))))) (.seq (.reg 29) .ret))))))))
def S_arguer_needed (a0 a1 : AV) (Q : AV → AH → Prop) (H : AH) : Prop := (
    Rg 7 fun b =>
    Pu Try.prog .nilck [a0] fun v15 =>
    Pu Try.prog (.addOff 0) [v15] fun v16 =>
    RdS Try.prog (.ld 1 false) [v16] fun v17 =>
    Pu Try.prog .len [v17] fun v18 =>
    Al (b + 5) (.ms 4 1 1 [.p (.bool false)]) [v18, v18] fun v19 =>
    Rg 4 fun b_7 =>
    Pu Try.prog (.idx 1) [v19, a1] fun v22 =>
    WrS Try.prog (b_7 + 3) (.st 1) [v22, (.p (.bool true))] fun _ =>
    LoopA Try.prog 1 (fun vs k =>
      Pu Try.prog (.bin .geq 3) [(vs.getD 0 .any), (.p (.int .i64 0))] fun v25 =>
      CdA v25
        (
        Pu Try.prog (.idx 1) [v19, (vs.getD 0 .any)] fun v30 =>
        RdS Try.prog (.ld 1 false) [v30] fun v31 =>
        Gd v31 true (fun k_16 => k_16 a0) fun v33 =>
        Gd v31 true (fun k_18 => Pu Try.prog .nilck [v33] k_18) fun v34 =>
        Gd v31 true (fun k_20 => Pu Try.prog (.addOff 0) [v34] k_20) fun v35 =>
        Gd v31 true (fun k_22 => RdS Try.prog (.ld 1 false) [v35] k_22) fun v36 =>
        Gd v31 true (fun k_24 => k_24 (vs.getD 0 .any)) fun v37 =>
        Gd v31 true (fun k_26 => Pu Try.prog (.idx 5) [v36, v37] k_26) fun v38 =>
        Gd v31 true (fun k_28 => Pu Try.prog (.addOff 0) [v38] k_28) fun v39 =>
        Gd v31 true (fun k_30 => RdS Try.prog (.ld 1 false) [v39] k_30) fun v40 =>
        Gd v31 true (fun k_32 => Pu Try.prog (.bin .neq 3) [v40, (.p (.int .i64 1))] k_32) fun v41 =>
        Pu Try.prog .pick [v31, v41, (.p (.bool false))] fun v42 =>
        CdA v42
          (
          Pu Try.prog .nilck [a0] fun v44 =>
          Pu Try.prog (.addOff 0) [v44] fun v45 =>
          RdS Try.prog (.ld 1 false) [v45] fun v46 =>
          Pu Try.prog (.idx 5) [v46, (vs.getD 0 .any)] fun v48 =>
          Pu Try.prog (.addOff 4) [v48] fun v49 =>
          RdS Try.prog (.ld 1 false) [v49] fun v50 =>
          Pu Try.prog .len [v50] fun v51 =>
          LoopA Try.prog 1 (fun vs_42 k_41 =>
            Pu Try.prog (.bin .lss 3) [(vs_42.getD 0 .any), v51] fun v53 =>
            CdA v53
              (
              Pu Try.prog (.idx 1) [v50, (vs_42.getD 0 .any)] fun v54 =>
              RdS Try.prog (.ld 1 false) [v54] fun v55 =>
              Rg 4 fun b_46 =>
              Pu Try.prog (.idx 1) [v19, v55] fun v58 =>
              WrS Try.prog (b_46 + 3) (.st 1) [v58, (.p (.bool true))] fun _ =>
              Pu Try.prog (.bin .add 3) [(vs_42.getD 0 .any), (.p (.int .i64 1))] fun v59 =>
              k_41 [v59]
              ) (
              Pu Try.prog (.bin .sub 3) [(vs.getD 0 .any), (.p (.int .i64 1))] fun v27 =>
              k [v27]
              )
            ) [(.p (.int .i64 0))]
          ) (
          Pu Try.prog (.bin .sub 3) [(vs.getD 0 .any), (.p (.int .i64 1))] fun v27_51 =>
          k [v27_51]
          )
        ) (
        Rg 7 fun b_52 =>
        Pu Try.prog .nilck [a0] fun v61 =>
        Pu Try.prog (.addOff 0) [v61] fun v62 =>
        RdS Try.prog (.ld 1 false) [v62] fun v63 =>
        Pu Try.prog .len [v63] fun v64 =>
        Al (b_52 + 5) (.ms 3 1 8 [.p (.int .i64 0)]) [v64, v64] fun v65 =>
        Pu Try.prog (.bin .add 3) [a1, (.p (.int .i64 1))] fun v67 =>
        LoopA Try.prog 2 (fun vs_60 k_59 =>
          Pu Try.prog (.bin .lss 3) [(vs_60.getD 1 .any), v67] fun v69 =>
          CdA v69
            (
            Pu Try.prog (.idx 1) [v19, (vs_60.getD 1 .any)] fun v73 =>
            RdS Try.prog (.ld 1 false) [v73] fun v74 =>
            Pu Try.prog (.un .not) [v74] fun v75 =>
            CdA v75
              (
              Pu Try.prog (.bin .add 3) [(vs_60.getD 1 .any), (.p (.int .i64 1))] fun v118 =>
              k_59 [(vs_60.getD 0 .any), v118]
              ) (
              Rg 6 fun b_66 =>
              Pu Try.prog .len [(vs_60.getD 0 .any)] fun v79 =>
              Pu Try.prog (.idx 1) [v65, (vs_60.getD 1 .any)] fun v80 =>
              WrS Try.prog (b_66 + 5) (.st 1) [v80, v79] fun _ =>
              Rg 9 fun b_70 =>
              Pu Try.prog .nilck [a0] fun v82 =>
              Pu Try.prog (.addOff 0) [v82] fun v83 =>
              RdS Try.prog (.ld 1 false) [v83] fun v84 =>
              Pu Try.prog (.idx 5) [v84, (vs_60.getD 1 .any)] fun v86 =>
              RdS Try.prog (.ld 5 true) [v86] fun v87 =>
              Al (b_70 + 7) (.nw 36 [.p (.int .i64 0), .p (.bool false), .p (.int .i64 0), .p (.int .i64 0), .p (.slice none 0 0)]) [] fun v12 =>
              WrS Try.prog (b_70 + 8) (.st 5) [v12, v87] fun _ =>
              Rg 5 fun b_78 =>
              Pu Try.prog (.addOff 4) [v12] fun v88 =>
              RdS Try.prog (.ld 1 false) [v88] fun v89 =>
              Ca Try.prog (.fn (.func 43) [] []) [v89] fun v90 =>
              Pu Try.prog (.addOff 4) [v12] fun v91 =>
              WrS Try.prog (b_78 + 4) (.st 1) [v91, v90] fun _ =>
              Pu Try.prog (.addOff 0) [v12] fun v92 =>
              RdS Try.prog (.ld 1 false) [v92] fun v93 =>
              Pu Try.prog (.bin .neq 3) [v93, (.p (.int .i64 1))] fun v94 =>
              CdA v94
                (
                Pu Try.prog (.addOff 4) [v12] fun v95 =>
                RdS Try.prog (.ld 1 false) [v95] fun v96 =>
                Pu Try.prog .len [v96] fun v97 =>
                LoopA Try.prog 1 (fun vs_91 k_90 =>
                  Pu Try.prog (.bin .lss 3) [(vs_91.getD 0 .any), v97] fun v99 =>
                  CdA v99
                    (
                    Rg 13 fun b_93 =>
                    Vw fun V =>
                    Pu Try.prog (.addOff 4) [v12] fun v101 =>
                    Rd Try.prog V (.ld 1 false) [v101] fun v102 =>
                    Pu Try.prog (.addOff 4) [v12] fun v105 =>
                    Rd Try.prog V (.ld 1 false) [v105] fun v106 =>
                    Pu Try.prog (.idx 1) [v106, (vs_91.getD 0 .any)] fun v108 =>
                    Rd Try.prog V (.ld 1 false) [v108] fun v109 =>
                    Pu Try.prog (.idx 1) [v65, v109] fun v110 =>
                    Rd Try.prog V (.ld 1 false) [v110] fun v111 =>
                    Pu Try.prog (.idx 1) [v102, (vs_91.getD 0 .any)] fun v112 =>
                    Wr Try.prog (b_93 + 12) (.st 1) [v112, v111] fun _ _ =>
                    Pu Try.prog (.bin .add 3) [(vs_91.getD 0 .any), (.p (.int .i64 1))] fun v113 =>
                    k_90 [v113]
                    ) (
                    Gq Try.prog <|
                    Rg 5 fun b_107 =>
                    RdS Try.prog (.ld 5 true) [v12] fun v115 =>
                    Al (b_107 + 2) (.bs 36 5 1 [.p (.int .i64 0), .p (.bool false), .p (.int .i64 0), .p (.int .i64 0), .p (.slice none 0 0)] [(0, 5)]) [v115] fun v116 =>
                    WrS Try.prog (b_107 + 3) (.app 36 5 56) [(vs_60.getD 0 .any), v116] fun v117 =>
                    Pu Try.prog (.bin .add 3) [(vs_60.getD 1 .any), (.p (.int .i64 1))] fun v118_111 =>
                    k_59 [v117, v118_111]
                    )
                  ) [(.p (.int .i64 0))]
                ) (
                Gq Try.prog <|
                Rg 5 fun b_112 =>
                RdS Try.prog (.ld 5 true) [v12] fun v115_113 =>
                Al (b_112 + 2) (.bs 36 5 1 [.p (.int .i64 0), .p (.bool false), .p (.int .i64 0), .p (.int .i64 0), .p (.slice none 0 0)] [(0, 5)]) [v115_113] fun v116_114 =>
                WrS Try.prog (b_112 + 3) (.app 36 5 56) [(vs_60.getD 0 .any), v116_114] fun v117_115 =>
                Pu Try.prog (.bin .add 3) [(vs_60.getD 1 .any), (.p (.int .i64 1))] fun v118_116 =>
                k_59 [v117_115, v118_116]
                )
              )
            ) (
            Rt Try.prog H.nx (vs_60.getD 0 .any) Q
            )
          ) [(.p (.slice none 0 0)), (.p (.int .i64 0))]
        )
      ) [a1]
    ) H
theorem eq_arguer_needed (a0 a1 : AV) (Q : AV → AH → Prop) (H : AH) : FnA Try.prog 120 (regsF Try.f29) ac_arguer_needed [.tm 4] [a0, a1] H Q = S_arguer_needed a0 a1 Q H := by kernel_rfl
theorem tri_arguer_needed {a0 a1 : AV} {H : AH} {Q : AV → AH → Prop} (h : S_arguer_needed a0 a1 Q H) : Tri Try.prog 29 [a0, a1] H Q :=
  tri_of (Ms := [#[], #[], #[], #[], #[], #[], #[], #[], #[], #[], #[], #[], #[], #[], #[], #[], #[], #[], #[], #[], #[], #[], #[], #[], #[], #[0, 1, 0, 0, 0, 16, 0, 112, 240, 504, 1016, 2047, 4095], #[], #[], #[], #[]]) mixed Try.func29 rfl (by kernel_rfl) (by kernel_rfl) rfl (of_decide_eq_true rfl : 2 ≤ 120) ((eq_arguer_needed a0 a1 Q H).symm ▸ h : FnA Try.prog 120 (regsF Try.f29) ac_arguer_needed [.tm 4] [a0, a1] H Q)

/-! (*wordhoard/prove.arguer).clash -/
def ac_arguer_clash : AC := (.seq (.reg 0) (.seq (.seq (.reg 1) (.block 0 (.loop [15] [(2, 10), (16, 45)] (.seq (.reg 2) (.seq (.cond (.tmp 16) .skip (.exit 0)) (.seq (.block 1 (.seq (.reg 3) (.seq (.reg 4) (.seq (.reg 5) (.seq (.reg 6) (.cond (.tmp 41) (.seq (.reg 7) .ret) .skip)))))) (.reg 8))))))) (.seq (.reg 9) .ret)))
def S_arguer_clash (a0 : AV) (Q : AV → AH → Prop) (H : AH) : Prop := (
    Pu Try.prog .nilck [a0] fun v11 =>
    Pu Try.prog (.addOff 0) [v11] fun v12 =>
    RdS Try.prog (.ld 1 false) [v12] fun v13 =>
    Pu Try.prog .len [v13] fun v14 =>
    LoopA Try.prog 1 (fun vs k =>
      Pu Try.prog (.bin .lss 3) [(vs.getD 0 .any), v14] fun v16 =>
      CdA v16
        (
        Rg 6 fun b =>
        Pu Try.prog (.idx 5) [v13, (vs.getD 0 .any)] fun v18 =>
        RdS Try.prog (.ld 5 true) [v18] fun v19 =>
        Al (b + 3) (.nw 36 [.p (.int .i64 0), .p (.bool false), .p (.int .i64 0), .p (.int .i64 0), .p (.slice none 0 0)]) [] fun v6 =>
        WrS Try.prog (b + 5) (.st 5) [v6, v19] fun _ =>
        Rg 4 fun b_13 =>
        Pu Try.prog (.addOff 1) [v6] fun v20 =>
        RdS Try.prog (.ld 3 true) [v20] fun v21 =>
        Al (b_13 + 2) (.nw 24 [.p (.bool false), .p (.int .i64 0), .p (.int .i64 0)]) [] fun v7 =>
        WrS Try.prog (b_13 + 3) (.st 3) [v7, v21] fun _ =>
        Vw fun V =>
        Pu Try.prog .nilck [a0] fun v24 =>
        Pu Try.prog (.addOff 1) [v24] fun v25 =>
        Rd Try.prog V (.ld 1 false) [v25] fun v26 =>
        Pu Try.prog (.addOff 1) [v7] fun v27 =>
        Rd Try.prog V (.ld 1 false) [v27] fun v28 =>
        Pu Try.prog (.addOff 2) [v7] fun v29 =>
        Rd Try.prog V (.ld 1 false) [v29] fun v30 =>
        Pu Try.prog (.un .neg) [v30] fun v31 =>
        Pu Try.prog (.bld [.p (.bool false), .p (.int .i64 0), .p (.int .i64 0)] [(0, 1), (1, 1), (2, 1)]) [(.p (.bool true)), v28, v31] fun v32 =>
        Rd Try.prog V (.look 24 (.p (.int .i64 0)) true) [v26, v32] fun v33 =>
        Pu Try.prog (.ext 0) [v33] fun v34 =>
        Pu Try.prog (.ext 1) [v33] fun v35 =>
        Pu Try.prog (.addOff 0) [v7] fun v36 =>
        RdS Try.prog (.ld 1 false) [v36] fun v37 =>
        Pu Try.prog (.un .not) [v37] fun v38 =>
        Gd v38 true (fun k_35 => k_35 v35) fun v40 =>
        Pu Try.prog .pick [v38, v40, (.p (.bool false))] fun v41 =>
        CdA v41
          (
          Rt Try.prog H.nx (.tup [(vs.getD 0 .any), v34, (.p (.bool true))]) Q
          ) (
          Pu Try.prog (.bin .add 3) [(vs.getD 0 .any), (.p (.int .i64 1))] fun v44 =>
          k [v44]
          )
        ) (
        Rt Try.prog H.nx (.tup [(.p (.int .i64 0)), (.p (.int .i64 0)), (.p (.bool false))]) Q
        )
      ) [(.p (.int .i64 0))]
    ) H
theorem eq_arguer_clash (a0 : AV) (Q : AV → AH → Prop) (H : AH) : FnA Try.prog 45 (regsF Try.f30) ac_arguer_clash [.tm 2, .tm 3, .tm 4] [a0] H Q = S_arguer_clash a0 Q H := by kernel_rfl
theorem tri_arguer_clash {a0 : AV} {H : AH} {Q : AV → AH → Prop} (h : S_arguer_clash a0 Q H) : Tri Try.prog 30 [a0] H Q :=
  tri_of (Ms := [#[], #[], #[], #[], #[], #[0, 1, 3, 7, 0, 16, 0, 64, 192, 496, 1023, 2047, 4095, 4095, 8191, 32767], #[], #[], #[], #[]]) mixed Try.func30 rfl (by kernel_rfl) (by kernel_rfl) rfl (of_decide_eq_true rfl : 1 ≤ 45) ((eq_arguer_clash a0 Q H).symm ▸ h : FnA Try.prog 45 (regsF Try.f30) ac_arguer_clash [.tm 2, .tm 3, .tm 4] [a0] H Q)

/-! wordhoard/prove.Argue -/
def ac_prove_Argue : AC := (.seq (.reg 0) (.seq (.seq (.reg 1) (.seq (.reg 2) (.cond (.tmp 24) (.seq (.reg 3) .ret) .skip))) (.seq (.reg 4) (.seq (.seq (.reg 5) (.block 0 (.loop [31] [(9, 11), (32, 42)] (.seq (.reg 6) (.seq (.cond (.tmp 32) .skip (.exit 0)) (.seq (.block 1 (.seq (.reg 7) (.reg 8))) (.reg 9))))))) (.seq (.seq (.reg 10) (.block 2 (.loop [11] [(42, 58)] (.seq (.seq (.reg 11) (.cond (.tmp 43) .skip (.exit 2))) (.seq (.block 3 (.seq (.reg 12) (.reg 13))) (.reg 14)))))) (.seq (.seq (.reg 15) (.block 4 (.loop [12] [(13, 14), (58, 84)] (.seq (.seq (.reg 16) (.cond (.tmp 64) .skip (.exit 4))) (.seq (.block 5 (.seq (.reg 17) (.seq (.reg 18) (.block 6 (.loop [72] [(13, 14), (73, 84)] (.seq (.reg 19) (.seq (.cond (.tmp 73) .skip (.exit 6)) (.seq (.block 7 (.seq (.reg 20) (.seq (.reg 21) (.reg 22)))) (.reg 23))))))))) (.reg 24)))))) (.seq (.seq (.reg 25) (.seq (.reg 26) (.cond (.tmp 93) (.seq (.reg 27) .ret) .skip))) (.seq (.seq (.reg 28) (.seq (.reg 29) (.cond (.tmp 103) (.seq (.reg 30) (.seq (.reg 31) .ret)) .skip))) (.seq (.reg 32) .ret)))))))))
def S_prove_Argue (a0 a1 : AV) (Q : AV → AH → Prop) (H : AH) : Prop := (
    Rg 4 fun b =>
    Al (b + 0) (.bx 24) [a1] fun v3 =>
    Rg 5 fun b_3 =>
    RdS Try.prog (.ld 3 true) [v3] fun v20 =>
    Al (b_3 + 2) (.bs 24 3 1 [.p (.bool false), .p (.int .i64 0), .p (.int .i64 0)] [(0, 3)]) [v20] fun v21 =>
    Ca Try.prog (.fn (.func 24) [] []) [a0, v21] fun v22 =>
    Pu Try.prog (.bin .neq 25) [v22, (.p (.int .i64 0))] fun v24 =>
    CdA v24
      (
      Rt Try.prog H.nx (.tup [(.p (.slice none 0 0)), (.p (.bool false)), v22]) Q
      ) (
      Rg 4 fun b_8 =>
      Al (b_8 + 0) (.mm 24) [] fun v26 =>
      Pu Try.prog (.bld [.p (.slice none 0 0), .p (.map none)] [(1, 1)]) [v26] fun v27 =>
      Al (b_8 + 2) (.bx 52) [v27] fun v28 =>
      Pu Try.prog .len [a0] fun v30 =>
      LoopA Try.prog 1 (fun vs k =>
        Pu Try.prog (.bin .lss 3) [(vs.getD 0 .any), v30] fun v32 =>
        CdA v32
          (
          Rg 6 fun b_16 =>
          Pu Try.prog (.idx 3) [a0, (vs.getD 0 .any)] fun v34 =>
          RdS Try.prog (.ld 3 true) [v34] fun v35 =>
          Al (b_16 + 3) (.nw 24 [.p (.bool false), .p (.int .i64 0), .p (.int .i64 0)]) [] fun v10 =>
          WrS Try.prog (b_16 + 5) (.st 3) [v10, v35] fun _ =>
          Rg 5 fun b_21 =>
          RdS Try.prog (.ld 3 true) [v10] fun v37 =>
          Al (b_21 + 3) (.bs 3 1 1 [.p (.int .i64 0)] [(0, 1)]) [(vs.getD 0 .any)] fun v39 =>
          Ca Try.prog (.fn (.func 26) [] []) [v28, (.p (.int .i64 1)), v37, v39] fun _ =>
          Pu Try.prog (.bin .add 3) [(vs.getD 0 .any), (.p (.int .i64 1))] fun v41 =>
          k [v41]
          ) (
          LoopA Try.prog 1 (fun vs_27 k_26 =>
            Pu Try.prog (.bin .leq 3) [(vs_27.getD 0 .any), (.p (.int .i64 6))] fun v43 =>
            CdA v43
              (
              Pu Try.prog (.bld [.p (.bool false), .p (.int .i64 0), .p (.int .i64 0)] [(1, 1), (2, 1)]) [(vs_27.getD 0 .any), (vs_27.getD 0 .any)] fun v49 =>
              Ca Try.prog (.fn (.func 26) [] []) [v28, (.p (.int .i64 2)), v49, (.p (.slice none 0 0))] fun _ =>
              Pu Try.prog (.un .neg) [(vs_27.getD 0 .any)] fun v53 =>
              Pu Try.prog (.un .neg) [(vs_27.getD 0 .any)] fun v55 =>
              Pu Try.prog (.bld [.p (.bool false), .p (.int .i64 0), .p (.int .i64 0)] [(1, 1), (2, 1)]) [v53, v55] fun v56 =>
              Ca Try.prog (.fn (.func 26) [] []) [v28, (.p (.int .i64 2)), v56, (.p (.slice none 0 0))] fun _ =>
              Pu Try.prog (.bin .add 3) [(vs_27.getD 0 .any), (.p (.int .i64 1))] fun v45 =>
              k_26 [v45]
              ) (
              LoopA Try.prog 1 (fun vs_37 k_36 =>
                Pu Try.prog .nilck [v28] fun v60 =>
                Pu Try.prog (.addOff 0) [v60] fun v61 =>
                RdS Try.prog (.ld 1 false) [v61] fun v62 =>
                Pu Try.prog .len [v62] fun v63 =>
                Pu Try.prog (.bin .lss 3) [(vs_37.getD 0 .any), v63] fun v64 =>
                CdA v64
                  (
                  Ca Try.prog (.fn (.func 27) [] []) [v28, (vs_37.getD 0 .any)] fun _ =>
                  Pu Try.prog (.bin .add 3) [(vs_37.getD 0 .any), (.p (.int .i64 1))] fun v71 =>
                  LoopA Try.prog 1 (fun vs_46 k_45 =>
                    Pu Try.prog (.bin .lss 3) [(vs_46.getD 0 .any), v71] fun v73 =>
                    CdA v73
                      (
                      Ca Try.prog (.fn (.func 28) [] []) [v28, (vs_37.getD 0 .any), (vs_46.getD 0 .any)] fun _ =>
                      Ca Try.prog (.fn (.func 28) [] []) [v28, (vs_46.getD 0 .any), (vs_37.getD 0 .any)] fun _ =>
                      Pu Try.prog (.bin .add 3) [(vs_46.getD 0 .any), (.p (.int .i64 1))] fun v83 =>
                      k_45 [v83]
                      ) (
                      Pu Try.prog (.bin .add 3) [(vs_37.getD 0 .any), (.p (.int .i64 1))] fun v66 =>
                      k_36 [v66]
                      )
                    ) [(.p (.int .i64 0))]
                  ) (
                  Vw fun V =>
                  Pu Try.prog .nilck [v28] fun v86 =>
                  Pu Try.prog (.addOff 1) [v86] fun v87 =>
                  Rd Try.prog V (.ld 1 false) [v87] fun v88 =>
                  Rd Try.prog V (.ld 3 true) [v3] fun v89 =>
                  Rd Try.prog V (.look 24 (.p (.int .i64 0)) true) [v88, v89] fun v90 =>
                  Pu Try.prog (.ext 0) [v90] fun v91 =>
                  Pu Try.prog (.ext 1) [v90] fun v92 =>
                  CdA v92
                    (
                    Ca Try.prog (.fn (.func 29) [] []) [v28, v91] fun v96 =>
                    Rt Try.prog H.nx (.tup [v96, (.p (.bool true)), (.p (.int .i64 0))]) Q
                    ) (
                    Ca Try.prog (.fn (.func 30) [] []) [v28] fun v99 =>
                    Pu Try.prog (.ext 0) [v99] fun v100 =>
                    Pu Try.prog (.ext 1) [v99] fun v101 =>
                    Pu Try.prog (.ext 2) [v99] fun v102 =>
                    CdA v102
                      (
                      Rg 6 fun b_65 =>
                      RdS Try.prog (.ld 3 true) [v3] fun v105 =>
                      Al (b_65 + 4) (.bs 3 1 2 [.p (.int .i64 0)] [(0, 1), (1, 1)]) [v100, v101] fun v108 =>
                      Ca Try.prog (.fn (.func 26) [] []) [v28, (.p (.int .i64 10)), v105, v108] fun _ =>
                      Vw fun V_69 =>
                      Pu Try.prog .nilck [v28] fun v112 =>
                      Pu Try.prog (.addOff 1) [v112] fun v113 =>
                      Rd Try.prog V_69 (.ld 1 false) [v113] fun v114 =>
                      Rd Try.prog V_69 (.ld 3 true) [v3] fun v115 =>
                      Rd Try.prog V_69 (.look 24 (.p (.int .i64 0)) false) [v114, v115] fun v116 =>
                      CaV Try.prog V_69 (.fn (.func 29) [] []) [v28, v116] fun v117 =>
                      Rt Try.prog H.nx (.tup [v117, (.p (.bool true)), (.p (.int .i64 0))]) Q
                      ) (
                      Rt Try.prog H.nx (.tup [(.p (.slice none 0 0)), (.p (.bool false)), (.p (.int .i64 0))]) Q
                      )
                    )
                  )
                ) [(.p (.int .i64 0))]
              )
            ) [(.p (.int .i64 1))]
          )
        ) [(.p (.int .i64 0))]
      )
    ) H
theorem eq_prove_Argue (a0 a1 : AV) (Q : AV → AH → Prop) (H : AH) : FnA Try.prog 118 (regsF Try.f16) ac_prove_Argue [.tm 4, .tm 5, .tm 6] [a0, a1] H Q = S_prove_Argue a0 a1 Q H := by kernel_rfl
theorem tri_prove_Argue {a0 a1 : AV} {H : AH} {Q : AV → AH → Prop} (h : S_prove_Argue a0 a1 Q H) : Tri Try.prog 16 [a0, a1] H Q :=
  tri_of (Ms := [#[], #[], #[], #[], #[], #[], #[], #[], #[], #[], #[], #[], #[], #[], #[], #[], #[], #[], #[], #[], #[], #[], #[], #[], #[], #[0, 1, 3, 7, 0, 31, 63, 127, 127, 255, 1023], #[], #[], #[], #[], #[], #[0, 0, 2, 6, 14, 0, 62, 127, 255, 511, 1023], #[]]) mixed Try.func16 rfl (by kernel_rfl) (by kernel_rfl) rfl (of_decide_eq_true rfl : 2 ≤ 118) ((eq_prove_Argue a0 a1 Q H).symm ▸ h : FnA Try.prog 118 (regsF Try.f16) ac_prove_Argue [.tm 4, .tm 5, .tm 6] [a0, a1] H Q)
end Go.Proofs.Ytcmnjoepadjioaa
