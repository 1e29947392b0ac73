/- Texts that the proof rests on, part 5: what each holds stands at its head. -/
import Derived.Test.YtgkkilbeingleaaMt4
import Derived.Orders

/- Appends, on abstract memory. Nothing of the program is named here. -/
namespace Go.Proofs.Ytgkkilbeingleaa
open Go.RowKit Go.Maps

section
variable {P : Program} {w : World} {S : Nat → Prop} {σ : Nat → Option Value} {ev : Operand → Value} {H : AH}
/-- read as the model reads them -/
theorem elts_read {sz n : Nat} {A : Option Addr} {ys : List (List AV)} (h : Elts w S σ sz A ys) (hn : ys.length = n) : ∃ us : List Value, us.length = n * sz ∧ Rps w S σ ys.flatten us ∧ (∀ u ∈ us, u.oneCell' = true) ∧
    ∀ (w1 : World) (c : Nat), w1.heap = w.heap → (Builtin.firstCells sz n (.slice A n c)).run P w1 = .ok us.toArray w1 := by
  obtain ⟨_, us, h1, h2, h3, h4⟩ := h
  rw [hn] at h1
  refine ⟨us, h1, h2, h3, fun w1 c hw => ?_⟩
  cases A with
  | none =>
    have : us = [] := by
      cases us with
      | nil => rfl
      | cons u r => obtain ⟨_, _, e, _⟩ := h4 0 u rfl; cases e
    subst this
    simp [Builtin.firstCells]
  | some b =>
    refine run_firstCells_some w1 sz n b n c us h1 (fun j v hv => ?_)
    obtain ⟨g, o, e, hc⟩ := h4 j v hv
    injection e with e
    subst e
    rw [addr_add]
    exact (World.cell?_of_block (by rw [hw])).trans hc
theorem app_grow {t ty e : TypeId} {i : TypeInfo} {z : Value} (ht : P.underlying t = some (.slice e)) (hi : P.info? e = some i) (hz : i.zero = some z) {B A : Option Addr} {n cc m c : Nat} {olds news : List Value}
    (hfo : (Builtin.firstCells i.size n (.slice B n cc)).run P w.drew = .ok olds.toArray w.drew) (hfn : (Builtin.firstCells i.size m (.slice A m c)).run P w.drew = .ok news.toArray w.drew)
    (hg : cc < n + m) (h63 : n + m ≤ maxLen) (hby : (n + m) * i.bytes ≤ 140737488355328) :
    (Builtin.append_ #[t, t] ty #[.slice B n cc, .slice A m c]).run P w = .ok (.slice (some ⟨w.heap.size, 0, none⟩) (n + m) (grownCap w (n + m) cc e)) (w.drew.alloc (.cells (olds.toArray ++ news.toArray ++ Builtin.zeroCells z.cells (grownCap w (n + m) cc e - (n + m))) e)) := by
  have hfit := growslice_fits hg hby
  have hml : maxLen = 9223372036854775807 := by decide
  have h1 : ¬ (n + m ≤ cc) := by omega
  have h2 : ¬ (9223372036854775807 < ((n : Int) + (m : Int))) := by omega
  have h3 : ¬ (281474976710656 < Builtin.nextslicecap (n + m) cc * i.bytes) := by omega
  simp [Builtin.append_, run_underlying ht, sizeOf, typeInfo, zeroValue, hi, hz, Builtin.lenOf, h1, h2, h3, Question.forced, hfo, hfn, newRow, grownCap]
  congr 2
  apply Array.ext'
  simp [List.append_assoc]
theorem app_room {t ty e : TypeId} {i : TypeInfo} (ht : P.underlying t = some (.slice e)) (hi : P.info? e = some i) {g o : Nat} {A : Option Addr} {n cc m c : Nat} {cur : Array Value} {news : List Value} (hb : Blk w g e cur) (hnl : news.length = m * i.size) (h1 : ∀ u ∈ news, u.oneCell' = true)
    (hfn : (Builtin.firstCells i.size m (.slice A m c)).run P w = .ok news.toArray w) (hroom : n + m ≤ cc) (hfit : o + n * i.size + news.length ≤ cur.size) :
    (Builtin.append_ #[t, t] ty #[.slice (some ⟨g, o, none⟩) n cc, .slice A m c]).run P w = .ok (.slice (some ⟨g, o, none⟩) (n + m) cc) (w.setRow g (cur.toList.take (o + n * i.size) ++ news ++ cur.toList.drop (o + n * i.size + news.length)).toArray) := by
  have hst := run_storeCells_at (P := P) g (o + n * i.size) e news 0 cur w hb (by omega) h1
  simp only [Nat.add_zero] at hst
  simp [Builtin.append_, run_underlying ht, sizeOf, typeInfo, hi, Builtin.lenOf, hroom, hfn, addr_add, hst]
theorem zeroA_info {e : TypeId} {z : List AV} {j : TypeInfo} (h : zeroA P e = some z) (hi : P.info? e = some j) : ∃ v, j.zero = some v ∧ v.cells.size = z.length ∧ ∀ u ∈ v.cells, u.oneCell' = true := by
  unfold zeroA at h
  rw [hi] at h
  simp only at h
  cases hz : j.zero with
  | none => rw [hz] at h; cases h
  | some v =>
    rw [hz] at h
    simp only at h
    split at h
    · rename_i hall
      rw [Array.all_eq_true'] at hall
      injection h with h
      exact ⟨v, rfl, by rw [← h]; simp, hall⟩
    · cases h
theorem zc_one {zs : Array Value} (h : ∀ u ∈ zs, u.oneCell' = true) (hz : 0 < zs.size) (n : Nat) : ∀ u ∈ Builtin.zeroCells zs n, u.oneCell' = true := by
  intro u hu
  unfold Builtin.zeroCells at hu
  rw [Array.mem_map] at hu
  obtain ⟨i, _, rfl⟩ := hu
  have hm : i % zs.size < zs.size := Nat.mod_lt _ hz
  rw [getElem!_pos zs _ hm]
  exact h _ (Array.getElem_mem hm)
theorem anys (vs : List Value) : Rps w S σ (List.replicate vs.length .any) vs := by
  refine ⟨List.length_replicate, fun i a v ha _ => ?_⟩
  rw [List.getElem?_replicate] at ha
  split at ha
  · injection ha with ha; subst ha; exact .any v
  · cases ha
/-- a longer row, elsewhere -/
theorem grow_eff (hs : Sat P w S σ H) {o : Oper} {c : Call} {s x : Operand} {t e : TypeId} {z : List AV} {j : TypeInfo} (ho : o.op = .call c) (hcb : c.callee = .builtin .append) (hca : c.args.toList = [s, x]) (hct : c.argTypes.toList = [t, t])
    (hu : P.underlying t = some (.slice e)) (hz : zeroA P e = some z) (hi : P.info? e = some j) (hzl : z.length = j.size) (hjs : j.size ≠ 0) {id : Nat} (hid : id < H.nx) (hσ : σ id = none) {n m cc c2 : Nat} {B A : Option Addr} {olds news : List Value} {es ys : List (List AV)}
    (hes : ∀ e ∈ es, e.length = j.size) (hys : ∀ e ∈ ys, e.length = j.size) (hen : es.length = n) (hym : ys.length = m) (hro : Rps w S σ es.flatten olds) (hrn : Rps w S σ ys.flatten news) (ho1 : ∀ u ∈ olds, u.oneCell' = true) (hn1 : ∀ u ∈ news, u.oneCell' = true)
    (hx : ev s = .slice B n cc) (hy : ev x = .slice A m c2)
    (hfo : (Builtin.firstCells j.size n (.slice B n cc)).run P w.drew = .ok olds.toArray w.drew) (hfn : (Builtin.firstCells j.size m (.slice A m c2)).run P w.drew = .ok news.toArray w.drew)
    (hg : cc < n + m) (h63 : n + m ≤ maxLen) (hby : (n + m) * j.bytes ≤ 140737488355328) : Eff P w S σ H ev o id (.osl id j.size 0 (n + m)) (H.put id (.row e j.size (es ++ ys))) := by
  obtain ⟨zv, hzv, hzs, hz1⟩ := zeroA_info hz hi
  have hca' : c.args = #[s, x] := Array.toList_inj.1 hca
  have hct' : c.argTypes = #[t, t] := Array.toList_inj.1 hct
  have hrun := app_grow (P := P) (w := w) (ty := o.type) hu hi hzv hfo hfn hg h63 hby
  have hge := grownCap_ge w (n + m) cc e
  have hcm : grownCap w (n + m) cc e ≤ maxLen := grownCap_le_maxLen w (n + m) cc e h63
  have hl : (es ++ ys).length = n + m := by rw [List.length_append, hen, hym]
  have hel : ∀ e ∈ es ++ ys, e.length = j.size := fun e he => (List.mem_append.1 he).elim (hes e) (hys e)
  have hol : olds.length = n * j.size := by rw [← hro.1, flat_length hes, hen]
  have hnl : news.length = m * j.size := by rw [← hrn.1, flat_length hys, hym]
  have hzr : ∃ rest, Rps w S σ rest (Builtin.zeroCells zv.cells (grownCap w (n + m) cc e - (n + m))).toList := ⟨_, anys _⟩
  obtain ⟨rest, hrest⟩ := hzr
  have := row_eff1 (ev := ev) (o := o) hs (w1 := w.drew) ⟨rfl, rfl, rfl, rfl⟩ hid hσ (t := e) (sz := j.size) (c := grownCap w (n + m) cc e) (es := es ++ ys) (rest := rest)
    (arr := olds.toArray ++ news.toArray ++ Builtin.zeroCells zv.cells (grownCap w (n + m) cc e - (n + m))) hel
    (by rw [List.flatten_append]; simp only [Array.toList_append]; exact (hro.append hrn).append hrest) (fun u hu => by
      simp only [Array.mem_append, List.mem_toArray] at hu
      rcases hu with (hu | hu) | hu
      · exact ho1 u hu
      · exact hn1 u hu
      · exact zc_one hz1 (by omega) _ u hu) (by rw [hl]; exact hge) hcm (by
      simp only [Array.size_append, List.size_toArray, size_zeroCells, hzs, hzl, hol, hnl, ← Nat.add_mul]
      exact Nat.mul_le_mul_right _ (by omega)) (by
      rw [hl]
      simp [execOp, ho, resolve, hcb, hca', hct', invoke, builtin, hx, hy, hrun])
  rwa [hl] at this
theorem Ext.lessR {w' : World} {S' : Nat → Prop} {σ' : Nat → Option Value} {H1 H2 : AH} (h : Ext w S σ H w' S' σ' H1) (hg : ∀ b, Foot σ' H2 b → Foot σ' H1 b) : Ext w S σ H w' S' σ' H2 :=
  ⟨h.os, h.tape, h.output, h.size, h.keep, h.sup, h.sub, fun b hb => h.foot b (hg b hb), h.sig⟩
theorem Eff.less {H0 : AH} (hg : ∀ b, Foot σ H0 b → Foot σ H b) {o : Oper} {id : Nat} {a : AV} {H' : AH} (h : Eff P w S σ H0 ev o id a H') : Eff P w S σ H ev o id a H' := by
  obtain ⟨nx, w', σ', h1, h2, h3, h4, h5⟩ := h
  refine ⟨nx, w', σ', h1, h2, h3, ⟨h4.os, h4.tape, h4.output, h4.size, fun b hb hn => h4.keep b hb (fun hf => hn (hg b hf)), h4.sup, fun b hb => ?_, fun b hb => ?_, h4.sig⟩, h5⟩
  · rcases h4.sub b hb with h | h | h
    · exact .inl h
    · exact .inr (.inl (hg b h))
    · exact .inr (.inr h)
  · rcases h4.foot b hb with h | h
    · exact .inl (hg b h)
    · exact .inr h
/-- nothing is done, an empty row is had -/
theorem none_eff (hs : Sat P w S σ H) {id : Nat} (hid : id < H.nx) (hσ : σ id = none) {o : Oper} {t sz : Nat} {B : Option Addr} (hrun : (execOp ev o).run P w = .ok (.value (.slice B 0 0)) w) : Eff P w S σ H ev o id (.osl id sz 0 0) (H.put id (.row t sz [])) := by
  have hnone : ∀ x, σ id = some x → x = .slice none 0 0 := fun x hx => by rw [hσ] at hx; cases hx
  refine ⟨_, w, sput σ id (.slice none 0 0), hrun, .inl ⟨_, rfl, .osl _ _ _ _ none B 0 0 0 sput_self (Nat.le_refl _) rfl (fun h => absurd h (by omega))⟩, hs.upd hid hnone (Nat.le_refl _) (fun _ _ _ => rfl) (fun b hb => by cases hb)
    ⟨none, 0, sput_self, by simp, Nat.le_refl _, Nat.zero_le _, .inl ⟨rfl, rfl⟩⟩ (fun j o b h1 h2 h3 => hs.lt h1 h2 h3) (fun A n c e => by injection e with e1 e2 e3; subst e1; subst e2; subst e3; exact ⟨Nat.le_refl _, fun h => absurd h (by omega), Nat.zero_le _⟩),
    Ext.upd hs hnone rfl rfl rfl (Nat.le_refl _) (fun _ _ _ => rfl) (fun b hb => by cases hb), fun j hj => sput_ne hj⟩
theorem wr_app {o : Oper} {c : Call} {s x : Operand} {t e : TypeId} {z : List AV} {j : TypeInfo} {a : AV} {args : List AV} {id : Nat} {H' : AH} (hs : Sat P w S σ H) (hid : id < H.nx) (hσ : σ id = none) (ho : o.op = .call c) (hcb : c.callee = .builtin .append) (hca : c.args.toList = [s, x]) (hct : c.argTypes.toList = [t, t])
    (hu : P.underlying t = some (.slice e)) (hz : zeroA P e = some z) (hi : P.info? e = some j) (hzl : z.length = j.size) (hjs : j.size ≠ 0) (hp : WrR P id (.app e j.size j.bytes) args H a H') (hr : Rps w S σ args [ev s, ev x]) : Eff P w S σ H ev o id a H' := by
  have hca' : c.args = #[s, x] := Array.toList_inj.1 hca
  have hct' : c.argTypes = #[t, t] := Array.toList_inj.1 hct
  have exec : ∀ {v1 v2 r : Value} {w' : World}, ev s = v1 → ev x = v2 → (Builtin.append_ #[t, t] o.type #[v1, v2]).run P w = .ok r w' → (execOp ev o).run P w = .ok (.value r) w' := by
    intro v1 v2 r w' h1 h2 h3
    simp [execOp, ho, resolve, hcb, hca', hct', invoke, builtin, h1, h2, h3]
  -- what is appended
  have src : ∀ {xa : AV} {ys : List (List AV)}, ElA H j.size xa ys → Rp w S σ xa (ev x) → ∃ A c2, ev x = .slice A ys.length c2 ∧ Elts w S σ j.size A ys := by
    intro xa ys he hrx
    obtain ⟨A, c2, h⟩ := el_sound hs he hrx
    rcases h with ⟨h1, h2, _⟩ | ⟨rfl, h1, rfl⟩
    · exact ⟨A, c2, h1, h2⟩
    · exact ⟨none, c2, h1, by simp, [], by simp, .nil, by simp, by simp⟩
  cases hp with
  | app_nil _ _ _ ys xa _ hel h63 hby =>
    obtain ⟨v1, v2, e1, q1, q2⟩ := hr.two_inv
    simp only [List.cons.injEq, and_true] at e1
    obtain ⟨rfl, rfl⟩ := e1
    have hx := q1.p_inv.1
    obtain ⟨A, c2, hy, hE⟩ := src hel q2
    obtain ⟨news, n1, n2, n3, n4⟩ := elts_read (P := P) hE rfl
    by_cases h0 : ys.length = 0
    · have : ys = [] := List.eq_nil_of_length_eq_zero h0
      subst this
      have n4' := n4 w c2 rfl
      simp only [List.length_nil] at n4' hy ⊢
      refine none_eff hs hid hσ (B := none) (exec hx hy ?_)
      simp [Builtin.append_, run_underlying hu, sizeOf, typeInfo, hi, Builtin.lenOf, n4']
    · have := grow_eff (ev := ev) (o := o) hs ho hcb hca hct hu hz hi hzl hjs hid hσ (n := 0) (m := ys.length) (cc := 0) (B := none) (es := []) (ys := ys) (olds := []) (news := news) (by simp) hE.1 rfl rfl .nil n2 (by simp) n3 hx hy
        (by simp [Builtin.firstCells]) (n4 w.drew c2 rfl) (by omega) (by omega) (by rw [Nat.zero_add]; exact hby)
      simpa using this
  | app_row _ _ _ r off n es ys xa _ hg hle hel h63 hby =>
    obtain ⟨v1, v2, e1, q1, q2⟩ := hr.two_inv
    simp only [List.cons.injEq, and_true] at e1
    obtain ⟨rfl, rfl⟩ := e1
    obtain ⟨Ar, B, N, cr, cc, hx, hσr, k1, k2, k3⟩ := q1.osl_inv
    obtain ⟨A, c2, hy, hE⟩ := src hel q2
    obtain ⟨news, n1, n2, n3, n4⟩ := elts_read (P := P) hE rfl
    obtain ⟨Ab, cb, hb1⟩ := el_sound hs (.row r off n e es hg hle) q1
    have hbase : Elts w S σ j.size B ((es.drop off).take n) := by
      rcases hb1 with ⟨hb1, hb2, _⟩ | ⟨hb0, hb1, rfl⟩
      · rw [hx] at hb1; injection hb1 with hb1 _ _; subst hb1; exact hb2
      · rw [hb0]; exact ⟨by simp, [], by simp, .nil, by simp, by simp⟩
    obtain ⟨olds, o1, o2, o3, o4⟩ := elts_read (P := P) hbase (sub_len hle)
    have hsub : Sat P w S σ (H.kill r) := hs.kill hg
    by_cases hroom : n + ys.length ≤ cc
    · by_cases hcc : cc = 0
      · have hn0 : n = 0 := by omega
        have hy0 : ys = [] := List.eq_nil_of_length_eq_zero (by omega)
        subst hn0; subst hy0; subst hcc
        simp only [List.take_zero, List.nil_append, List.length_nil, Nat.add_zero]
        refine Eff.less (fun b h => Foot.kill h) (none_eff hsub hid hσ (B := B) (exec hx hy ?_))
        have n4' := n4 w c2 rfl
        have hn : news = [] := List.eq_nil_of_length_eq_zero (by simpa using n1)
        subst hn
        simp only [List.length_nil] at n4'
        cases B <;> simp [Builtin.append_, run_underlying hu, sizeOf, typeInfo, hi, Builtin.lenOf, n4', storeCells]
      · obtain ⟨A', c', m1, m2, m3, m4, m5⟩ := hs.obj r _ hg
        rw [hσr] at m1
        simp only [Option.some.injEq, Value.slice.injEq] at m1
        obtain ⟨rfl, rfl, rfl⟩ := m1
        rcases m5 with ⟨_, m5⟩ | ⟨g, o', arr, rfl, p1, p2, p3, p4⟩
        · omega
        have hB : B = some ⟨g, o' + off * j.size, none⟩ := by rw [k3 (by omega), Option.map_some, addr_add]
        subst hB
        have hfit : o' + off * j.size + n * j.size + news.length ≤ arr.size := by
          rw [n1]
          have : (off + (n + ys.length)) * j.size ≤ cr * j.size := Nat.mul_le_mul_right _ (by omega)
          rw [Nat.add_mul, Nat.add_mul] at this
          omega
        have hrun := app_room (P := P) (w := w) (ty := o.type) hu hi p1 n1 n3 (n4 w c2 rfl) hroom hfit
        have hspl : ∀ q, (arr.toList.take (o' + off * j.size + n * j.size) ++ news ++ arr.toList.drop (o' + off * j.size + n * j.size + news.length))[q]? = _ := fun q => splice_get arr.toList news (o' + off * j.size + n * j.size) q (by rw [Array.length_toList]; exact hfit)
        have hnone : ∀ y, σ id = some y → y = .slice (some ⟨g, o' + off * j.size, none⟩) (n + ys.length) cc := fun y hy => by rw [hσ] at hy; cases hy
        have hbk : (σ r).bind blkOf = some g := by rw [hσr]; rfl
        have hkeep : ∀ b, b ≠ g → (w.setRow g (arr.toList.take (o' + off * j.size + n * j.size) ++ news ++ arr.toList.drop (o' + off * j.size + n * j.size + news.length)).toArray).heap[b]? = w.heap[b]? := fun b hb => setRow_other w g b _ hb
        have hS : ∀ b, S b → (w.setRow g (arr.toList.take (o' + off * j.size + n * j.size) ++ news ++ arr.toList.drop (o' + off * j.size + n * j.size + news.length)).toArray).heap[b]? = w.heap[b]? := fun b hb => hkeep b (fun e => hs.sep r _ b hg rfl (by rw [hbk, e]) hb)
        have hlen : ((es.drop off).take n ++ ys).length = n + ys.length := by rw [List.length_append, sub_len hle]
        have mono : ∀ {a : AV} {v : Value}, Rp w S σ a v → Rp (w.setRow g (arr.toList.take (o' + off * j.size + n * j.size) ++ news ++ arr.toList.drop (o' + off * j.size + n * j.size + news.length)).toArray) S (sput σ id (.slice (some ⟨g, o' + off * j.size, none⟩) (n + ys.length) cc)) a v := fun h => h.mono (fun _ h => h) hS (sput_ext hnone)
        refine ⟨_, _, sput σ id (.slice (some ⟨g, o' + off * j.size, none⟩) (n + ys.length) cc), exec hx hy hrun, .inl ⟨_, rfl, .osl _ _ _ _ _ _ _ cc cc sput_self hroom (by omega) (fun _ => by simp [addr_add])⟩,
          hsub.upd hid hnone (by simp) (fun b hb hne => hkeep b (fun e => hne (by rw [e]; rfl))) (fun b hb => ?_) ?_ (fun j o b h1 h2 h3 => hsub.lt h1 h2 h3) (fun A n c e => ?_),
          Ext.lessR (H1 := H.put id (.row e j.size ((es.drop off).take n ++ ys))) (Ext.upd hs hnone rfl rfl rfl (by simp) (fun b hb hne => hkeep b (fun e => hne (by rw [e]; rfl))) (fun b hb => ?_)) (fun b hb => ?_), fun k hk => sput_ne hk⟩
        · simp only [blkOf, Option.some.injEq] at hb; subst hb
          refine ⟨hs.sep r _ g hg rfl hbk, fun k o2 hk h2 h3 h4 => ?_⟩
          obtain ⟨h2', hne⟩ := AH.kill_get h2 h3
          exact hne (hs.dj k r o2 _ g h2' hg h3 rfl h4 hbk)
        · refine ⟨_, cc, by rw [hlen]; exact sput_self, fun y hy => ?_, by rw [hlen]; exact hroom, by omega, .inr ⟨g, _, _, rfl, setRow_heap w g arr _ e (0, 0) p1, ?_, fun u hu => ?_, fun i e' jj b he hb' => ?_⟩⟩
          · exact (List.mem_append.1 hy).elim (fun h => m2 y (sub_mem h)) (hE.1 y)
          · rw [List.size_toArray, splice_len _ _ _ (by rw [Array.length_toList]; exact hfit), Array.length_toList]
            have : (off + cc) * j.size = cr * j.size := by rw [k2]
            rw [Nat.add_mul] at this
            omega
          · rw [← Array.mem_toList_iff, List.toList_toArray] at hu
            rcases List.mem_append.1 hu with hu | hu
            · rcases List.mem_append.1 hu with hu | hu
              · exact p3 u (Array.mem_toList_iff.1 (List.mem_of_mem_take hu))
              · exact n3 u hu
            · exact p3 u (Array.mem_toList_iff.1 (List.mem_of_mem_drop hu))
          · rw [List.getElem?_toArray, hspl]
            by_cases hin : i < n
            · rw [List.getElem?_append_left (by rw [sub_len hle]; exact hin)] at he
              obtain ⟨_, he'⟩ := sub_at he
              have hjl : jj < j.size := by have := (List.getElem?_eq_some_iff.1 hb').1; rw [m2 e' (List.mem_of_getElem? he')] at this; exact this
              obtain ⟨u, hu, hru⟩ := p4 (off + i) e' jj b he' hb'
              have : (i + 1) * j.size ≤ n * j.size := Nat.mul_le_mul_right _ (by omega)
              rw [Nat.add_mul, Nat.one_mul] at this
              refine ⟨u, ?_, mono hru⟩
              rw [if_pos (by omega), Array.getElem?_toList, show o' + off * j.size + i * j.size + jj = o' + (off + i) * j.size + jj by rw [Nat.add_mul]; omega]; exact hu
            · rw [List.getElem?_append_right (by rw [sub_len hle]; omega), sub_len hle] at he
              have hjl : jj < j.size := by have := (List.getElem?_eq_some_iff.1 hb').1; rw [hE.1 e' (List.mem_of_getElem? he)] at this; exact this
              have hfl := flat_elem hE.1 (i - n) e' jj b he hb'
              obtain ⟨u, hu, hru⟩ := n2.at_ hfl
              have hil : i - n < ys.length := (List.getElem?_eq_some_iff.1 he).1
              have h7 : (i - n + 1) * j.size ≤ ys.length * j.size := Nat.mul_le_mul_right _ (by omega)
              have h8 : (n + (i - n)) * j.size = i * j.size := by congr 1; omega
              rw [Nat.add_mul] at h7 h8
              refine ⟨u, ?_, mono hru⟩
              rw [if_neg (by omega), if_pos (by rw [n1]; omega), show o' + off * j.size + i * j.size + jj - (o' + off * j.size + n * j.size) = (i - n) * j.size + jj by omega]; exact hu
        · injection e with e1 e2 e3
          subst e1; subst e2; subst e3
          exact ⟨hroom, fun _ => ⟨_, _, rfl⟩, by omega⟩
        · simp only [blkOf, Option.some.injEq] at hb; subst hb; exact .inl ⟨r, _, hg, rfl, hbk⟩
        · obtain ⟨k, o, h1, h2, h3⟩ := hb
          by_cases hk : k = id
          · subst hk; rw [AH.get_put_self] at h1; exact ⟨k, o, by rw [AH.get_put_self]; exact h1, h2, h3⟩
          · rw [AH.get_put_ne hk] at h1; exact ⟨k, o, by rw [AH.get_put_ne hk]; exact (AH.kill_get h1 h2).1, h2, h3⟩
    · refine Eff.less (H0 := H.kill r) (fun b h => Foot.kill h) ?_
      exact grow_eff (ev := ev) (o := o) hsub ho hcb hca hct hu hz hi hzl hjs hid hσ (fun y hy => hbase.1 y hy) hE.1 (sub_len hle) rfl o2 n2 o3 n3 hx hy (o4 w.drew cc rfl) (n4 w.drew c2 rfl) (by omega) h63 hby
theorem app_growS {t t' ty e : TypeId} {i : TypeInfo} {z : Value} (ht : P.underlying t = some (.slice e)) (ht' : P.underlying t' = some .string) (hi : P.info? e = some i) (hz : i.zero = some z) {B : Option Addr} {n cc : Nat} {q : ByteArray} {olds news : List Value}
    (hfo : (Builtin.firstCells i.size n (.slice B n cc)).run P w.drew = .ok olds.toArray w.drew) (hfn : (Builtin.firstCells i.size q.size (.string q)).run P w.drew = .ok news.toArray w.drew)
    (hg : cc < n + q.size) (h63 : n + q.size ≤ maxLen) (hby : (n + q.size) * i.bytes ≤ 140737488355328) :
    (Builtin.append_ #[t, t'] ty #[.slice B n cc, .string q]).run P w = .ok (.slice (some ⟨w.heap.size, 0, none⟩) (n + q.size) (grownCap w (n + q.size) cc e)) (w.drew.alloc (.cells (olds.toArray ++ news.toArray ++ Builtin.zeroCells z.cells (grownCap w (n + q.size) cc e - (n + q.size))) e)) := by
  have hfit := growslice_fits hg hby
  have hml : maxLen = 9223372036854775807 := by decide
  have h1 : ¬ (n + q.size ≤ cc) := by omega
  have h2 : ¬ (9223372036854775807 < ((n : Int) + (q.size : Int))) := by omega
  have h3 : ¬ (281474976710656 < Builtin.nextslicecap (n + q.size) cc * i.bytes) := by omega
  simp [Builtin.append_, run_underlying ht, run_underlying ht', sizeOf, typeInfo, zeroValue, hi, hz, Builtin.lenOf, h1, h2, h3, Question.forced, hfo, hfn, newRow, grownCap]
  congr 2
  apply Array.ext'
  simp [List.append_assoc]
theorem app_roomS {t t' ty e : TypeId} {i : TypeInfo} (ht : P.underlying t = some (.slice e)) (ht' : P.underlying t' = some .string) (hi : P.info? e = some i) {g o : Nat} {n cc : Nat} {q : ByteArray} {cur : Array Value} {news : List Value} (hb : Blk w g e cur) (hnl : news.length = q.size * i.size) (h1 : ∀ u ∈ news, u.oneCell' = true)
    (hfn : (Builtin.firstCells i.size q.size (.string q)).run P w = .ok news.toArray w) (hroom : n + q.size ≤ cc) (hfit : o + n * i.size + news.length ≤ cur.size) :
    (Builtin.append_ #[t, t'] ty #[.slice (some ⟨g, o, none⟩) n cc, .string q]).run P w = .ok (.slice (some ⟨g, o, none⟩) (n + q.size) cc) (w.setRow g (cur.toList.take (o + n * i.size) ++ news ++ cur.toList.drop (o + n * i.size + news.length)).toArray) := by
  have hst := run_storeCells_at (P := P) g (o + n * i.size) e news 0 cur w hb (by omega) h1
  simp only [Nat.add_zero] at hst
  simp [Builtin.append_, run_underlying ht, run_underlying ht', sizeOf, typeInfo, hi, Builtin.lenOf, hroom, hfn, addr_add, hst]
theorem grow_effS (hs : Sat P w S σ H) {o : Oper} {c : Call} {s x : Operand} {t t' e : TypeId} {z : List AV} {j : TypeInfo} (ho : o.op = .call c) (hcb : c.callee = .builtin .append) (hca : c.args.toList = [s, x]) (hct : c.argTypes.toList = [t, t'])
    (hu : P.underlying t = some (.slice e)) (hu' : P.underlying t' = some .string) (hz : zeroA P e = some z) (hi : P.info? e = some j) (hzl : z.length = j.size) (hjs : j.size ≠ 0) {id : Nat} (hid : id < H.nx) (hσ : σ id = none) {n cc : Nat} {q : ByteArray} {B : Option Addr} {olds news : List Value} {es ys : List (List AV)}
    (hes : ∀ e ∈ es, e.length = j.size) (hys : ∀ e ∈ ys, e.length = j.size) (hen : es.length = n) (hym : ys.length = q.size) (hro : Rps w S σ es.flatten olds) (hrn : Rps w S σ ys.flatten news) (ho1 : ∀ u ∈ olds, u.oneCell' = true) (hn1 : ∀ u ∈ news, u.oneCell' = true)
    (hx : ev s = .slice B n cc) (hy : ev x = .string q)
    (hfo : (Builtin.firstCells j.size n (.slice B n cc)).run P w.drew = .ok olds.toArray w.drew) (hfn : (Builtin.firstCells j.size q.size (.string q)).run P w.drew = .ok news.toArray w.drew)
    (hg : cc < n + q.size) (h63 : n + q.size ≤ maxLen) (hby : (n + q.size) * j.bytes ≤ 140737488355328) : Eff P w S σ H ev o id (.osl id j.size 0 (n + q.size)) (H.put id (.row e j.size (es ++ ys))) := by
  obtain ⟨zv, hzv, hzs, hz1⟩ := zeroA_info hz hi
  have hca' : c.args = #[s, x] := Array.toList_inj.1 hca
  have hct' : c.argTypes = #[t, t'] := Array.toList_inj.1 hct
  have hrun := app_growS (P := P) (w := w) (ty := o.type) hu hu' hi hzv hfo hfn hg h63 hby
  have hge := grownCap_ge w (n + q.size) cc e
  have hcm : grownCap w (n + q.size) cc e ≤ maxLen := grownCap_le_maxLen w (n + q.size) cc e h63
  have hl : (es ++ ys).length = n + q.size := by rw [List.length_append, hen, hym]
  have hel : ∀ e ∈ es ++ ys, e.length = j.size := fun e he => (List.mem_append.1 he).elim (hes e) (hys e)
  have hol : olds.length = n * j.size := by rw [← hro.1, flat_length hes, hen]
  have hnl : news.length = q.size * j.size := by rw [← hrn.1, flat_length hys, hym]
  have hzr : ∃ rest, Rps w S σ rest (Builtin.zeroCells zv.cells (grownCap w (n + q.size) cc e - (n + q.size))).toList := ⟨_, anys _⟩
  obtain ⟨rest, hrest⟩ := hzr
  have := row_eff1 (ev := ev) (o := o) hs (w1 := w.drew) ⟨rfl, rfl, rfl, rfl⟩ hid hσ (t := e) (sz := j.size) (c := grownCap w (n + q.size) cc e) (es := es ++ ys) (rest := rest)
    (arr := olds.toArray ++ news.toArray ++ Builtin.zeroCells zv.cells (grownCap w (n + q.size) cc e - (n + q.size))) hel
    (by rw [List.flatten_append]; simp only [Array.toList_append]; exact (hro.append hrn).append hrest) (fun u hu => by
      simp only [Array.mem_append, List.mem_toArray] at hu
      rcases hu with (hu | hu) | hu
      · exact ho1 u hu
      · exact hn1 u hu
      · exact zc_one hz1 (by omega) _ u hu) (by rw [hl]; exact hge) hcm (by
      simp only [Array.size_append, List.size_toArray, size_zeroCells, hzs, hzl, hol, hnl, ← Nat.add_mul]
      exact Nat.mul_le_mul_right _ (by omega)) (by
      rw [hl]
      simp [execOp, ho, resolve, hcb, hca', hct', invoke, builtin, hx, hy, hrun])
  rwa [hl] at this
theorem wr_aps {o : Oper} {c : Call} {s x : Operand} {t t' e : TypeId} {z : List AV} {j : TypeInfo} {a : AV} {args : List AV} {id : Nat} {H' : AH} (hs : Sat P w S σ H) (hid : id < H.nx) (hσ : σ id = none) (ho : o.op = .call c) (hcb : c.callee = .builtin .append) (hca : c.args.toList = [s, x]) (hct : c.argTypes.toList = [t, t'])
    (hu : P.underlying t = some (.slice e)) (hu' : P.underlying t' = some .string) (hj1 : j.size = 1) (hz : zeroA P e = some z) (hi : P.info? e = some j) (hzl : z.length = j.size) (hjs : j.size ≠ 0) (hp : WrR P id (.aps e j.size j.bytes) args H a H') (hr : Rps w S σ args [ev s, ev x]) : Eff P w S σ H ev o id a H' := by
  have hca' : c.args = #[s, x] := Array.toList_inj.1 hca
  have hct' : c.argTypes = #[t, t'] := Array.toList_inj.1 hct
  have exec : ∀ {v1 v2 r : Value} {w' : World}, ev s = v1 → ev x = v2 → (Builtin.append_ #[t, t'] o.type #[v1, v2]).run P w = .ok r w' → (execOp ev o).run P w = .ok (.value r) w' := by
    intro v1 v2 r w' h1 h2 h3
    simp [execOp, ho, resolve, hcb, hca', hct', invoke, builtin, h1, h2, h3]
  -- what is appended
  have src : ∀ q : ByteArray, ∃ news : List Value, news.length = (strE q).length * j.size ∧ Rps w S σ (strE q).flatten news ∧ (∀ u ∈ news, u.oneCell' = true) ∧ (∀ y ∈ strE q, y.length = j.size) ∧ ∀ (w1 : World), (Builtin.firstCells j.size q.size (.string q)).run P w1 = .ok news.toArray w1 := fun q => by
    refine ⟨q.data.toList.map fun b => .int .u8 b.toNat, by rw [hj1]; simp [strE], strE_rps q, fun u hu => ?_, fun y hy => ?_, fun w1 => ?_⟩
    · obtain ⟨b, _, rfl⟩ := List.mem_map.1 hu; rfl
    · obtain ⟨b, _, rfl⟩ := List.mem_map.1 hy; rw [hj1]; rfl
    · have he : q.extract 0 q.size = q := by simp
      simp [Builtin.firstCells, he]
      exact Array.toList_inj.1 (by simp)
  cases hp with
  | aps_nil _ _ _ q _ h63 hby =>
    obtain ⟨v1, v2, e1, q1, q2⟩ := hr.two_inv
    simp only [List.cons.injEq, and_true] at e1
    obtain ⟨rfl, rfl⟩ := e1
    have hx := q1.p_inv.1
    have hy := q2.p_inv.1
    obtain ⟨news, n1, n2, n3, hE1, n4⟩ := src q
    have hsz := strE_len q
    generalize hys : strE q = ys at *
    have hqs : q.size = ys.length := hsz.symm
    by_cases h0 : ys.length = 0
    · have : ys = [] := List.eq_nil_of_length_eq_zero h0
      subst this
      have n4' := n4 w
      have hq0 : q.size = 0 := hqs
      have hqe : q = .empty := ByteArray.ext (Array.eq_empty_of_size_eq_zero hq0)
      subst hqe
      have hn : news = [] := List.eq_nil_of_length_eq_zero (by simpa using n1)
      subst hn
      simp only [List.length_nil] at hy ⊢
      refine none_eff hs hid hσ (B := none) (exec hx hy ?_)
      have n4'' : (Builtin.firstCells j.size 0 (.string .empty)).run P w = .ok #[] w := n4'
      simp [Builtin.append_, run_underlying hu, run_underlying hu', sizeOf, typeInfo, hi, Builtin.lenOf, n4'']
    · have := grow_effS (ev := ev) (o := o) hs ho hcb hca hct hu hu' hz hi hzl hjs hid hσ (n := 0) (cc := 0) (B := none) (q := q) (es := []) (ys := ys) (olds := []) (news := news) (by simp) hE1 rfl hsz .nil n2 (by simp) n3 hx hy
        (by simp [Builtin.firstCells]) (n4 w.drew) (by omega) (by omega) (by rw [Nat.zero_add, hqs]; exact hby)
      rw [hqs] at this
      simpa using this
  | aps_row _ _ _ r off n es q _ hg hle h63 hby =>
    obtain ⟨v1, v2, e1, q1, q2⟩ := hr.two_inv
    simp only [List.cons.injEq, and_true] at e1
    obtain ⟨rfl, rfl⟩ := e1
    obtain ⟨Ar, B, N, cr, cc, hx, hσr, k1, k2, k3⟩ := q1.osl_inv
    have hy := q2.p_inv.1
    obtain ⟨news, n1, n2, n3, hE1, n4⟩ := src q
    have hsz := strE_len q
    generalize hys : strE q = ys at *
    have hqs : q.size = ys.length := hsz.symm
    obtain ⟨Ab, cb, hb1⟩ := el_sound hs (.row r off n e es hg hle) q1
    have hbase : Elts w S σ j.size B ((es.drop off).take n) := by
      rcases hb1 with ⟨hb1, hb2, _⟩ | ⟨hb0, hb1, rfl⟩
      · rw [hx] at hb1; injection hb1 with hb1 _ _; subst hb1; exact hb2
      · rw [hb0]; exact ⟨by simp, [], by simp, .nil, by simp, by simp⟩
    obtain ⟨olds, o1, o2, o3, o4⟩ := elts_read (P := P) hbase (sub_len hle)
    have hsub : Sat P w S σ (H.kill r) := hs.kill hg
    by_cases hroom : n + ys.length ≤ cc
    · by_cases hcc : cc = 0
      · have hn0 : n = 0 := by omega
        have hy0 : ys = [] := List.eq_nil_of_length_eq_zero (by omega)
        subst hn0; subst hy0; subst hcc
        simp only [List.take_zero, List.nil_append, List.length_nil, Nat.add_zero]
        refine Eff.less (fun b h => Foot.kill h) (none_eff hsub hid hσ (B := B) (exec hx hy ?_))
        have n4' := n4 w
        have hn : news = [] := List.eq_nil_of_length_eq_zero (by simpa using n1)
        subst hn
        have hq0 : q.size = 0 := hqs
        have hqe : q = .empty := ByteArray.ext (Array.eq_empty_of_size_eq_zero hq0)
        subst hqe
        have n4'' : (Builtin.firstCells j.size 0 (.string .empty)).run P w = .ok #[] w := n4'
        cases B <;> simp [Builtin.append_, run_underlying hu, run_underlying hu', sizeOf, typeInfo, hi, Builtin.lenOf, n4'', storeCells]
      · obtain ⟨A', c', m1, m2, m3, m4, m5⟩ := hs.obj r _ hg
        rw [hσr] at m1
        simp only [Option.some.injEq, Value.slice.injEq] at m1
        obtain ⟨rfl, rfl, rfl⟩ := m1
        rcases m5 with ⟨_, m5⟩ | ⟨g, o', arr, rfl, p1, p2, p3, p4⟩
        · omega
        have hB : B = some ⟨g, o' + off * j.size, none⟩ := by rw [k3 (by omega), Option.map_some, addr_add]
        subst hB
        have hfit : o' + off * j.size + n * j.size + news.length ≤ arr.size := by
          rw [n1]
          have : (off + (n + ys.length)) * j.size ≤ cr * j.size := Nat.mul_le_mul_right _ (by omega)
          rw [Nat.add_mul, Nat.add_mul] at this
          omega
        have hrun := app_roomS (P := P) (w := w) (ty := o.type) hu hu' hi p1 (by rw [hqs]; exact n1) n3 (n4 w) (by rw [hqs]; exact hroom) hfit
        rw [hqs] at hrun
        have hspl : ∀ q, (arr.toList.take (o' + off * j.size + n * j.size) ++ news ++ arr.toList.drop (o' + off * j.size + n * j.size + news.length))[q]? = _ := fun q => splice_get arr.toList news (o' + off * j.size + n * j.size) q (by rw [Array.length_toList]; exact hfit)
        have hnone : ∀ y, σ id = some y → y = .slice (some ⟨g, o' + off * j.size, none⟩) (n + ys.length) cc := fun y hy => by rw [hσ] at hy; cases hy
        have hbk : (σ r).bind blkOf = some g := by rw [hσr]; rfl
        have hkeep : ∀ b, b ≠ g → (w.setRow g (arr.toList.take (o' + off * j.size + n * j.size) ++ news ++ arr.toList.drop (o' + off * j.size + n * j.size + news.length)).toArray).heap[b]? = w.heap[b]? := fun b hb => setRow_other w g b _ hb
        have hS : ∀ b, S b → (w.setRow g (arr.toList.take (o' + off * j.size + n * j.size) ++ news ++ arr.toList.drop (o' + off * j.size + n * j.size + news.length)).toArray).heap[b]? = w.heap[b]? := fun b hb => hkeep b (fun e => hs.sep r _ b hg rfl (by rw [hbk, e]) hb)
        have hlen : ((es.drop off).take n ++ ys).length = n + ys.length := by rw [List.length_append, sub_len hle]
        have mono : ∀ {a : AV} {v : Value}, Rp w S σ a v → Rp (w.setRow g (arr.toList.take (o' + off * j.size + n * j.size) ++ news ++ arr.toList.drop (o' + off * j.size + n * j.size + news.length)).toArray) S (sput σ id (.slice (some ⟨g, o' + off * j.size, none⟩) (n + ys.length) cc)) a v := fun h => h.mono (fun _ h => h) hS (sput_ext hnone)
        refine ⟨_, _, sput σ id (.slice (some ⟨g, o' + off * j.size, none⟩) (n + ys.length) cc), exec hx hy hrun, .inl ⟨_, rfl, .osl _ _ _ _ _ _ _ cc cc sput_self hroom (by omega) (fun _ => by simp [addr_add])⟩,
          hsub.upd hid hnone (by simp) (fun b hb hne => hkeep b (fun e => hne (by rw [e]; rfl))) (fun b hb => ?_) ?_ (fun j o b h1 h2 h3 => hsub.lt h1 h2 h3) (fun A n c e => ?_),
          Ext.lessR (H1 := H.put id (.row e j.size ((es.drop off).take n ++ ys))) (Ext.upd hs hnone rfl rfl rfl (by simp) (fun b hb hne => hkeep b (fun e => hne (by rw [e]; rfl))) (fun b hb => ?_)) (fun b hb => ?_), fun k hk => sput_ne hk⟩
        · simp only [blkOf, Option.some.injEq] at hb; subst hb
          refine ⟨hs.sep r _ g hg rfl hbk, fun k o2 hk h2 h3 h4 => ?_⟩
          obtain ⟨h2', hne⟩ := AH.kill_get h2 h3
          exact hne (hs.dj k r o2 _ g h2' hg h3 rfl h4 hbk)
        · refine ⟨_, cc, by rw [hlen]; exact sput_self, fun y hy => ?_, by rw [hlen]; exact hroom, by omega, .inr ⟨g, _, _, rfl, setRow_heap w g arr _ e (0, 0) p1, ?_, fun u hu => ?_, fun i e' jj b he hb' => ?_⟩⟩
          · exact (List.mem_append.1 hy).elim (fun h => m2 y (sub_mem h)) (hE1 y)
          · rw [List.size_toArray, splice_len _ _ _ (by rw [Array.length_toList]; exact hfit), Array.length_toList]
            have : (off + cc) * j.size = cr * j.size := by rw [k2]
            rw [Nat.add_mul] at this
            omega
          · rw [← Array.mem_toList_iff, List.toList_toArray] at hu
            rcases List.mem_append.1 hu with hu | hu
            · rcases List.mem_append.1 hu with hu | hu
              · exact p3 u (Array.mem_toList_iff.1 (List.mem_of_mem_take hu))
              · exact n3 u hu
            · exact p3 u (Array.mem_toList_iff.1 (List.mem_of_mem_drop hu))
          · rw [List.getElem?_toArray, hspl]
            by_cases hin : i < n
            · rw [List.getElem?_append_left (by rw [sub_len hle]; exact hin)] at he
              obtain ⟨_, he'⟩ := sub_at he
              have hjl : jj < j.size := by have := (List.getElem?_eq_some_iff.1 hb').1; rw [m2 e' (List.mem_of_getElem? he')] at this; exact this
              obtain ⟨u, hu, hru⟩ := p4 (off + i) e' jj b he' hb'
              have : (i + 1) * j.size ≤ n * j.size := Nat.mul_le_mul_right _ (by omega)
              rw [Nat.add_mul, Nat.one_mul] at this
              refine ⟨u, ?_, mono hru⟩
              rw [if_pos (by omega), Array.getElem?_toList, show o' + off * j.size + i * j.size + jj = o' + (off + i) * j.size + jj by rw [Nat.add_mul]; omega]; exact hu
            · rw [List.getElem?_append_right (by rw [sub_len hle]; omega), sub_len hle] at he
              have hjl : jj < j.size := by have := (List.getElem?_eq_some_iff.1 hb').1; rw [hE1 e' (List.mem_of_getElem? he)] at this; exact this
              have hfl := flat_elem hE1 (i - n) e' jj b he hb'
              obtain ⟨u, hu, hru⟩ := n2.at_ hfl
              have hil : i - n < ys.length := (List.getElem?_eq_some_iff.1 he).1
              have h7 : (i - n + 1) * j.size ≤ ys.length * j.size := Nat.mul_le_mul_right _ (by omega)
              have h8 : (n + (i - n)) * j.size = i * j.size := by congr 1; omega
              rw [Nat.add_mul] at h7 h8
              refine ⟨u, ?_, mono hru⟩
              rw [if_neg (by omega), if_pos (by rw [n1]; omega), show o' + off * j.size + i * j.size + jj - (o' + off * j.size + n * j.size) = (i - n) * j.size + jj by omega]; exact hu
        · injection e with e1 e2 e3
          subst e1; subst e2; subst e3
          exact ⟨hroom, fun _ => ⟨_, _, rfl⟩, by omega⟩
        · simp only [blkOf, Option.some.injEq] at hb; subst hb; exact .inl ⟨r, _, hg, rfl, hbk⟩
        · obtain ⟨k, o, h1, h2, h3⟩ := hb
          by_cases hk : k = id
          · subst hk; rw [AH.get_put_self] at h1; exact ⟨k, o, by rw [AH.get_put_self]; exact h1, h2, h3⟩
          · rw [AH.get_put_ne hk] at h1; exact ⟨k, o, by rw [AH.get_put_ne hk]; exact (AH.kill_get h1 h2).1, h2, h3⟩
    · refine Eff.less (H0 := H.kill r) (fun b h => Foot.kill h) ?_
      rw [← hqs]
      exact grow_effS (ev := ev) (o := o) hsub ho hcb hca hct hu hu' hz hi hzl hjs hid hσ (fun y hy => hbase.1 y hy) hE1 (sub_len hle) hsz o2 n2 o3 n3 hx hy (o4 w.drew cc rfl) (n4 w.drew) (by omega) (by rw [hqs]; exact h63) (by rw [hqs]; exact hby)
theorem appz_grow {t t' ty e : TypeId} {i : TypeInfo} {k k' : IntKind} {z : Value} (ht : P.underlying t = some (.slice e)) (ht' : P.underlying t' = some (.int k')) (hi : P.info? e = some i) (hz : i.zero = some z) {n : Nat} (h0 : 0 < n) (hs0 : i.size ≠ 0) (h63 : n ≤ maxLen) (hby : n * i.bytes ≤ 140737488355328) :
    (Builtin.append_ #[t, t'] ty #[.slice none 0 0, .int k n]).run P w = .ok (.slice (some ⟨w.heap.size, 0, none⟩) n (grownCap w n 0 e)) (w.drew.alloc (.cells (Builtin.zeroCells z.cells n ++ Builtin.zeroCells z.cells (grownCap w n 0 e - n)) e)) := by
  have hfit := growslice_fits (old := 0) h0 hby
  have hml : maxLen = 9223372036854775807 := by decide
  have hw : IntKind.i64.wrap (n : Int) = n := by rw [IntKind.wrap_i64]; omega
  have h1 : ¬ ((n : Int) < 0) := by omega
  have h2 : ¬ (9223372036854775807 < (n : Int)) := by omega
  have h3 : ¬ (281474976710656 < (n : Int) * i.bytes) := by
    rw [← Int.natCast_mul]; omega
  have h4 : ¬ (281474976710656 < Builtin.nextslicecap n 0 * i.bytes) := by omega
  have h5 : ¬ n = 0 := by omega
  simp [Builtin.append_, run_underlying ht, run_underlying ht', sizeOf, typeInfo, zeroValue, hi, hz, Builtin.lenOf, asInt, asIntOf, hw, h1, h2, h3, h4, h5, hs0, Question.forced, newRow, grownCap, Builtin.firstCells]
  intro h
  exact absurd h (Nat.mul_ne_zero h5 hs0)
theorem wr_apz {o : Oper} {c : Call} {s x : Operand} {t t' e : TypeId} {k' : IntKind} {z : List AV} {j : TypeInfo} {a : AV} {args : List AV} {id : Nat} {H' : AH} (hs : Sat P w S σ H) (hid : id < H.nx) (hσ : σ id = none) (ho : o.op = .call c) (hcb : c.callee = .builtin .append) (hca : c.args.toList = [s, x]) (hct : c.argTypes.toList = [t, t'])
    (hu : P.underlying t = some (.slice e)) (hu' : P.underlying t' = some (.int k')) (hz : zeroA P e = some z) (hi : P.info? e = some j) (hzl : z.length = j.size) (hjs : j.size ≠ 0) (hp : WrR P id (.apz e j.size j.bytes z) args H a H') (hr : Rps w S σ args [ev s, ev x]) : Eff P w S σ H ev o id a H' := by
  have hca' : c.args = #[s, x] := Array.toList_inj.1 hca
  have hct' : c.argTypes = #[t, t'] := Array.toList_inj.1 hct
  cases hp with
  | apz _ _ _ _ k n _ h0 h63 hby =>
    obtain ⟨v1, v2, e1, q1, q2⟩ := hr.two_inv
    simp only [List.cons.injEq, and_true] at e1
    obtain ⟨rfl, rfl⟩ := e1
    have hx := q1.p_inv.1
    have hy := q2.p_inv.1
    obtain ⟨m, rfl⟩ := Int.eq_ofNat_of_zero_le h0
    simp only [Int.toNat_natCast]
    have h63' : m ≤ maxLen := by omega
    have hby' : m * j.bytes ≤ 140737488355328 := by
      have hq : (m : Int) * (j.bytes : Int) ≤ 140737488355328 := hby
      rw [← Int.natCast_mul] at hq; omega
    obtain ⟨zv, hzv, hzs, hz1⟩ := zeroA_info hz hi
    by_cases hm : m = 0
    · subst hm
      refine none_eff hs hid hσ (B := none) ?_
      have hw : IntKind.i64.wrap 0 = 0 := by rw [IntKind.wrap_i64]; omega
      simp [execOp, ho, resolve, hcb, hca', hct', invoke, builtin, hx, hy, Builtin.append_, run_underlying hu, run_underlying hu', sizeOf, typeInfo, hi, Builtin.lenOf, asInt, asIntOf, hw]
    · have hrun := appz_grow (P := P) (w := w) (ty := o.type) (k := k) hu hu' hi hzv (n := m) (by omega) hjs h63' hby'
      have hge := grownCap_ge w m 0 e
      have hcm : grownCap w m 0 e ≤ maxLen := grownCap_le_maxLen w m 0 e h63'
      obtain ⟨v, hv, _, q1', q2'⟩ := zeroA_run (P := P) (w := w) (S := S) (σ := σ) hz
      have hvz : v = zv := by simp [zeroValue, typeInfo, hi, hzv] at hv; exact hv.symm
      subst hvz
      obtain ⟨z1, z2⟩ := zeros_rep q1' q2' (by omega) m
      have hrest : ∃ rest, Rps w S σ rest (Builtin.zeroCells v.cells (grownCap w m 0 e - m)).toList := ⟨_, anys _⟩
      obtain ⟨rest, hrest⟩ := hrest
      have hl : (List.replicate m z).length = m := List.length_replicate
      have := row_eff1 (ev := ev) (o := o) hs (w1 := w.drew) ⟨rfl, rfl, rfl, rfl⟩ hid hσ (t := e) (sz := j.size) (c := grownCap w m 0 e) (es := List.replicate m z) (rest := rest)
        (arr := Builtin.zeroCells v.cells m ++ Builtin.zeroCells v.cells (grownCap w m 0 e - m)) (fun e he => by rw [(List.mem_replicate.1 he).2]; exact hzl)
        (by rw [Array.toList_append]; exact z1.append hrest) (fun u hu => by
          rcases Array.mem_append.1 hu with hu | hu
          · exact z2 u hu
          · exact zc_one hz1 (by omega) _ u hu) (by rw [hl]; exact hge) hcm (by
          simp only [Array.size_append, size_zeroCells, hzs, hzl, ← Nat.add_mul]
          exact Nat.mul_le_mul_right _ (by omega)) (by
          rw [hl]
          simp [execOp, ho, resolve, hcb, hca', hct', invoke, builtin, hx, hy, hrun])
      rwa [hl] at this
theorem rep_flat_len (n : Nat) (z : List AV) : (List.replicate n z).flatten.length = n * z.length := by simp
theorem wr_clr {o : Oper} {c : Call} {s : Operand} {t e : TypeId} {z : List AV} {j : TypeInfo} {a : AV} {args : List AV} {id : Nat} {H' : AH} (hs : Sat P w S σ H) (ho : o.op = .call c) (hcb : c.callee = .builtin .clear) (hca : c.args.toList = [s]) (hct : c.argTypes.toList = [t])
    (hu : P.underlying t = some (.slice e)) (hz : zeroA P e = some z) (hi : P.info? e = some j) (hzl : z.length = j.size) (hjs : j.size ≠ 0) (hp : WrR P id (.clr j.size z) args H a H') (hr : Rps w S σ args [ev s]) : Eff P w S σ H ev o id a H' := by
  have hca' : c.args = #[s] := Array.toList_inj.1 hca
  have hct' : c.argTypes = #[t] := Array.toList_inj.1 hct
  cases hp with
  | clr _ r off n _ t2 es _ hg hle =>
    obtain ⟨v1, e1, q1⟩ := hr.one_inv
    injection e1 with e1; subst e1
    obtain ⟨Ar, B, N, cr, cc, hx, hσr, k1, k2, k3⟩ := q1.osl_inv
    obtain ⟨A', c', m1, m2, m3, m4, m5⟩ := hs.obj r _ hg
    rw [hσr] at m1
    simp only [Option.some.injEq, Value.slice.injEq] at m1
    obtain ⟨rfl, rfl, rfl⟩ := m1
    by_cases h0 : n = 0
    · subst h0
      have hrun : (execOp ev o).run P w = .ok (.value (.tuple #[])) w := by
        cases B <;> simp [execOp, ho, resolve, hcb, hca', hct', invoke, builtin, hx, Builtin.clear_, run_underlying hu]
      have hsame : es.take off ++ List.replicate 0 z ++ es.drop (off + 0) = es := by simp
      rw [hsame]
      have hget : ∀ id, (H.put r (.row t2 j.size es)).get id = H.get id := fun id => by
        by_cases e : id = r
        · subst e; rw [AH.get_put_self, hg]
        · rw [AH.get_put_ne e]
      exact ⟨_, w, σ, hrun, .inl ⟨_, rfl, .any _⟩, hs.congr hget (Nat.le_refl _), Ext.lessR (Ext.refl w S σ H) (fun b hb => Foot.less (fun id o h => by rw [← hget]; exact h) hb), fun _ _ => rfl⟩
    · rcases m5 with ⟨_, m5⟩ | ⟨g, o', arr, rfl, p1, p2, p3, p4⟩
      · omega
      have hB : B = some ⟨g, o' + off * j.size, none⟩ := by rw [k3 (by omega), Option.map_some, addr_add]
      subst hB
      obtain ⟨v, hv, _, q1', q2'⟩ := zeroA_run (P := P) (w := w) (S := S) (σ := σ) hz
      obtain ⟨z1, z2⟩ := zeros_rep q1' q2' (by omega) n
      change Rps w S σ _ (Builtin.zeroCells v.cells n).toList at z1
      have hzl' : ((Builtin.zeroCells v.cells n).toList).length = n * j.size := by rw [← z1.1, rep_flat_len, hzl]
      have hoff : (off + n) * j.size ≤ es.length * j.size := Nat.mul_le_mul_right _ hle
      have hesc : es.length * j.size ≤ cr * j.size := Nat.mul_le_mul_right _ m3
      rw [Nat.add_mul] at hoff
      have hfit : o' + off * j.size + ((Builtin.zeroCells v.cells n).toList).length ≤ arr.size := by rw [hzl']; omega
      have hst := run_storeCells_at (P := P) g (o' + off * j.size) t2 (Builtin.zeroCells v.cells n).toList 0 arr w p1 (by omega) (fun u hu => z2 u (Array.mem_toList_iff.1 hu))
      simp only [Nat.add_zero] at hst
      have hrun : (execOp ev o).run P w = .ok (.value (.tuple #[])) (w.setRow g (arr.toList.take (o' + off * j.size) ++ (Builtin.zeroCells v.cells n).toList ++ arr.toList.drop (o' + off * j.size + (Builtin.zeroCells v.cells n).toList.length)).toArray) := by
        simp [execOp, ho, resolve, hcb, hca', hct', invoke, builtin, hx, Builtin.clear_, run_underlying hu, hv, h0] at hst ⊢
        rw [hst]
        rfl
      have hspl : ∀ q, (arr.toList.take (o' + off * j.size) ++ (Builtin.zeroCells v.cells n).toList ++ arr.toList.drop (o' + off * j.size + (Builtin.zeroCells v.cells n).toList.length))[q]? = _ := fun q => splice_get arr.toList (Builtin.zeroCells v.cells n).toList (o' + off * j.size) q (by rw [Array.length_toList]; exact hfit)
      have hrl : (List.replicate n z).length = n := List.length_replicate
      have hel : ∀ q, (es.take off ++ List.replicate n z ++ es.drop (off + n))[q]? = if q < off then es[q]? else if q < off + n then some z else es[q]? := fun q => by
        have := splice_get es (List.replicate n z) off q (by rw [hrl]; exact hle)
        rw [hrl] at this
        rw [this]
        split
        · rfl
        · split
          · rw [List.getElem?_replicate, if_pos (by omega)]
          · rfl
      have hlen : (es.take off ++ List.replicate n z ++ es.drop (off + n)).length = es.length := by
        have := splice_len es (List.replicate n z) off (by rw [hrl]; exact hle)
        rw [hrl] at this; exact this
      refine set_eff1 hs hg rfl hσr rfl p1 (hs.dom _ _ hσr) (.inl ⟨_, rfl⟩) hrun (fun w' hk hb => ⟨_, cr, by rw [hσr, hlen], fun x hx => ?_, by rw [hlen]; exact m3, m4, .inr ⟨g, o', _, rfl, hb, ?_, fun u hu => ?_, fun i' e' j' b he hb' => ?_⟩⟩)
      · obtain ⟨q, hq⟩ := List.getElem?_of_mem hx
        rw [hel] at hq
        split at hq
        · exact m2 x (List.mem_of_getElem? hq)
        · split at hq
          · injection hq with hq; subst hq; exact hzl
          · exact m2 x (List.mem_of_getElem? hq)
      · rw [List.size_toArray, splice_len _ _ _ (by rw [Array.length_toList]; exact hfit), Array.length_toList]; exact p2
      · rw [← Array.mem_toList_iff, List.toList_toArray] at hu
        rcases List.mem_append.1 hu with hu | hu
        · rcases List.mem_append.1 hu with hu | hu
          · exact p3 u (Array.mem_toList_iff.1 (List.mem_of_mem_take hu))
          · exact z2 u (Array.mem_toList_iff.1 hu)
        · exact p3 u (Array.mem_toList_iff.1 (List.mem_of_mem_drop hu))
      · rw [List.getElem?_toArray, hspl]
        rw [hel] at he
        have mono : ∀ {a : AV} {v : Value}, Rp w S σ a v → Rp w' S σ a v := fun h => h.mono (fun _ h => h) (fun b hS => hk b (fun e => hs.sep r _ b hg rfl (by rw [hσr, e]; rfl) hS)) (fun _ _ h => h)
        by_cases hi1 : i' < off
        · rw [if_pos hi1] at he
          have hjl : j' < j.size := by have := (List.getElem?_eq_some_iff.1 hb').1; rw [m2 e' (List.mem_of_getElem? he)] at this; exact this
          obtain ⟨u, hu, hru⟩ := p4 i' e' j' b he hb'
          have : (i' + 1) * j.size ≤ off * j.size := Nat.mul_le_mul_right _ (by omega)
          rw [Nat.add_mul, Nat.one_mul] at this
          exact ⟨u, by rw [if_pos (by omega), Array.getElem?_toList]; exact hu, mono hru⟩
        · rw [if_neg hi1] at he
          by_cases hi2 : i' < off + n
          · rw [if_pos hi2] at he
            injection he with he
            subst he
            have hjl : j' < j.size := by have := (List.getElem?_eq_some_iff.1 hb').1; omega
            have hfl := flat_elem (es := List.replicate n z) (sz := j.size) (fun e he => by rw [(List.mem_replicate.1 he).2]; exact hzl) (i' - off) z j' b (by rw [List.getElem?_replicate, if_pos (by omega)]) hb'
            obtain ⟨u, hu, hru⟩ := z1.at_ hfl
            have h7 : (i' - off + 1) * j.size ≤ n * j.size := Nat.mul_le_mul_right _ (by omega)
            have h8 : (off + (i' - off)) * j.size = i' * j.size := by congr 1; omega
            rw [Nat.add_mul] at h7 h8
            refine ⟨u, ?_, mono hru⟩
            rw [if_neg (by omega), if_pos (by rw [hzl']; omega), show o' + i' * j.size + j' - (o' + off * j.size) = (i' - off) * j.size + j' by omega]; exact hu
          · rw [if_neg hi2] at he
            obtain ⟨u, hu, hru⟩ := p4 i' e' j' b he hb'
            have : (off + n) * j.size ≤ i' * j.size := Nat.mul_le_mul_right _ (by omega)
            rw [Nat.add_mul] at this
            exact ⟨u, by rw [if_neg (by omega), if_neg (by rw [hzl']; omega), Array.getElem?_toList]; exact hu, mono hru⟩
theorem lies_bytes {e : TypeId} (hc : P.cellsOf e = 1) (count off n : Nat) (hn : off + n ≤ count) : liesAt P P.depth e count off e n = true := by
  have hd : P.depth = (2 * (P.types.size + Made.depth) + 1) + 1 := rfl
  rw [hd]
  simp only [liesAt, Bool.or_eq_true]
  left
  rw [hd]
  simp [rowAt, hc, hn, sameLayout, Nat.mod_one]
theorem ust_run {pt it ty e : TypeId} (hp : P.underlying pt = some (.pointer e)) (hc : P.cellsOf e = 1) {g o cells : Nat} (hsh : w.shape? g = some (e, cells)) {l : List UInt8} (h0 : l ≠ []) (hn : o + l.length ≤ cells) (h63 : l.length ≤ 9223372036854775807)
    (hcell : ∀ j x, l[j]? = some x → w.cell? ((⟨g, o, none⟩ : Addr).add j) = some (.int .u8 x.toNat)) :
    (Builtin.unsafeString_ #[pt, it] ty #[.pointer (some ⟨g, o, none⟩), .int .i64 l.length]).run P w = .ok (.string ⟨l.toArray⟩) (w.freeze ⟨g, o, none⟩ l.length) := by
  have hl : l.length ≠ 0 := by simpa using h0
  have hlb := Lib.run_loadBytes (P := P) w l ⟨g, o, none⟩ .empty hcell
  have hlies := lies_bytes (P := P) hc (cells / P.cellsOf e) o l.length (by rw [hc]; simpa using hn)
  have h63' : ¬ (9223372036854775807 : Int) < (l.length : Int) := by omega
  have hmax : IntKind.i64.max = 9223372036854775807 := rfl
  have hneg : ¬ (l.length : Int) < 0 := by omega
  show (asInt (Value.int .i64 (l.length : Int)) >>= _).run P w = _
  simp [asInt, asIntOf, hmax, h63', hneg, hl, variablesAt, hsh, elemOf, run_underlying hp, hlies, hlb]
theorem freeze_keep (w : World) (g o n b : Nat) (h : b ≠ g) : (w.freeze ⟨g, o, none⟩ n).heap[b]? = w.heap[b]? := by
  unfold World.freeze
  split
  · rfl
  · simp only [Array.getElem?_modify]
    rw [if_neg (fun e => h e.symm)]
theorem freeze_rest (w : World) (g o n : Nat) : (w.freeze ⟨g, o, none⟩ n).os = w.os ∧ (w.freeze ⟨g, o, none⟩ n).tape = w.tape ∧ (w.freeze ⟨g, o, none⟩ n).output = w.output ∧ (w.freeze ⟨g, o, none⟩ n).heap.size = w.heap.size := by
  unfold World.freeze
  split
  · exact ⟨rfl, rfl, rfl, rfl⟩
  · exact ⟨rfl, rfl, rfl, by simp⟩
theorem wr_ust {o : Oper} {c : Call} {p n : Operand} {pt it e : TypeId} {a : AV} {args : List AV} {id : Nat} {H' : AH} (hs : Sat P w S σ H) (ho : o.op = .call c) (hcb : c.callee = .builtin .unsafeString) (hca : c.args.toList = [p, n]) (hct : c.argTypes.toList = [pt, it])
    (hu : P.underlying pt = some (.pointer e)) (hce : P.cellsOf e = 1) (hp : WrR P id (.ust e) args H a H') (hr : Rps w S σ args [ev p, ev n]) : Eff P w S σ H ev o id a H' := by
  have hca' : c.args = #[p, n] := Array.toList_inj.1 hca
  have hct' : c.argTypes = #[pt, it] := Array.toList_inj.1 hct
  cases hp with
  | ust_row _ r i m es q _ hg h0 hle hq =>
    obtain ⟨v1, v2, e1, q1, q2⟩ := hr.two_inv
    simp only [List.cons.injEq, and_true] at e1
    obtain ⟨rfl, rfl⟩ := e1
    have hn := q2.p_inv.1
    obtain ⟨g, o1, N, cr, hx, hσ⟩ := q1.eptr_inv
    obtain ⟨A', c', m1, m2, m3, m4, m5⟩ := hs.obj r _ hg
    rw [hσ] at m1
    simp only [Option.some.injEq, Value.slice.injEq] at m1
    obtain ⟨rfl, rfl, rfl⟩ := m1
    rcases m5 with ⟨m5, _⟩ | ⟨g', o', arr, m5, k1, k2, k3, k4⟩
    · cases m5
    simp only [Option.some.injEq, Addr.mk.injEq, and_true] at m5
    obtain ⟨rfl, rfl⟩ := m5
    rw [Nat.mul_one, Nat.add_zero] at hx
    have hlen : q.data.toList.length = m := by
      have := congrArg List.length hq
      rw [sub_len hle, strE_len] at this
      rw [Array.length_toList]; exact this.symm
    have hcell : ∀ j x, q.data.toList[j]? = some x → w.cell? ((⟨g, o1 + i, none⟩ : Addr).add j) = some (.int .u8 x.toNat) := by
      intro j x hj
      have he : ((es.drop i).take m)[j]? = some [.p (.int .u8 x.toNat)] := by
        rw [hq]; unfold strE; rw [List.getElem?_map, hj]; rfl
      obtain ⟨_, he'⟩ := sub_at he
      obtain ⟨u, hu', hru⟩ := k4 (i + j) _ 0 _ he' rfl
      rw [hru.p_inv.1] at hu'
      rw [addr_add, k1.cell, ← hu']
      congr 1; omega
    have hk1 : w.heap[g]? = some (.cells arr e (0, 0)) := k1
    have hsh : w.shape? g = some (e, arr.size) := by simp [World.shape?, hk1]
    have hml : maxLen = 9223372036854775807 := by decide
    have hrun := ust_run (P := P) (w := w) (it := it) (ty := o.type) hu hce hsh (l := q.data.toList) (o := o1 + i) (by intro e; rw [e] at hlen; simp at hlen; omega) (by omega) (by omega) hcell
    rw [hlen] at hrun
    have hexec : (execOp ev o).run P w = .ok (.value (.string q)) (w.freeze ⟨g, o1 + i, none⟩ m) := by
      have hqq : (⟨q.data.toList.toArray⟩ : ByteArray) = q := by cases q; simp
      rw [hqq] at hrun
      simp [execOp, ho, resolve, hcb, hca', hct', invoke, builtin, hx, hn, hrun]
    obtain ⟨f1, f2, f3, f4⟩ := freeze_rest w g (o1 + i) m
    have hnone : ∀ x, σ r = some x → x = .slice (some ⟨g, o1, none⟩) es.length cr := fun x hx => by rw [hσ] at hx; injection hx with hx; exact hx.symm
    have hsp := sput_id hσ
    have hbk : (σ r).bind blkOf = some g := by rw [hσ]; rfl
    have hkeep : ∀ b, b < w.heap.size → blkOf (.slice (some ⟨g, o1, none⟩) es.length cr) ≠ some b → (w.freeze ⟨g, o1 + i, none⟩ m).heap[b]? = w.heap[b]? := fun b _ hne => freeze_keep w g _ m b (fun e => hne (by rw [e]; rfl))
    have hsat := hs.upd (w' := w.freeze ⟨g, o1 + i, none⟩ m) (k := r) (o' := .dead) (hs.dom _ _ hσ) hnone (by rw [f4]; exact Nat.le_refl _) hkeep (fun b hb => by
        simp only [blkOf, Option.some.injEq] at hb; subst hb
        exact ⟨hs.sep r _ g hg rfl hbk, fun k o2 hk h2 h3 h4 => hk (hs.dj k r o2 _ g h2 hg h3 rfl h4 hbk)⟩)
      (by rw [hsp]; show (σ r).isSome = true; rw [hσ]; rfl) (fun j o b h1 h2 h3 => hs.lt h1 h2 h3) (fun A n c e => hs.sl r A n c (by rw [hσ, e]))
    have hext := Ext.upd (w' := w.freeze ⟨g, o1 + i, none⟩ m) (k := r) (o' := .dead) hs hnone f1 f2 f3 (by rw [f4]; exact Nat.le_refl _) hkeep (fun b hb => by
        simp only [blkOf, Option.some.injEq] at hb; subst hb; exact .inl ⟨r, _, hg, rfl, hbk⟩)
    rw [hsp] at hsat hext
    exact ⟨_, _, σ, hexec, .inl ⟨_, rfl, .data _ _ (.p _ rfl)⟩, hsat, hext, fun _ _ => rfl⟩
  | ust_nil =>
    obtain ⟨v1, v2, e1, q1, q2⟩ := hr.two_inv
    simp only [List.cons.injEq, and_true] at e1
    obtain ⟨rfl, rfl⟩ := e1
    have hrun := Lib.run_unsafeString_none (P := P) w pt it o.type none
    refine ⟨_, w, σ, ?_, .inl ⟨_, rfl, .data _ _ (.p _ rfl)⟩, hs, Ext.refl _ _ _ _, fun _ _ => rfl⟩
    simp [execOp, ho, resolve, hcb, hca', hct', invoke, builtin, q1.p_inv.1, q2.p_inv.1, hrun]
/-- an operation that writes -/
theorem wr_sound {o : Oper} {wo : WO} {xs : List Operand} {args : List AV} {a : AV} {id : Nat} {H' : AH} (hs : Sat P w S σ H) (hid : id < H.nx ∧ σ id = none) (hc : clsW P o.op = some (wo, xs)) (hp : WrR P id wo args H a H') (hr : Rps w S σ args (xs.map ev)) : Eff P w S σ H ev o id a H' := by
  cases ho : o.op <;> rw [ho] at hc <;> simp only [clsW] at hc <;> try (cases hc; done)
  case store t x v =>
    cases hi : P.info? t with
    | none => rw [hi] at hc; cases hc
    | some j =>
      rw [hi] at hc
      simp only [Option.map_some, Option.some.injEq, Prod.mk.injEq] at hc
      obtain ⟨rfl, rfl⟩ := hc
      exact wr_store hs ho hi hp hr
  case mapUpdate t m k v =>
    revert hc
    split
    · rename_i kt ve hu
      intro hc
      simp only [Option.some.injEq, Prod.mk.injEq] at hc
      obtain ⟨rfl, rfl⟩ := hc
      exact wr_mset hs (.inl ho) hu hp hr
    · intro hc; cases hc
  case insert t m k v =>
    revert hc
    split
    · rename_i kt ve hu
      intro hc
      simp only [Option.some.injEq, Prod.mk.injEq] at hc
      obtain ⟨rfl, rfl⟩ := hc
      exact wr_mset hs (.inr ho) hu hp hr
    · intro hc; cases hc
  case call c =>
    revert hc
    split
    · rename_i s x t t' hcb hca hct
      split
      · rename_i e hu
        split
        · rename_i z j hz hi
          split
          · split
            · intro hc; cases hc
            · rename_i hcond
              simp only [not_or, ne_eq, Decidable.not_not] at hcond
              obtain ⟨c2, c3⟩ := hcond
              split
              · rename_i k' hu'
                intro hc
                simp only [Option.some.injEq, Prod.mk.injEq] at hc
                obtain ⟨rfl, rfl⟩ := hc
                exact wr_apz hs hid.1 hid.2 ho hcb hca hct hu hu' hz hi c3 c2 hp hr
              · rename_i hu'
                split
                · rename_i hj1
                  intro hc
                  simp only [Option.some.injEq, Prod.mk.injEq] at hc
                  obtain ⟨rfl, rfl⟩ := hc
                  exact wr_aps hs hid.1 hid.2 ho hcb hca hct hu hu' hj1 hz hi c3 c2 hp hr
                · intro hc; cases hc
              · intro hc; cases hc
          · rename_i hcond
            simp only [not_or, ne_eq, Decidable.not_not] at hcond
            obtain ⟨rfl, c2, c3⟩ := hcond
            intro hc
            simp only [Option.some.injEq, Prod.mk.injEq] at hc
            obtain ⟨rfl, rfl⟩ := hc
            exact wr_app hs hid.1 hid.2 ho hcb hca hct hu hz hi c3 c2 hp hr
        · intro hc; cases hc
      · intro hc; cases hc
    · rename_i s t hcb hca hct
      split
      · rename_i e hu
        split
        · rename_i z j hz hi
          split
          · intro hc; cases hc
          · rename_i hcond
            simp only [not_or, ne_eq, Decidable.not_not] at hcond
            obtain ⟨c2, c3⟩ := hcond
            intro hc
            simp only [Option.some.injEq, Prod.mk.injEq] at hc
            obtain ⟨rfl, rfl⟩ := hc
            exact wr_clr hs ho hcb hca hct hu hz hi c3 c2 hp hr
        · intro hc; cases hc
      · intro hc; cases hc
    · rename_i p n pt it hcb hca hct
      split
      · rename_i e hu
        split
        · rename_i hce
          intro hc
          simp only [Option.some.injEq, Prod.mk.injEq] at hc
          obtain ⟨rfl, rfl⟩ := hc
          exact wr_ust hs ho hcb hca hct hu hce hp hr
        · intro hc; cases hc
      · intro hc; cases hc
    · intro hc; cases hc
end
end Go.Proofs.Ytgkkilbeingleaa

/- What names only things that are there; what is data wherever it lies; a row that a call has laid is told as one laid here. Nothing of the program is named here. -/
namespace Go.Proofs.Ytgkkilbeingleaa
open Go.RowKit Go.Maps

/-- what is data wherever it lies -/
def Dt (a : AV) : Prop := ∀ w S σ v, Rp w S σ a v → RpD w S a v
def DtR (es : List (List AV)) : Prop := ∀ e ∈ es, ∀ a ∈ e, Dt a
theorem Dt.p (v : Value) : Dt (.p v) := fun _ _ _ u h => by obtain ⟨rfl, h1⟩ := h.p_inv; exact .p _ h1
theorem Dt.dsl (sz : Nat) (xs : List (List AV)) : Dt (.dsl sz xs) := fun _ _ _ _ h => h.dsl_inv
section
variable {P : Program} {w : World} {S : Nat → Prop} {σ : Nat → Option Value} {H H0 H1 H2 V : AH} {B : Nat}
def cutS (B : Nat) (σ : Nat → Option Value) : Nat → Option Value := fun id => if id < B then σ id else none
theorem cutS_lt {id : Nat} (h : id < B) : cutS B σ id = σ id := by simp [cutS, h]
theorem cutS_some {id : Nat} {u : Value} (h : cutS B σ id = some u) : id < B ∧ σ id = some u := by
  unfold cutS at h
  split at h
  · exact ⟨by assumption, h⟩
  · cases h
/-- what names nothing from B on -/
def Cl (B : Nat) (a : AV) : Prop := ∀ w S σ v, Rp w S σ a v → Rp w S (cutS B σ) a v
def Clo (B : Nat) (ps : List AV) : Prop := ∀ a ∈ ps, Cl B a
theorem Clo.rps {ps : List AV} {vs : List Value} (h : Clo B ps) (hr : Rps w S σ ps vs) : Rps w S (cutS B σ) ps vs := ⟨hr.1, fun i a v ha hv => h a (List.mem_of_getElem? ha) _ _ _ _ (hr.2 i a v ha hv)⟩
theorem Clo.nil : Clo B [] := fun _ h => by cases h
theorem Clo.cons {a : AV} {ps : List AV} (h : Cl B a) (k : Clo B ps) : Clo B (a :: ps) := fun x hx => by
  rcases List.mem_cons.1 hx with rfl | hx
  · exact h
  · exact k x hx
theorem Clo.one {a : AV} (h : Cl B a) : Clo B [a] := .cons h .nil
theorem Cl.any : Cl B .any := fun _ _ _ _ _ => .any _
theorem Cl.p (v : Value) : Cl B (.p v) := fun _ _ _ u h => by obtain ⟨rfl, h1⟩ := h.p_inv; exact .data _ _ (.p _ h1)
theorem Cl.dsl (sz : Nat) (xs : List (List AV)) : Cl B (.dsl sz xs) := fun w S σ u h => by
  cases h with
  | data _ _ h => exact .data _ _ h
theorem Cl.dptr (sz : Nat) (xs : List (List AV)) (i j : Nat) : Cl B (.dptr sz xs i j) := fun w S σ u h => by
  cases h with
  | data _ _ h => cases h
  | dptr _ _ _ _ g o c h hi => exact .dptr _ _ _ _ g o c h hi
theorem Cl.ptr {id off : Nat} (h : id < B) : Cl B (.ptr id off) := fun w S σ u hr => by
  obtain ⟨g, rfl, hg⟩ := hr.ptr_inv; exact .ptr _ _ _ (by rw [cutS_lt h]; exact hg)
theorem Cl.mp {id : Nat} (h : id < B) : Cl B (.mp id) := fun w S σ u hr => by
  obtain ⟨g, rfl, hg⟩ := hr.mp_inv; exact .mp _ _ (by rw [cutS_lt h]; exact hg)
theorem Cl.eptr {id sz i j : Nat} (h : id < B) : Cl B (.eptr id sz i j) := fun w S σ u hr => by
  obtain ⟨g, o, n, c, rfl, hg⟩ := hr.eptr_inv; exact .eptr _ _ _ _ _ _ n c (by rw [cutS_lt h]; exact hg)
theorem Cl.osl {id sz off n : Nat} (h : id < B) : Cl B (.osl id sz off n) := fun w S σ u hr => by
  obtain ⟨A, Bx, N, c, cc, rfl, hg, h1, h2, h3⟩ := hr.osl_inv; exact .osl _ _ _ _ A _ N c _ (by rw [cutS_lt h]; exact hg) h1 h2 h3
theorem Cl.agg {cs : List AV} (h : Clo B cs) : Cl B (.agg cs) := fun w S σ u hr => by
  cases hr with
  | data _ _ hd => exact .data _ _ hd
  | agg _ vs hl hc h1 => exact .agg _ _ hl (fun i a v ha hv => h a (List.mem_of_getElem? ha) _ _ _ _ (hc i a v ha hv)) h1
theorem Cl.tup {cs : List AV} (h : Clo B cs) : Cl B (.tup cs) := fun w S σ u hr => by
  cases hr with
  | data _ _ hd => cases hd
  | tup _ vs hl hc => exact .tup _ _ hl (fun i a v ha hv => h a (List.mem_of_getElem? ha) _ _ _ _ (hc i a v ha hv))
theorem Cl.fn {f : Fn} {xs ys : List AV} (h : Clo B xs) (k : Clo B ys) : Cl B (.fn f xs ys) := fun w S σ u hr => by
  cases hr with
  | data _ _ hd => cases hd
  | fn _ _ _ fs cs h1 h2 h3 h4 => exact .fn _ _ _ fs cs h1 h2 (fun i a v ha hv => h a (List.mem_of_getElem? ha) _ _ _ _ (h3 i a v ha hv)) (fun i a v ha hv => k a (List.mem_of_getElem? ha) _ _ _ _ (h4 i a v ha hv))
theorem exRows {ps : List AV} {n : Nat} (hl : ps.length = n) {vs : List Value} (hv : vs.length = n) {i : Nat} {a : AV} (ha : ps[i]? = some a) : ∃ v, vs[i]? = some v := by
  have : i < ps.length := (List.getElem?_eq_some_iff.1 ha).1
  exact ⟨_, List.getElem?_eq_getElem (by omega)⟩
theorem RpD.cl {a : AV} {v : Value} (h : RpD w S a v) : Cl B a := by
  induction h with
  | p v _ => exact .p v
  | agg cs vs hl _ h1 ih =>
    refine .agg fun a ha => ?_
    obtain ⟨i, hi⟩ := List.getElem?_of_mem ha
    obtain ⟨u, hu⟩ := exRows hl (vs := vs.toList) (by simp) hi
    exact ih i a u hi (by simpa using hu)
  | dsl sz xs A c z h1 h2 h3 h4 _ h6 ih => exact .dsl _ _
theorem Rp.cl {a : AV} {v : Value} (h : Rp w S σ a v) (hd : ∀ id u, σ id = some u → id < B) : Cl B a := by
  induction h with
  | any v => exact .any
  | data a v h => exact h.cl
  | agg cs vs hl _ h1 ih =>
    refine .agg fun a ha => ?_
    obtain ⟨i, hi⟩ := List.getElem?_of_mem ha
    obtain ⟨u, hu⟩ := exRows hl (vs := vs.toList) (by simp) hi
    exact ih i a u hi (by simpa using hu)
  | tup cs vs hl _ ih =>
    refine .tup fun a ha => ?_
    obtain ⟨i, hi⟩ := List.getElem?_of_mem ha
    obtain ⟨u, hu⟩ := exRows hl (vs := vs.toList) (by simp) hi
    exact ih i a u hi (by simpa using hu)
  | dptr sz xs i j g o c h hi => exact .dptr _ _ _ _
  | ptr id off g h => exact .ptr (hd _ _ h)
  | eptr id sz i j g o n c h => exact .eptr (hd _ _ h)
  | osl id sz off n A Bx N c cc h h1 h2 h3 => exact .osl (hd _ _ h)
  | mp id g h => exact .mp (hd _ _ h)
  | fn f xs ys fs cs h1 h2 _ _ ih1 ih2 =>
    refine .fn (fun a ha => ?_) (fun a ha => ?_)
    · obtain ⟨i, hi⟩ := List.getElem?_of_mem ha
      obtain ⟨u, hu⟩ := exRows h1 (vs := fs.toList) (by simp) hi
      exact ih1 i a u hi (by simpa using hu)
    · obtain ⟨i, hi⟩ := List.getElem?_of_mem ha
      obtain ⟨u, hu⟩ := exRows h2 (vs := cs.toList) (by simp) hi
      exact ih2 i a u hi (by simpa using hu)
def ClO (B : Nat) : AO → Prop
  | .box _ cs => Clo B cs
  | .row _ _ es => ∀ e ∈ es, Clo B e
  | .crow _ _ _ es => ∀ e ∈ es, Clo B e
  | .map _ _ f => ∀ k a, f k = some a → Cl B a
  | .smap _ _ f _ _ => ∀ k a, f k = some a → Cl B a
  | .miter m _ _ _ => m < B
  | _ => True
/-- each object names what is there -/
def WF (H : AH) : Prop := ∀ id o, H.get id = some o → id < H.nx ∧ ClO H.nx o
theorem Rps.clo {ps : List AV} {vs : List Value} (h : Rps w S σ ps vs) (hd : ∀ id u, σ id = some u → id < B) : Clo B ps := fun a ha => by
  obtain ⟨i, hi⟩ := List.getElem?_of_mem ha
  obtain ⟨u, hu⟩ := exRows h.1 (vs := vs) rfl hi
  exact (h.2 i a u hi hu).cl hd
theorem ObjOk.in_σ {id : Nat} {o : AO} (h : ObjOk P w S σ id o) : ∃ u, σ id = some u := by
  cases o with
  | box t cs => obtain ⟨g, arr, h1, _⟩ := h; exact ⟨_, h1⟩
  | row t sz es => obtain ⟨A, c, h1, _⟩ := h; exact ⟨_, h1⟩
  | frz sz es => obtain ⟨A, c, h1, _⟩ := h; exact ⟨_, h1⟩
  | crow t sz c es => obtain ⟨A, N, h1, _⟩ := h; exact ⟨_, h1⟩
  | map kt m f => obtain ⟨g, f', h1, _⟩ := h; exact ⟨_, h1⟩
  | siter s p => obtain ⟨g, h1, _⟩ := h; exact ⟨_, h1⟩
  | dead => exact Option.isSome_iff_exists.1 h
  | smap kt m f st c => obtain ⟨g, f', es, h1, _⟩ := h; exact ⟨_, h1⟩
  | miter m st c vis => obtain ⟨r, g, seen, h1, _⟩ := h; exact ⟨_, h1⟩
theorem Sat.wf (h : Sat P w S σ H) : WF H := fun id o ho => by
  have hk := h.obj id o ho
  obtain ⟨u, hu⟩ := hk.in_σ
  refine ⟨h.dom _ _ hu, ?_⟩
  cases o with
  | box t cs => obtain ⟨g, arr, h1, h2, h3, h4⟩ := hk; exact h3.clo h.dom
  | row t sz es =>
    obtain ⟨A, c, h1, h2, h3, h4, h5⟩ := hk
    intro e he a ha
    obtain ⟨i, hi⟩ := List.getElem?_of_mem he
    obtain ⟨j, hj⟩ := List.getElem?_of_mem ha
    rcases h5 with ⟨_, hc⟩ | ⟨g, o, arr, _, _, _, _, h6⟩
    · have := (List.getElem?_eq_some_iff.1 hi).1; omega
    · obtain ⟨v, _, hv⟩ := h6 i e j a hi hj; exact hv.cl h.dom
  | crow t sz c es =>
    obtain ⟨A, N, h1, h2, h3, h4, h5⟩ := hk
    intro e he a ha
    obtain ⟨i, hi⟩ := List.getElem?_of_mem he
    obtain ⟨j, hj⟩ := List.getElem?_of_mem ha
    rcases h5 with ⟨_, hc⟩ | ⟨g, o, arr, _, _, _, _, h6⟩
    · have := (List.getElem?_eq_some_iff.1 hi).1; omega
    · obtain ⟨v, _, hv⟩ := h6 i e j a hi hj; exact hv.cl h.dom
  | map kt n f =>
    obtain ⟨g, f', h1, h2, h3⟩ := hk
    intro k a ha
    rcases h3 k with ⟨h4, _⟩ | ⟨a', v, h4, _, h6⟩
    · rw [h4] at ha; cases ha
    · rw [h4] at ha; injection ha with ha; subst ha; exact h6.cl h.dom
  | smap kt n f st c =>
    obtain ⟨g, f', es, h1, h2, _, _, h3⟩ := hk
    intro k a ha
    rcases h3 k with ⟨h4, _⟩ | ⟨a', v, h4, _, h6⟩
    · rw [h4] at ha; cases ha
    · rw [h4] at ha; injection ha with ha; subst ha; exact h6.cl h.dom
  | miter m st c vis => obtain ⟨r, g, seen, h1, h2, _⟩ := hk; exact h.dom _ _ h2
  | _ => trivial
theorem ObjOk.cut {id : Nat} {o : AO} (h : ObjOk P w S σ id o) (hi : id < B) (hc : ClO B o) : ObjOk P w S (cutS B σ) id o := by
  cases o with
  | box t cs => obtain ⟨g, arr, h1, h2, h3, h4⟩ := h; exact ⟨g, arr, by rw [cutS_lt hi]; exact h1, h2, Clo.rps hc h3, h4⟩
  | row t sz es =>
    obtain ⟨A, c, h1, h2, h3, h4, h5⟩ := h
    refine ⟨A, c, by rw [cutS_lt hi]; exact h1, h2, h3, h4, ?_⟩
    rcases h5 with h5 | ⟨g, o, arr, k1, k2, k3, k4, k5⟩
    · exact .inl h5
    · refine .inr ⟨g, o, arr, k1, k2, k3, k4, fun i e j a he ha => ?_⟩
      obtain ⟨v, hv, hr⟩ := k5 i e j a he ha
      exact ⟨v, hv, hc e (List.mem_of_getElem? he) a (List.mem_of_getElem? ha) _ _ _ _ hr⟩
  | frz sz es => obtain ⟨A, c, h1, h2⟩ := h; exact ⟨A, c, by rw [cutS_lt hi]; exact h1, h2⟩
  | crow t sz c es =>
    obtain ⟨A, N, h1, h2, h3, h4, h5⟩ := h
    refine ⟨A, N, by rw [cutS_lt hi]; exact h1, h2, h3, h4, ?_⟩
    rcases h5 with h5 | ⟨g, o, arr, k1, k2, k3, k4, k5⟩
    · exact .inl h5
    · refine .inr ⟨g, o, arr, k1, k2, k3, k4, fun i e j a he ha => ?_⟩
      obtain ⟨v, hv, hr⟩ := k5 i e j a he ha
      exact ⟨v, hv, hc e (List.mem_of_getElem? he) a (List.mem_of_getElem? ha) _ _ _ _ hr⟩
  | map kt n f =>
    obtain ⟨g, f', h1, h2, h3⟩ := h
    refine ⟨g, f', by rw [cutS_lt hi]; exact h1, h2, fun k => ?_⟩
    rcases h3 k with h4 | ⟨a, v, h4, h5, h6⟩
    · exact .inl h4
    · exact .inr ⟨a, v, h4, h5, hc k a h4 _ _ _ _ h6⟩
  | siter s p => obtain ⟨g, h1, h2⟩ := h; exact ⟨g, by rw [cutS_lt hi]; exact h1, h2⟩
  | dead => show (cutS B σ id).isSome = true; rw [cutS_lt hi]; exact h
  | smap kt n f st c =>
    obtain ⟨g, f', es, h1, h2, q1, q2, h3⟩ := h
    refine ⟨g, f', es, by rw [cutS_lt hi]; exact h1, h2, q1, q2, fun k => ?_⟩
    rcases h3 k with h4 | ⟨a, v, h4, h5, h6⟩
    · exact .inl h4
    · exact .inr ⟨a, v, h4, h5, hc k a h4 _ _ _ _ h6⟩
  | miter m st c vis =>
    have hc : m < B := hc
    obtain ⟨r, g, seen, h1, h2, h3, h4⟩ := h
    exact ⟨r, g, seen, by rw [cutS_lt hi]; exact h1, by rw [cutS_lt hc]; exact h2, h3, h4⟩
def AH.le (V H : AH) : Prop := ∀ id o, V.get id = some o → H.get id = some o
/-- what a call gives that has laid a row of its own: nil, or that row -/
def RowR (t sz : Nat) (H H' : AH) (v : AV) (es : List (List AV)) : Prop :=
  (v = .p (.slice none 0 0) ∧ es = []) ∨ ∃ r xs, v = .osl r sz 0 es.length ∧ H.nx ≤ r ∧ H'.get r = some (.row t sz xs) ∧ xs.take es.length = es ∧ DtR xs
theorem relaid {w' : World} {S1 : Nat → Prop} {σ1 : Nat → Option Value} {t sz id : Nat} {r : AV} {v : Value} {es : List (List AV)} (hs : Sat P w S σ H) (hs1 : Sat P w' S1 σ1 H1) (he : Ext w S σ H w' S1 σ1 H1) (hn : H.nx ≤ H1.nx) (hσ : ∀ j, j < H.nx → σ1 j = σ j) (hle : H.le H1)
    (hr : RowR t sz H H1 r es) (hv : Rp w' S1 σ1 r v) (hid : id < H.nx) (hi : σ id = none) (hd : ∀ e ∈ es, e.length = sz) :
    ∃ σ2, Sat P w' S1 σ2 (H.put id (.row t sz es)) ∧ Rp w' S1 σ2 (.osl id sz 0 es.length) v ∧ Ext w S σ H w' S1 σ2 (H.put id (.row t sz es)) ∧ ∀ j, j ≠ id → j < H.nx → σ2 j = σ j := by
  have hw := hs.wf
  have key : ∃ u : Value, (∀ σ2 : Nat → Option Value, σ2 id = some u → Rp w' S1 σ2 (.osl id sz 0 es.length) v ∧ ObjOk P w' S1 σ2 id (.row t sz es)) ∧ (∀ b, blkOf u = some b → (∃ r o, H1.get r = some o ∧ o.owned = true ∧ H.nx ≤ r ∧ (σ1 r).bind blkOf = some b)) ∧ ∀ A n c, u = .slice A n c → n ≤ c ∧ (0 < c → ∃ g o, A = some ⟨g, o, none⟩) ∧ c ≤ maxLen := by
    rcases hr with ⟨rfl, rfl⟩ | ⟨r0, xs, rfl, h1, h2, h3, h4⟩
    · obtain ⟨rfl, _⟩ := hv.p_inv
      refine ⟨.slice none 0 0, fun σ2 h => ⟨.osl _ _ _ _ none none 0 0 0 h (Nat.le_refl _) rfl (fun h => absurd h (Nat.lt_irrefl _)), none, 0, h, by simp, Nat.le_refl _, Nat.zero_le _, .inl ⟨rfl, rfl⟩⟩, fun b hb => by (cases hb), fun A n c e => ?_⟩
      injection e with e1 e2 e3; subst e1; subst e2; subst e3
      exact ⟨Nat.le_refl _, fun h => absurd h (Nat.lt_irrefl _), Nat.zero_le _⟩
    · obtain ⟨A, Bx, N, c, cc, rfl, k1, k2, k3, k4⟩ := hv.osl_inv
      obtain ⟨A', c', m1, m2, m3, m4, m5⟩ := hs1.obj r0 _ h2
      rw [k1] at m1
      injection m1 with m1
      injection m1 with e1 e2 e3
      subst e1; subst e2; subst e3
      have hel : es.length ≤ xs.length := by have := congrArg List.length h3; rw [List.length_take] at this; omega
      have hat : ∀ (i : Nat) (e : List AV), es[i]? = some e → xs[i]? = some e := fun i e h => by
        rw [← h3, List.getElem?_take] at h
        split at h
        · exact h
        · cases h
      refine ⟨.slice A es.length c, fun σ2 h => ⟨.osl _ _ _ _ A _ es.length c cc h k2 k3 k4, A, c, h, hd, by omega, m4, ?_⟩, fun b hb => ?_, fun A' n c' e => ?_⟩
      · rcases m5 with m5 | ⟨g, o, arr, q1, q2, q3, q4, q5⟩
        · exact .inl m5
        · refine .inr ⟨g, o, arr, q1, q2, q3, q4, fun i e j a he ha => ?_⟩
          obtain ⟨z, hz, hzr⟩ := q5 i e j a (hat i e he) ha
          have hda := h4 e (List.mem_of_getElem? (hat i e he)) a (List.mem_of_getElem? ha) _ _ _ _ hzr
          exact ⟨z, hz, .data _ _ hda⟩
      · exact ⟨r0, _, h2, rfl, h1, by rw [k1]; cases A <;> simp [blkOf] at hb ⊢ <;> exact hb⟩
      · injection e with e1 e2 e3; subst e1; subst e2; subst e3
        have := hs1.sl r0 A xs.length c k1
        exact ⟨by omega, this.2.1, this.2.2⟩
  obtain ⟨u, hu, hub, hul⟩ := key
  let σ2 : Nat → Option Value := fun j => if j = id then some u else if j < H.nx then σ1 j else none
  have e1 : σ2 id = some u := by simp [σ2]
  have e2 : ∀ j, j ≠ id → j < H.nx → σ2 j = σ1 j := fun j h1 h2 => by simp [σ2, h1, h2]
  have e3 : ∀ j x, σ2 j = some x → j < H.nx := fun j x h => by
    simp only [σ2] at h
    split at h
    · omega
    · split at h
      · assumption
      · cases h
  have up : ∀ j x, cutS H.nx σ1 j = some x → σ2 j = some x := fun j x h => by
    obtain ⟨h1, h2⟩ := cutS_some h
    have hne : j ≠ id := fun e => by subst e; rw [hσ _ h1, hi] at h2; cases h2
    rw [e2 j hne h1]; exact h2
  have hget : ∀ j o, (H.put id (.row t sz es)).get j = some o → (j = id ∧ o = .row t sz es) ∨ (j ≠ id ∧ H.get j = some o ∧ j < H.nx) := fun j o h => by
    by_cases e : j = id
    · subst e; rw [AH.get_put_self] at h; injection h with h; exact .inl ⟨rfl, h.symm⟩
    · rw [AH.get_put_ne e] at h; exact .inr ⟨e, h, (hw j o h).1⟩
  obtain ⟨hur, huo⟩ := hu σ2 e1
  have hfoot : ∀ b, Foot σ2 (H.put id (.row t sz es)) b → Foot σ1 H1 b := by
    rintro b ⟨j, o, h1, h2, h3⟩
    rcases hget j o h1 with ⟨rfl, rfl⟩ | ⟨hne, hj, hlt⟩
    · rw [e1] at h3
      obtain ⟨r, o, q1, q2, _, q3⟩ := hub b h3
      exact ⟨r, o, q1, q2, q3⟩
    · exact ⟨j, o, hle j o hj, h2, by rw [← e2 j hne hlt]; exact h3⟩
  have sep : ∀ j o b, (H.put id (.row t sz es)).get j = some o → o.owned = true → (σ2 j).bind blkOf = some b → ∃ r o', H1.get r = some o' ∧ o'.owned = true ∧ (σ1 r).bind blkOf = some b ∧ ((j = id ∧ H.nx ≤ r) ∨ (j ≠ id ∧ r = j ∧ j < H.nx)) := by
    intro j o b h1 h2 h3
    rcases hget j o h1 with ⟨rfl, rfl⟩ | ⟨hne, hj, hlt⟩
    · rw [e1] at h3
      obtain ⟨r, o, q1, q2, q4, q3⟩ := hub b h3
      exact ⟨r, o, q1, q2, q3, .inl ⟨rfl, q4⟩⟩
    · exact ⟨j, o, hle j o hj, h2, by rw [← e2 j hne hlt]; exact h3, .inr ⟨hne, rfl, hlt⟩⟩
  refine ⟨σ2, ⟨hs1.sb, e3, fun j o ho => ?_, fun i j o o' b h1 h2 k1 k2 b1 b2 => ?_, fun i o b h1 k1 b1 => ?_, fun j A n c h => ?_⟩, hur, ⟨he.os, he.tape, he.output, he.size, he.keep, he.sup, he.sub, fun b hb => he.foot b (hfoot b hb), fun j x h => ?_⟩, fun j h1 h2 => (e2 j h1 h2).trans (hσ j h2)⟩
  · rcases hget j o ho with ⟨rfl, rfl⟩ | ⟨hne, hj, hlt⟩
    · exact huo
    · exact ((hs1.obj j o (hle j o hj)).cut (hw j o hj).1 (hw j o hj).2).mono (fun _ h => h) (fun _ _ => rfl) up (fun _ _ _ => rfl)
  · obtain ⟨r, p, a1, a2, a3, a4⟩ := sep i o b h1 k1 b1
    obtain ⟨r', p', c1, c2, c3, c4⟩ := sep j o' b h2 k2 b2
    have := hs1.dj r r' p p' b a1 c1 a2 c2 a3 c3
    rcases a4 with ⟨rfl, a4⟩ | ⟨a5, rfl, a4⟩ <;> rcases c4 with ⟨rfl, c4⟩ | ⟨c5, rfl, c4⟩
    · rfl
    · omega
    · omega
    · exact this
  · obtain ⟨r, p, a1, a2, a3, _⟩ := sep i o b h1 k1 b1
    exact hs1.sep r p b a1 a2 a3
  · by_cases e : j = id
    · subst e; rw [e1] at h; injection h with h; exact hul A n c h
    · rw [e2 j e (e3 j _ h)] at h; exact hs1.sl j A n c h
  · by_cases e : j = id
    · subst e; rw [hi] at h; cases h
    · have hlt := hs.dom j x h
      rw [e2 j e hlt, hσ j hlt]; exact h
end
end Go.Proofs.Ytgkkilbeingleaa
