/- Texts that the proof rests on, part 6: what each holds stands at its head. -/
import Derived.Test.YtpmnlikgldacaaaKLa5
import Derived.Orders

/- A slice whose capacity is known is appended to: in place, or anew; the old one stays. Nothing of the program is named here. -/
namespace Go.Proofs.Ytpmnlikgldacaaa
open Go.RowKit Go.Maps
section
variable {P : Program} {w : World} {S : Nat → Prop} {σ : Nat → Option Value} {ev : Operand → Value} {H : AH}
/-- cells of a block of one's own are written; something comes back -/
theorem set_eff2 (hs : Sat P w S σ H) {i : Nat} {o o' : AO} {u : Value} {g off : Nat} {t : TypeId} {arr : Array Value} {vs : List Value} {op : Oper} {x : AV} {v : Value}
    (hg : H.get i = some o) (how : o.owned = true) (hσ : σ i = some u) (hu : blkOf u = some g) (hb : Blk w g t arr) {id : Nat} (hii : i < H.nx)
    (hrun : (execOp ev op).run P w = .ok (.value v) (w.setRow g (arr.toList.take off ++ vs ++ arr.toList.drop (off + vs.length)).toArray))
    (hx : ∀ w' : World, Rp w' S σ x v)
    (hobj : ∀ w', (∀ b, b ≠ g → w'.heap[b]? = w.heap[b]?) → Blk w' g t (arr.toList.take off ++ vs ++ arr.toList.drop (off + vs.length)).toArray → ObjOk P w' S σ i o') : Eff P w S σ H ev op id x (H.put i o') := by
  have hkeep : ∀ b, b ≠ g → (w.setRow g (arr.toList.take off ++ vs ++ arr.toList.drop (off + vs.length)).toArray).heap[b]? = w.heap[b]? := fun b hb => setRow_other w g b _ hb
  have hnone : ∀ x, σ i = some x → x = u := fun x hx => by rw [hσ] at hx; injection hx with hx; exact hx.symm
  have hsp : sput σ i u = σ := sput_id hσ
  have hbk : (σ i).bind blkOf = some g := by rw [hσ]; exact hu
  have hsat := hs.upd (w' := w.setRow g (arr.toList.take off ++ vs ++ arr.toList.drop (off + vs.length)).toArray) (k := i) (o' := o') hii hnone (by simp) (fun b hb hne => hkeep b (fun e => hne (by rw [hu, e]))) (fun b hb => by
      rw [hu] at hb; injection hb with hb; subst hb
      exact ⟨hs.sep i o g hg how hbk, fun k o2 hk h2 h3 h4 => hk (hs.dj k i o2 o g h2 hg h3 how h4 hbk)⟩)
    (by rw [hsp]; exact hobj _ hkeep (setRow_heap w g arr _ t (0, 0) hb)) (fun j o b h1 h2 h3 => hs.lt h1 h2 h3) (fun A n c e => hs.sl i A n c (by rw [hσ, e]))
  have hext := Ext.upd (w' := w.setRow g (arr.toList.take off ++ vs ++ arr.toList.drop (off + vs.length)).toArray) (k := i) (o' := o') hs hnone rfl rfl rfl (by simp) (fun b hb hne => hkeep b (fun e => hne (by rw [hu, e]))) (fun b hb => by
      rw [hu] at hb; injection hb with hb; subst hb; exact .inl ⟨i, o, hg, how, hbk⟩)
  rw [hsp] at hsat hext
  exact ⟨_, _, σ, hrun, .inl ⟨v, rfl, hx _⟩, hsat, hext, fun _ _ => rfl⟩
theorem same_put {r : Nat} {o : AO} (hg : H.get r = some o) (k : Nat) : (H.put r o).get k = H.get k := by
  by_cases e : k = r
  · subst e; rw [AH.get_put_self, hg]
  · rw [AH.get_put_ne e]
theorem crow_in {o : Oper} {c : Call} {s x : Operand} {t e : TypeId} {j : TypeInfo} {id r n cr : Nat} {es ys : List (List AV)} {xa : AV} (hs : Sat P w S σ H) (ho : o.op = .call c) (hcb : c.callee = .builtin .append) (hca : c.args.toList = [s, x]) (hct : c.argTypes.toList = [t, t])
    (hu : P.underlying t = some (.slice e)) (hi : P.info? e = some j) (hjs : j.size ≠ 0) (hg : H.get r = some (.crow e j.size cr es)) (hn : n = es.length) (hel : ElA H j.size xa ys) (hroom : n + ys.length ≤ cr)
    (hr : Rps w S σ [.osl r j.size 0 n, xa] [ev s, ev x]) : Eff P w S σ H ev o id (.osl r j.size 0 (n + ys.length)) (H.put r (.crow e j.size cr (es ++ ys))) := by
  have hca' : c.args = #[s, x] := Array.toList_inj.1 hca
  have hct' : c.argTypes = #[t, t] := Array.toList_inj.1 hct
  have exec : ∀ {v1 v2 r : Value} {w' : World}, ev s = v1 → ev x = v2 → (Builtin.append_ #[t, t] o.type #[v1, v2]).run P w = .ok r w' → (execOp ev o).run P w = .ok (.value r) w' := by
    intro v1 v2 r w' h1 h2 h3
    simp [execOp, ho, resolve, hcb, hca', hct', invoke, builtin, h1, h2, h3]
  have src : ∃ A c2, ev x = .slice A ys.length c2 ∧ Elts w S σ j.size A ys := by
    obtain ⟨v1, v2, e1, q1, q2⟩ := hr.two_inv
    simp only [List.cons.injEq, and_true] at e1
    obtain ⟨rfl, rfl⟩ := e1
    obtain ⟨A, c2, h⟩ := el_sound hs hel q2
    rcases h with ⟨h1, h2, _⟩ | ⟨rfl, h1, rfl⟩
    · exact ⟨A, c2, h1, h2⟩
    · exact ⟨none, c2, h1, by simp, [], by simp, .nil, by simp, by simp⟩
  obtain ⟨v1, v2, e1, q1, q2⟩ := hr.two_inv
  simp only [List.cons.injEq, and_true] at e1
  obtain ⟨rfl, rfl⟩ := e1
  obtain ⟨Ar, B, N, cr', cc, hx, hσr, k1, k2, k3⟩ := q1.osl_inv
  obtain ⟨A, c2, hy, hE⟩ := src
  obtain ⟨news, n1, n2, n3, n4⟩ := elts_read (P := P) hE rfl
  obtain ⟨A', N', m1, m2, m3, m4, m5⟩ := hs.obj r _ hg
  rw [hσr] at m1
  simp only [Option.some.injEq, Value.slice.injEq] at m1
  obtain ⟨rfl, rfl, rfl⟩ := m1
  have hcc' : cc = cr' := by omega
  subst hcc'
  by_cases hcc : cc = 0
  · have hn0 : n = 0 := by omega
    have hy0 : ys = [] := List.eq_nil_of_length_eq_zero (by omega)
    subst hy0
    have he0 : es = [] := List.eq_nil_of_length_eq_zero (by omega)
    subst he0
    have n4' := n4 w c2 rfl
    have hnw : news = [] := List.eq_nil_of_length_eq_zero (by simpa using n1)
    subst hnw
    simp only [List.length_nil] at n4' hy
    have hrun : (Builtin.append_ #[t, t] o.type #[.slice B n cc, .slice A 0 c2]).run P w = .ok (.slice B n cc) w := by
      subst hn0; subst hcc
      cases B <;> simp [Builtin.append_, run_underlying hu, sizeOf, typeInfo, hi, Builtin.lenOf, n4', storeCells]
    have hgs := same_put hg
    simp only [List.append_nil, List.length_nil, Nat.add_zero]
    refine ⟨_, w, σ, exec hx hy hrun, .inl ⟨_, rfl, ?_⟩, hs.congr hgs (Nat.le_refl _), Ext.lessR (H1 := H) (.refl _ _ _ _) fun b ⟨k, o, h1, h2, h3⟩ => ⟨k, o, by rw [← hgs]; exact h1, h2, h3⟩, fun _ _ => rfl⟩
    rw [← hx]; exact q1
  · rcases m5 with ⟨_, m5⟩ | ⟨g, o', arr, rfl, p1, p2, p3, p4⟩
    · omega
    have hB : B = some ⟨g, o', none⟩ := by rw [k3 (by omega), Option.map_some, addr_add, Nat.zero_mul, Nat.add_zero]
    subst hB
    have hfit : o' + n * j.size + news.length ≤ arr.size := by
      rw [n1]
      have : (n + ys.length) * j.size ≤ cc * j.size := Nat.mul_le_mul_right _ hroom
      rw [Nat.add_mul] at this
      omega
    have hrun := app_room (P := P) (w := w) (ty := o.type) hu hi p1 n1 n3 (n4 w c2 rfl) hroom hfit
    have hspl : ∀ q, (arr.toList.take (o' + n * j.size) ++ news ++ arr.toList.drop (o' + n * j.size + news.length))[q]? = _ := fun q => splice_get arr.toList news (o' + n * j.size) q (by rw [Array.length_toList]; exact hfit)
    have hbk : (σ r).bind blkOf = some g := by rw [hσr]; rfl
    refine set_eff2 hs hg rfl hσr rfl p1 (hs.dom _ _ hσr) (exec hx hy hrun) (fun w' => .osl _ _ _ _ _ _ _ cc cc hσr hroom (by omega) (fun _ => by simp [addr_add])) fun w' hk hb => ?_
    have mono : ∀ {a : AV} {v : Value}, Rp w S σ a v → Rp w' S σ a v := fun h => h.mono (fun _ h => h) (fun b hb => hk b (fun e => hs.sep r _ b hg rfl (by rw [hbk, e]) hb)) (fun _ _ h => h)
    refine ⟨_, _, hσr, fun y hy => ?_, by rw [List.length_append]; omega, m4, .inr ⟨g, _, _, rfl, hb, ?_, fun u hu => ?_, fun i e' jj b he hb' => ?_⟩⟩
    · exact (List.mem_append.1 hy).elim (fun h => m2 y h) (hE.1 y)
    · rw [List.size_toArray, splice_len _ _ _ (by rw [Array.length_toList]; exact hfit), Array.length_toList]
      exact p2
    · rw [← Array.mem_toList_iff, List.toList_toArray] at hu
      rcases List.mem_append.1 hu with hu | hu
      · rcases List.mem_append.1 hu with hu | hu
        · exact p3 u (Array.mem_toList_iff.1 (List.mem_of_mem_take hu))
        · exact n3 u hu
      · exact p3 u (Array.mem_toList_iff.1 (List.mem_of_mem_drop hu))
    · rw [List.getElem?_toArray, hspl]
      by_cases hin : i < n
      · rw [List.getElem?_append_left (by omega)] at he
        have hjl : jj < j.size := by have := (List.getElem?_eq_some_iff.1 hb').1; rw [m2 e' (List.mem_of_getElem? he)] at this; exact this
        obtain ⟨u, hu, hru⟩ := p4 i e' jj b he hb'
        have : (i + 1) * j.size ≤ n * j.size := Nat.mul_le_mul_right _ (by omega)
        rw [Nat.add_mul, Nat.one_mul] at this
        refine ⟨u, ?_, mono hru⟩
        rw [if_pos (by omega), Array.getElem?_toList]; exact hu
      · rw [List.getElem?_append_right (by omega), ← hn] at he
        have hjl : jj < j.size := by have := (List.getElem?_eq_some_iff.1 hb').1; rw [hE.1 e' (List.mem_of_getElem? he)] at this; exact this
        have hfl := flat_elem hE.1 (i - n) e' jj b he hb'
        obtain ⟨u, hu, hru⟩ := n2.at_ hfl
        have hil : i - n < ys.length := (List.getElem?_eq_some_iff.1 he).1
        have h7 : (i - n + 1) * j.size ≤ ys.length * j.size := Nat.mul_le_mul_right _ (by omega)
        have h8 : (n + (i - n)) * j.size = i * j.size := by congr 1; omega
        rw [Nat.add_mul] at h7 h8
        refine ⟨u, ?_, mono hru⟩
        rw [if_neg (by omega), if_pos (by rw [n1]; omega), show o' + i * j.size + jj - (o' + n * j.size) = (i - n) * j.size + jj by omega]; exact hu
theorem crow_out {o : Oper} {c : Call} {s x : Operand} {t e : TypeId} {z : List AV} {j : TypeInfo} {id r n cr : Nat} {es ys : List (List AV)} {xa : AV} (hs : Sat P w S σ H) (hid : id < H.nx) (hσ : σ id = none) (ho : o.op = .call c) (hcb : c.callee = .builtin .append) (hca : c.args.toList = [s, x]) (hct : c.argTypes.toList = [t, t])
    (hu : P.underlying t = some (.slice e)) (hz : zeroA P e = some z) (hi : P.info? e = some j) (hzl : z.length = j.size) (hjs : j.size ≠ 0) (hg : H.get r = some (.crow e j.size cr es)) (hn : n = es.length) (hel : ElA H j.size xa ys) (hroom : cr < n + ys.length) (h63 : n + ys.length ≤ maxLen) (hby : (n + ys.length) * j.bytes ≤ 140737488355328)
    (hr : Rps w S σ [.osl r j.size 0 n, xa] [ev s, ev x]) : Eff P w S σ H ev o id (.osl id j.size 0 (n + ys.length)) (H.put id (.row e j.size (es ++ ys))) := by
  obtain ⟨v1, v2, e1, q1, q2⟩ := hr.two_inv
  simp only [List.cons.injEq, and_true] at e1
  obtain ⟨rfl, rfl⟩ := e1
  obtain ⟨Ar, B, N, cr', cc, hx, hσr, k1, k2, k3⟩ := q1.osl_inv
  have src : ∃ A c2, ev x = .slice A ys.length c2 ∧ Elts w S σ j.size A ys := by
    obtain ⟨A, c2, h⟩ := el_sound hs hel q2
    rcases h with ⟨h1, h2, _⟩ | ⟨rfl, h1, rfl⟩
    · exact ⟨A, c2, h1, h2⟩
    · exact ⟨none, c2, h1, by simp, [], by simp, .nil, by simp, by simp⟩
  obtain ⟨A, c2, hy, hE⟩ := src
  obtain ⟨news, n1, n2, n3, n4⟩ := elts_read (P := P) hE rfl
  have hbase : Elts w S σ j.size B es := by
    have hel0 := ElA.crow (H := H) (sz := j.size) r 0 n cr e es hg (by omega)
    rw [List.drop_zero, List.take_of_length_le (by omega)] at hel0
    obtain ⟨Ab, cb, h⟩ := el_sound hs hel0 q1
    rcases h with ⟨h1, h2, _⟩ | ⟨h0, h1, rfl⟩
    · rw [hx] at h1; injection h1 with h1 _ _; subst h1; exact h2
    · rw [h0]; exact ⟨by simp, [], by simp, .nil, by simp, by simp⟩
  obtain ⟨olds, o1, o2, o3, o4⟩ := elts_read (P := P) hbase hn.symm
  obtain ⟨A', N', m1, m2, m3, m4, m5⟩ := hs.obj r _ hg
  rw [hσr] at m1
  simp only [Option.some.injEq, Value.slice.injEq] at m1
  obtain ⟨rfl, rfl, rfl⟩ := m1
  exact grow_eff (ev := ev) (o := o) hs ho hcb hca hct hu hz hi hzl hjs hid hσ hbase.1 hE.1 hn.symm rfl o2 n2 o3 n3 hx hy (o4 w.drew cc rfl) (n4 w.drew c2 rfl) (by omega) h63 hby
/-- an append to a row of known capacity -/
inductive CrR (id : Nat) : WO → List AV → AH → AV → AH → Prop
  | app_in (t sz bytes r n c : Nat) (es ys : List (List AV)) (x : AV) (H : AH) : H.get r = some (.crow t sz c es) → n = es.length → ElA H sz x ys → n + ys.length ≤ c → CrR id (.app t sz bytes) [.osl r sz 0 n, x] H (.osl r sz 0 (n + ys.length)) (H.put r (.crow t sz c (es ++ ys)))
  | app_out (t sz bytes r n c : Nat) (es ys : List (List AV)) (x : AV) (H : AH) : H.get r = some (.crow t sz c es) → n = es.length → ElA H sz x ys → c < n + ys.length → n + ys.length ≤ maxLen → (n + ys.length) * bytes ≤ 140737488355328 →
      CrR id (.app t sz bytes) [.osl r sz 0 n, x] H (.osl id sz 0 (n + ys.length)) (H.put id (.row t sz (es ++ ys)))
theorem cr_sound {o : Oper} {wo : WO} {xs : List Operand} {args : List AV} {a : AV} {id : Nat} {H' : AH} (hs : Sat P w S σ H) (hid : id < H.nx ∧ σ id = none) (hc : clsW P o.op = some (wo, xs)) (hp : CrR id wo args H a H') (hr : Rps w S σ args (xs.map ev)) : Eff P w S σ H ev o id a H' := by
  cases ho : o.op <;> rw [ho] at hc <;> simp only [clsW] at hc <;> try (cases hc; done)
  case store t x v =>
    cases hi : P.info? t with
    | none => rw [hi] at hc; cases hc
    | some j =>
      rw [hi] at hc
      simp only [Option.map_some, Option.some.injEq, Prod.mk.injEq] at hc
      obtain ⟨rfl, rfl⟩ := hc
      cases hp
  case mapUpdate t m k v =>
    revert hc
    split
    · intro hc
      simp only [Option.some.injEq, Prod.mk.injEq] at hc
      obtain ⟨rfl, rfl⟩ := hc
      cases hp
    · intro hc; cases hc
  case insert t m k v =>
    revert hc
    split
    · intro hc
      simp only [Option.some.injEq, Prod.mk.injEq] at hc
      obtain ⟨rfl, rfl⟩ := hc
      cases hp
    · intro hc; cases hc
  case call c =>
    revert hc
    split
    · rename_i s x t t' hcb hca hct
      split
      · rename_i e hu
        split
        · rename_i z j hz hi
          split
          · split
            · intro hc; cases hc
            · split
              · intro hc
                simp only [Option.some.injEq, Prod.mk.injEq] at hc
                obtain ⟨rfl, rfl⟩ := hc
                cases hp
              · split
                · intro hc
                  simp only [Option.some.injEq, Prod.mk.injEq] at hc
                  obtain ⟨rfl, rfl⟩ := hc
                  cases hp
                · intro hc; cases hc
              · intro hc; cases hc
          · rename_i hcond
            simp only [not_or, ne_eq, Decidable.not_not] at hcond
            obtain ⟨rfl, c2, c3⟩ := hcond
            intro hc
            simp only [Option.some.injEq, Prod.mk.injEq] at hc
            obtain ⟨rfl, rfl⟩ := hc
            cases hp with
            | app_in _ _ _ r n c es ys x _ hg hn hel hroom => exact crow_in hs ho hcb hca hct hu hi c2 hg hn hel hroom hr
            | app_out _ _ _ r n c es ys x _ hg hn hel hroom h63 hby => exact crow_out hs hid.1 hid.2 ho hcb hca hct hu hz hi c3 c2 hg hn hel hroom h63 hby hr
        · intro hc; cases hc
      · intro hc; cases hc
    · split
      · split
        · split
          · intro hc; cases hc
          · intro hc
            simp only [Option.some.injEq, Prod.mk.injEq] at hc
            obtain ⟨rfl, rfl⟩ := hc
            cases hp
        · intro hc; cases hc
      · intro hc; cases hc
    · split
      · split
        · intro hc
          simp only [Option.some.injEq, Prod.mk.injEq] at hc
          obtain ⟨rfl, rfl⟩ := hc
          cases hp
        · intro hc; cases hc
      · intro hc; cases hc
    · intro hc; cases hc
/-- a row's capacity is told -/
theorem Sat.capped (hs : Sat P w S σ H) {r : Nat} {t : TypeId} {sz : Nat} {es : List (List AV)} (hg : H.get r = some (.row t sz es)) : ∃ c, es.length ≤ c ∧ Sat P w S σ (H.put r (.crow t sz c es)) := by
  obtain ⟨A, c, h1, h2, h3, h4, h5⟩ := hs.obj r _ hg
  have hget : ∀ id o, (H.put r (.crow t sz c es)).get id = some o → ∃ o', H.get id = some o' ∧ o'.owned = o.owned ∧ ((id = r ∧ o = .crow t sz c es) ∨ (id ≠ r ∧ o' = o)) := by
    intro id o ho
    by_cases e : id = r
    · subst e; rw [AH.get_put_self] at ho; injection ho with ho; subst ho; exact ⟨_, hg, rfl, .inl ⟨rfl, rfl⟩⟩
    · rw [AH.get_put_ne e] at ho; exact ⟨o, ho, rfl, .inr ⟨e, rfl⟩⟩
  refine ⟨c, h3, hs.sb, hs.dom, fun id o ho => ?_, fun i j o o' b h h' k k' => ?_, fun i o b h k hb => ?_, hs.sl⟩
  · obtain ⟨o', h', _, ⟨rfl, rfl⟩ | ⟨_, rfl⟩⟩ := hget id o ho
    · exact ⟨A, _, h1, h2, h3, h4, h5⟩
    · exact hs.obj id _ h'
  · obtain ⟨o1, q1, e1, _⟩ := hget i o h
    obtain ⟨o2, q2, e2, _⟩ := hget j o' h'
    exact hs.dj i j o1 o2 b q1 q2 (e1.trans k) (e2.trans k')
  · obtain ⟨o1, q1, e1, _⟩ := hget i o h
    exact hs.sep i o1 b q1 (e1.trans k) hb
/-- what lies behind in a row is let go -/
theorem Sat.prefix (hs : Sat P w S σ H) {r : Nat} {t : TypeId} {sz c : Nat} {es : List (List AV)} (hg : H.get r = some (.crow t sz c es)) (n : Nat) : Sat P w S σ (H.put r (.crow t sz c (es.take n))) := by
  obtain ⟨A, N, h1, h2, h3, h4, h5⟩ := hs.obj r _ hg
  have hget : ∀ id o, (H.put r (.crow t sz c (es.take n))).get id = some o → ∃ o', H.get id = some o' ∧ o'.owned = o.owned ∧ ((id = r ∧ o = .crow t sz c (es.take n)) ∨ (id ≠ r ∧ o' = o)) := by
    intro id o ho
    by_cases e : id = r
    · subst e; rw [AH.get_put_self] at ho; injection ho with ho; subst ho; exact ⟨_, hg, rfl, .inl ⟨rfl, rfl⟩⟩
    · rw [AH.get_put_ne e] at ho; exact ⟨o, ho, rfl, .inr ⟨e, rfl⟩⟩
  refine ⟨hs.sb, hs.dom, fun id o ho => ?_, fun i j o o' b h h' k k' => ?_, fun i o b h k hb => ?_, hs.sl⟩
  · obtain ⟨o', h', _, ⟨rfl, rfl⟩ | ⟨_, rfl⟩⟩ := hget id o ho
    · refine ⟨A, N, h1, fun e he => h2 e (List.mem_of_mem_take he), by rw [List.length_take]; omega, h4, ?_⟩
      refine h5.imp_right fun ⟨g, o, arr, k0, k1, k2, k3, k4⟩ => ⟨g, o, arr, k0, k1, k2, k3, fun i e j a he ha => k4 i e j a ?_ ha⟩
      rw [List.getElem?_take] at he
      split at he
      · exact he
      · cases he
    · exact hs.obj id _ h'
  · obtain ⟨o1, q1, e1, _⟩ := hget i o h
    obtain ⟨o2, q2, e2, _⟩ := hget j o' h'
    exact hs.dj i j o1 o2 b q1 q2 (e1.trans k) (e2.trans k')
  · obtain ⟨o1, q1, e1, _⟩ := hget i o h
    exact hs.sep i o1 b q1 (e1.trans k) hb
end
end Go.Proofs.Ytpmnlikgldacaaa

/- Calls, operations one behind the other, and in whatever order, on abstract memory. Nothing of the program is named here. -/
namespace Go.Proofs.Ytpmnlikgldacaaa
open Go.RowKit Go.Maps

/-- some world stands so -/
def SatE (P : Program) (H : AH) : Prop := ∃ w S σ, Sat P w S σ H
/-- what a call does, told abstractly -/
def Tri (P : Program) (f : FuncId) (args : List AV) (H : AH) (Q : AV → AH → Prop) : Prop :=
  ∀ w S σ us, Sat P w S σ H → Rps w S σ args us → Calls P f us.toArray w fun e w' => ∃ v S' σ' r H', e = .returned v ∧ Q r H' ∧ Sat P w' S' σ' H' ∧ Rp w' S' σ' r v ∧ Ext w S σ H w' S' σ' H' ∧ H.nx ≤ H'.nx ∧ ∀ id, id < H.nx → σ' id = σ id
theorem Tri.mono {P : Program} {f : FuncId} {args : List AV} {H : AH} {Q Q' : AV → AH → Prop} (h : Tri P f args H Q) (hq : ∀ r H', Q r H' → Q' r H') : Tri P f args H Q' :=
  fun w S σ us hs hr => (h w S σ us hs hr).mono fun _ _ ⟨v, S', σ', r, H', h1, h2, h3⟩ => ⟨v, S', σ', r, H', h1, hq _ _ h2, h3⟩
abbrev Env := Nat → AV
def avOfV : Value → AV
  | .agg cs => bif cs.all (·.oneCell') then .agg (cs.toList.map .p) else .any
  | .tuple _ => .any
  | v => .p v
def ev0 (env : Env) : Operand → AV
  | .tmp t => env t
  | .const v => avOfV v
  | .global g => .p (.pointer (some ⟨g, 0, none⟩))
  | .func f => .fn (.func f) [] []
def setE (n : Nat) (env : Env) (dst : Option Tmp) (a : AV) : Env :=
  match dst with
  | some d => bif Nat.blt d n then (fun t => bif Nat.beq t d then a else env t) else env
  | none => env
inductive Cls where
  | mv (x : Operand)
  | pu (o : PO) (xs : List Operand)
  | rd (o : RO) (xs : List Operand)
  | al (o : AOp) (xs : List Operand)
  | wr (o : WO) (xs : List Operand)
  | ca (f : Operand) (xs : List Operand)
  | bad
def cls (P : Program) (o : Op) : Cls :=
  match clsP P o with
  | some (.mv, [x]) => .mv x
  | some (po, xs) => .pu po xs
  | none => match clsR P o with
    | some (ro, xs) => .rd ro xs
    | none => match clsA P o with
      | some (ao, xs) => .al ao xs
      | none => match clsW P o with
        | some (wo, xs) => .wr wo xs
        | none => match o with
          | .call c => match c.callee with
            | .value f => .ca f c.args.toList
            | _ => .bad
          | _ => .bad
def needC : Cls → Bool
  | .al .. => true
  | .wr .. => true
  | _ => false
def callable (P : Program) (f : FuncId) : Bool :=
  match P.funcs[f]? with
  | some fn => fn.name != "runtime.NumGoroutine" && fn.body.isSome
  | none => false
/-- the words of a walk -/
def Pu (P : Program) (o : PO) (args : List AV) (k : AV → AH → Prop) (H : AH) : Prop := ∃ a, PuR P o args a ∧ k a H
def Rd (P : Program) (V : AH) (o : RO) (args : List AV) (k : AV → AH → Prop) (H : AH) : Prop := ∃ a, RdR P V o args a ∧ k a H
def Al (id : Nat) (o : AOp) (args : List AV) (k : AV → AH → Prop) (H : AH) : Prop := ∃ a o', AlR id o args o' a ∧ k a (H.put id o')
def Wr (P : Program) (id : Nat) (o : WO) (args : List AV) (k : AV → AH → AH → Prop) (H : AH) : Prop := ∃ a H', WrR P id o args H a H' ∧ k a H' H'
def Ca (P : Program) (fv : AV) (args : List AV) (k : AV → AH → Prop) (H : AH) : Prop := ∃ f first cap Q, fv = .fn (.func f) first cap ∧ callable P f = true ∧ Tri P f (first ++ args ++ cap) H Q ∧ ∀ r H', SatE P H' → Q r H' → k r H'
/-- the elements of a slice: one that was there when the region began, or one laid in it -/
inductive ElF (V H : AH) (src : Option Nat) (sz : Nat) : AV → List (List AV) → Prop
  | old (x : AV) (ys : List (List AV)) : ElA V sz x ys → ElF V H src sz x ys
  | new (i off n : Nat) (t : TypeId) (es : List (List AV)) : src = some i → H.get i = some (.row t sz es) → off + n ≤ es.length → ElF V H src sz (.osl i sz off n) ((es.drop off).take n)
/-- writes to what was laid in the region -/
inductive WrFR (V : AH) (tgt src : Option Nat) (id : Nat) : WO → List AV → AH → AV → AH → Prop
  | st (n i off : Nat) (t : TypeId) (cs : List AV) (a : AV) (H : AH) : tgt = some i → V.get i = none → H.get i = some (.box t cs) → a.part = true → a.cells.length = n → off + n ≤ cs.length → WrFR V tgt src id (.st n) [.ptr i off, a] H .any (H.put i (.box t (cs.take off ++ a.cells ++ cs.drop (off + n))))
  | app_row (t sz bytes r off n : Nat) (es ys : List (List AV)) (x : AV) (H : AH) : tgt = some r → V.get r = none → H.get r = some (.row t sz es) → off + n ≤ es.length → ElF V H src sz x ys → n + ys.length ≤ maxLen → (n + ys.length) * bytes ≤ 140737488355328 →
      WrFR V tgt src id (.app t sz bytes) [.osl r sz off n, x] H (.osl id sz 0 (n + ys.length)) ((H.kill r).put id (.row t sz ((es.drop off).take n ++ ys)))
  | app_nil (t sz bytes : Nat) (ys : List (List AV)) (x : AV) (H : AH) : tgt = none → ElF V H src sz x ys → ys.length ≤ maxLen → ys.length * bytes ≤ 140737488355328 →
      WrFR V tgt src id (.app t sz bytes) [.p (.slice none 0 0), x] H (.osl id sz 0 ys.length) (H.put id (.row t sz ys))
def WrF (V : AH) (tgt src : Option Nat) (id : Nat) (o : WO) (args : List AV) (k : AV → AH → Prop) (H : AH) : Prop := ∃ a H', WrFR V tgt src id o args H a H' ∧ k a H'
def tgtOf (P : Program) (ops : Array Oper) (d : Tmp) : Bool := ops.toList.any fun y => match cls P y.op with
  | .wr (.app ..) (.tmp t :: _) => Nat.beq t d
  | _ => false
def laysIx (P : Program) (tg : Tmp → Bool) : List Oper → Tmp → Nat → Option Nat
  | [], _, _ => none
  | o :: r, t, i => match o.dst with
    | some d => bif Nat.beq d t then (match cls P o.op with
      | .al .. => some i
      | .wr (.app ..) _ => some i
      | .ca .. => bif tg t then some i else none
      | _ => none) else laysIx P tg r t (i + 1)
    | none => laysIx P tg r t (i + 1)
def defIx (P : Program) (ops : Array Oper) : Operand → Option Nat
  | .tmp t => laysIx P (tgtOf P ops) ops.toList t 0
  | _ => none
def opEq : Operand → Operand → Bool
  | .tmp a, .tmp b => Nat.beq a b
  | .func a, .func b => Nat.beq a b
  | .global a, .global b => Nat.beq a b
  | .const _, .const _ => true
  | _, _ => false
def opsEq : List Operand → List Operand → Bool
  | [], [] => true
  | x :: xs, y :: ys => opEq x y && opsEq xs ys
  | _, _ => false
/-- a call whose row is appended to in the region -/
def rowC (P : Program) (ops : Array Oper) (o : Op) : Bool := match cls P o with
  | .ca f xs => ops.toList.any fun x => match cls P x.op, x.dst with
    | .ca g ys, some d => opEq f g && opsEq xs ys && tgtOf P ops d
    | _, _ => false
  | _ => false
/-- does a function get a pointer or a map -/
def ptrPar (P : Program) (g : FuncId) : Bool := match P.funcs[g]? with
  | some fn => fn.params.toList.any fun t => match P.underlying t with
    | some (.pointer _) => true
    | some (.map ..) => true
    | _ => false
  | none => false
/-- a call that may write to what was there before the region -/
def wrC (P : Program) (ops : Array Oper) (o : Op) : Bool := match cls P o with
  | .ca f xs => (match f with
    | .func g => ptrPar P g
    | _ => false) || ops.toList.any fun x => match cls P x.op, x.dst with
    | .ca g ys, none => opEq f g && opsEq xs ys
    | _, _ => false
  | _ => false
def masksL : List Oper → Array Nat → Array Nat
  | [], acc => acc
  | o :: r, acc => masksL r (acc.push (o.after.toList.foldl (fun s e => bif Region.binds .any e then Nat.lor (Nat.lor s (Nat.shiftLeft 1 e.on)) (acc.getD e.on 0) else s) 0))
def isDyn : Operand → Bool
  | .func _ => false
  | _ => true
/-- a call without a result that changes places with nothing -/
def lastC (P : Program) (ops : Array Oper) (o : Op) : Bool := match cls P o with
  | .ca f xs => (List.range ops.size).any fun k => match ops[k]? with
    | some y => (match cls P y.op with
      | .ca g ys => (y.dst.isNone || isDyn g) && opEq f g && opsEq xs ys && (List.range ops.size).all fun j => Nat.beq j k || ((masksL ops.toList #[]).getD k 0).testBit j || ((masksL ops.toList #[]).getD j 0).testBit k
      | _ => false)
    | none => false
  | _ => false
def needV (P : Program) (ops : Array Oper) (o : Op) : Bool := needC (cls P o) || (rowC P ops o || wrC P ops o || lastC P ops o)
/-- does it write to what was laid in the region -/
def freshW (P : Program) (ops : Array Oper) (o : Op) : Option (Option Nat × Option Nat) :=
  match cls P o with
  | .wr (.st _) (x :: _) => match defIx P ops x with
    | some j => some (some j, none)
    | none => none
  | .wr (.app ..) [s, x] => match s with
    | .const (.slice none 0 0) => some (none, defIx P ops x)
    | s => match defIx P ops s with
      | some j => some (some j, defIx P ops x)
      | none => none
  | .ca .. => bif rowC P ops o then some (none, none) else bif lastC P ops o then some (some 0, some 0) else bif wrC P ops o then some (some 0, none) else none
  | _ => none
/-- where a term is laid in the region, what it is made of being looked through -/
def defC (P : Program) : List Oper → Tmp → Nat → Option (Nat × Cls)
  | [], _, _ => none
  | o :: r, t, i => match o.dst with
    | some d => bif Nat.beq d t then some (i, cls P o.op) else defC P r t (i + 1)
    | none => defC P r t (i + 1)
def srcT (P : Program) (ops : Array Oper) : Nat → List Operand → List Nat
  | 0, _ => []
  | _ + 1, [] => []
  | n + 1, x :: xs => (match x with
    | .tmp t => match defC P ops.toList t 0 with
      | some (i, .al _ ys) => i :: srcT P ops n ys
      | some (i, .wr (.app ..) _) => [i]
      | some (i, .ca ..) => bif tgtOf P ops t then [i] else []
      | some (_, .pu _ ys) => srcT P ops n ys
      | some (_, .mv y) => srcT P ops n [y]
      | _ => []
    | _ => []) ++ srcT P ops n xs
/-- may something that counts change places with it -/
def unmasked (P : Program) (ops : Array Oper) (M : Array Nat) (k : Nat) : Bool := (List.range ops.size).any fun j => !(Nat.beq j k) && !((M.getD k 0).testBit j) && !((M.getD j 0).testBit k) && match ops[j]? with
  | some y => (match cls P y.op with
    | .mv _ => false
    | .pu .. => false
    | _ => true)
  | none => false
/-- a write to what was there before, that need not wait -/
def oldW (P : Program) (ops : Array Oper) (o : Op) : Bool := match cls P o with
  | .wr (.st _) (x :: xs) => (defIx P ops x).isNone && (List.range ops.size).any fun k => match ops[k]? with
    | some y => (match cls P y.op with
      | .wr (.st _) ys => opsEq (x :: xs) ys && unmasked P ops (masksL ops.toList #[]) k
      | _ => false)
    | none => false
  | .wr (.app ..) (x :: xs) => (freshW P ops o).isNone && (List.range ops.size).any fun k => match ops[k]? with
    | some y => (match cls P y.op with
      | .wr (.app ..) ys => opsEq (x :: xs) ys && unmasked P ops (masksL ops.toList #[]) k
      | _ => false)
    | none => false
  | _ => false
def hasOld (P : Program) (ops : Array Oper) : Bool := ops.toList.any fun o => oldW P ops o.op
/-- what of the region's own things an operation reads -/
def srcsOf (P : Program) (ops : Array Oper) (o : Op) : List Nat :=
  match cls P o with
  | .wr wo xs => bif oldW P ops o then 0 :: (match wo, xs with
    | .app .., [_, x] => (defIx P ops x).toList
    | _, _ => []) else []
  | .rd _ xs => srcT P ops 8 xs
  | .ca f xs => srcT P ops 8 (f :: xs)
  | _ => []
def mixO : Option AO → Nat → AH → AH
  | some o, i, W => W.put i o
  | none, _, W => W
/-- what was there when the region began, and some of what it has laid -/
def mixV (V H : AH) : List Nat → AH
  | [] => V
  | i :: r => mixO (H.get i) i (mixV V H r)
def RdN (P : Program) (V : AH) (sl : List Nat) (o : RO) (args : List AV) (k : AV → AH → Prop) (H : AH) : Prop := ∃ a, RdR P (mixV V H sl) o args a ∧ k a H
def RdS (P : Program) (o : RO) (args : List AV) (k : AV → AH → Prop) (H : AH) : Prop := Rd P H o args k H
def WrS (P : Program) (id : Nat) (o : WO) (args : List AV) (k : AV → AH → Prop) (H : AH) : Prop := Wr P id o args (fun a _ => k a) H
def CaV (P : Program) (V : AH) (fv : AV) (args : List AV) (k : AV → AH → Prop) (H : AH) : Prop :=
  ∃ f first cap a, fv = .fn (.func f) first cap ∧ callable P f = true ∧ (∀ H2, V.le H2 → Tri P f (first ++ args ++ cap) H2 (fun r H' => H' = H2 ∧ r = a)) ∧ k a H
/-- what a guard tells: a truth, or that it was itself left out -/
def gb : Option Bool → AV
  | some b => .p (.bool b)
  | none => .tup []
/-- changes to some things -/
def apE : List (Nat × AO) → AH → AH
  | [], H => H
  | (i, o) :: r, H => apE r (H.put i o)
def frzO : Nat → Option AO → List (Nat × AO)
  | i, some (.row _ sz es) => [(i, .frz sz es)]
  | _, _ => []
def frzE (H : AH) : List Nat → List (Nat × AO)
  | [] => []
  | i :: r => frzO i (H.get i) ++ frzE H r
/-- rows of the region's own that are frozen -/
def frzL (H : AH) (fz : List Nat) : AH := apE (frzE H fz) H
def DtO : Option AO → Prop
  | some (.row _ _ es) => DtR es
  | _ => True
def CaN (P : Program) (V : AH) (sl : List Nat) (fv : AV) (args : List AV) (k : AV → AH → Prop) (H : AH) : Prop :=
  ∃ f first cap a fz, fv = .fn (.func f) first cap ∧ callable P f = true ∧ (∀ i ∈ fz, i ∈ sl ∧ V.get i = none ∧ DtO (H.get i)) ∧ (∀ H2, (mixV V (frzL H fz) sl).le H2 → Tri P f (first ++ args ++ cap) H2 (fun r H' => H' = H2 ∧ r = a)) ∧ k a (frzL H fz)
def CaR (P : Program) (V : AH) (id : Nat) (sl : List Nat) (fv : AV) (args : List AV) (k : AV → AH → Prop) (H : AH) : Prop :=
  ∃ f first cap t sz es, fv = .fn (.func f) first cap ∧ callable P f = true ∧ (∀ e ∈ es, e.length = sz) ∧ (∀ H2, (mixV V H sl).le H2 → Tri P f (first ++ args ++ cap) H2 (fun r H' => RowR t sz H2 H' r es ∧ H2.le H')) ∧ k (.osl id sz 0 es.length) (H.put id (.row t sz es))
/-- a call that writes to what was there before the region: what it changes is told one by one -/
def CaP (P : Program) (V : AH) (b : Nat) (sl : List Nat) (fv : AV) (args : List AV) (k : AV → AH → AH → Prop) (H : AH) : Prop :=
  ∃ f first cap a fz e0, fv = .fn (.func f) first cap ∧ callable P f = true ∧ (∀ i ∈ fz, i ∈ sl ∧ V.get i = none ∧ DtO (H.get i)) ∧ (∀ p ∈ e0, p.1 < b) ∧
    (∀ H2, (∀ id, id < b ∨ id ∈ sl → H2.get id = (frzL H fz).get id) → Tri P f (first ++ args ++ cap) H2 (fun r H' => H' = apE e0 H2 ∧ r = a)) ∧ k a (apE e0 V) (apE e0 (frzL H fz))
structure Gd (c : AV) (want : Bool) (F : (AV → AH → Prop) → AH → Prop) (k : AV → AH → Prop) (H : AH) : Prop where
  out : ∃ b, c = gb b ∧ (b = some want → F k H) ∧ (b ≠ some want → k (.tup []) H)
structure GdV (c : AV) (want : Bool) (F : (AV → AH → AH → Prop) → AH → Prop) (V : AH) (k : AV → AH → AH → Prop) (H : AH) : Prop where
  out : ∃ b, c = gb b ∧ (b = some want → F k H) ∧ (b ≠ some want → k (.tup []) V H)
def Rg (m : Nat) (F : Nat → AH → Prop) (H : AH) : Prop := F H.nx (H.up m)
def Vw (F : AH → AH → Prop) (H : AH) : Prop := F H H
def delL (H : AH) : List Nat → AH
  | [] => H
  | i :: r => (delL H r).del i
/-- some things are left out: what is read does not hang on them -/
def VwD (F : AH → AH → Prop) (H : AH) : Prop := ∃ ds : List Nat, F (delL H ds) H
inductive WrOR (V : AH) (b : Nat) (src : Option Nat) (id : Nat) : WO → List AV → AH → AV → AH → Prop
  | st (n i off : Nat) (t : TypeId) (cs : List AV) (a : AV) (H : AH) : i < b → V.get i = none → H.get i = some (.box t cs) → a.part = true → a.cells.length = n → off + n ≤ cs.length → WrOR V b src id (.st n) [.ptr i off, a] H .any (H.put i (.box t (cs.take off ++ a.cells ++ cs.drop (off + n))))
  | app_nil (t sz bytes : Nat) (ys : List (List AV)) (x : AV) (H : AH) : ElF V H src sz x ys → ys.length ≤ maxLen → ys.length * bytes ≤ 140737488355328 →
      WrOR V b src id (.app t sz bytes) [.p (.slice none 0 0), x] H (.osl id sz 0 ys.length) (H.put id (.row t sz ys))
  | app_in (t sz bytes r n c : Nat) (es ys : List (List AV)) (x : AV) (H : AH) : r < b → V.get r = none → H.get r = some (.crow t sz c es) → n = es.length → ElF V H src sz x ys → n + ys.length ≤ c →
      WrOR V b src id (.app t sz bytes) [.osl r sz 0 n, x] H (.osl r sz 0 (n + ys.length)) (H.put r (.crow t sz c (es ++ ys)))
  | app_out (t sz bytes r n c : Nat) (es ys : List (List AV)) (x : AV) (H : AH) : r < b → H.get r = some (.crow t sz c es) → n = es.length → ElF V H src sz x ys → c < n + ys.length → n + ys.length ≤ maxLen → (n + ys.length) * bytes ≤ 140737488355328 →
      WrOR V b src id (.app t sz bytes) [.osl r sz 0 n, x] H (.osl id sz 0 (n + ys.length)) (H.put id (.row t sz (es ++ ys)))
def WrO (V : AH) (b : Nat) (src : Option Nat) (id : Nat) (o : WO) (args : List AV) (k : AV → AH → Prop) (H : AH) : Prop := ∃ a H', WrOR V b src id o args H a H' ∧ k a H'
def coreS (P : Program) (id : Nat) (o : Op) (env : Env) (k : AV → AH → Prop) (H : AH) : Prop :=
  match cls P o with
  | .mv x => k (ev0 env x) H
  | .pu po xs => Pu P po (xs.map (ev0 env)) k H
  | .rd ro xs => RdS P ro (xs.map (ev0 env)) k H
  | .al ao xs => Al id ao (xs.map (ev0 env)) k H
  | .wr wo xs => WrS P id wo (xs.map (ev0 env)) k H
  | .ca f xs => Ca P (ev0 env f) (xs.map (ev0 env)) k H
  | .bad => False
def plusB (b : Nat) : Option Nat → Option Nat
  | some j => some (b + j)
  | none => none
def coreV (P : Program) (b : Nat) (fw : Option (Option Nat × Option Nat) × List Nat) (V : AH) (id : Nat) (o : Op) (env : Env) (k : AV → AH → AH → Prop) (H : AH) : Prop :=
  match cls P o with
  | .mv x => k (ev0 env x) V H
  | .pu po xs => Pu P po (xs.map (ev0 env)) (fun a => k a V) H
  | .rd ro xs => match fw.2 with
    | [] => Rd P V ro (xs.map (ev0 env)) (fun a => k a V) H
    | j :: r => RdN P V ((b + j) :: r.map (b + ·)) ro (xs.map (ev0 env)) (fun a => k a V) H
  | .al ao xs => Al id ao (xs.map (ev0 env)) (fun a => k a V) H
  | .wr wo xs => match fw.1 with
    | some (tg, sr) => WrF V (plusB b tg) (plusB b sr) id wo (xs.map (ev0 env)) (fun a => k a V) H
    | none => match fw.2 with
      | [] => Wr P id wo (xs.map (ev0 env)) k H
      | _ :: r => WrO V b (r.head?.map (b + ·)) id wo (xs.map (ev0 env)) (fun a => k a V) H
  | .ca f xs => match fw.1 with
   | some (some _, some _) => Ca P (ev0 env f) (xs.map (ev0 env)) (fun a => Vw (k a)) H
   | some (some _, none) => CaP P V b (fw.2.map (b + ·)) (ev0 env f) (xs.map (ev0 env)) k H
   | some (none, _) => CaR P V id (fw.2.map (b + ·)) (ev0 env f) (xs.map (ev0 env)) (fun a => k a V) H
   | none => match fw.2 with
    | [] => CaV P V (ev0 env f) (xs.map (ev0 env)) (fun a => k a V) H
    | j :: r => CaN P V ((b + j) :: r.map (b + ·)) (ev0 env f) (xs.map (ev0 env)) (fun a => k a V) H
  | .bad => False
def gv (n : Nat) (ops : Array Oper) (env : Env) (j : Nat) : AV :=
  match (ops[j]?).bind (·.dst) with
  | some d => bif Nat.blt d n then env d else .any
  | none => .any
def seqA (P : Program) (n b : Nat) (ops : Array Oper) : List Oper → Nat → Env → (Env → AH → Prop) → AH → Prop
  | [], _, env, k => k env
  | o :: rest, i, env, k => match o.guard with
    | none => coreS P (b + i) o.op env (fun a => seqA P n b ops rest (i + 1) (setE n env o.dst a) k)
    | some (j, want) => Gd (gv n ops env j) want (coreS P (b + i) o.op env) (fun a => seqA P n b ops rest (i + 1) (setE n env o.dst a) k)
def stepV (P : Program) (n b : Nat) (ops : Array Oper) (o : Oper) (i : Nat) (env : Env) (V : AH) (k : Env → AH → AH → Prop) (H : AH) : Prop :=
  match o.guard with
  | none => coreV P b (freshW P ops o.op, srcsOf P ops o.op) V (b + i) o.op env (fun a => k (setE n env o.dst a)) H
  | some (j, want) => GdV (gv n ops env j) want (coreV P b (freshW P ops o.op, srcsOf P ops o.op) V (b + i) o.op env) V (fun a => k (setE n env o.dst a)) H
def seqV (P : Program) (n b : Nat) (ops : Array Oper) : List Oper → Nat → Env → (Env → AH → Prop) → AH → AH → Prop
  | [], _, env, k, _, H => k env H
  | o :: rest, i, env, k, V, H => stepV P n b ops o i env V (fun env' => seqV P n b ops rest (i + 1) env' k) H

section
variable {P : Program} {w : World} {S : Nat → Prop} {σ : Nat → Option Value} {H : AH} {n b : Nat} {ops : Array Oper}
/-- the frame stands for what is told of it -/
structure RepE (n : Nat) (a : Act) (w : World) (S : Nat → Prop) (σ : Nat → Option Value) (env : Env) : Prop where
  size : a.tmps.size = n
  defers : a.defers = []
  at_ : ∀ t, Rp w S σ (env t) (a.tmps.getD t undef)
theorem avOfV_rp (v : Value) : Rp w S σ (avOfV v) v := by
  cases v <;> try exact .data _ _ (.p _ rfl)
  · rename_i cs
    simp only [avOfV]
    cases hall : cs.all (·.oneCell') with
    | false => exact .any _
    | true =>
      rw [cond_true]
      rw [Array.all_eq_true'] at hall
      refine .agg _ _ (by simp) (fun k a u ha hu => ?_) hall
      rw [List.getElem?_map, Array.getElem?_toList, hu] at ha
      simp at ha; subst ha
      exact .data _ _ (.p _ (hall u (Array.mem_of_getElem? hu)))
  · exact .any _
theorem RepE.ev {a : Act} {env : Env} (h : RepE n a w S σ env) (x : Operand) : Rp w S σ (ev0 env x) (a.eval x) := by
  cases x with
  | tmp t => exact h.at_ t
  | const v => exact avOfV_rp v
  | global g => exact .data _ _ (.p _ rfl)
  | func f => exact .fn _ _ _ _ _ rfl rfl (by simp) (by simp)
theorem RepE.evs {a : Act} {env : Env} (h : RepE n a w S σ env) (xs : List Operand) : Rps w S σ (xs.map (ev0 env)) (xs.map a.eval) := by
  induction xs with
  | nil => exact .nil
  | cons x xs ih => exact .cons (h.ev x) ih
theorem RepE.put {a : Act} {env : Env} (h : RepE n a w S σ env) (dst : Option Tmp) {x : AV} {v : Value} (hx : Rp w S σ x v) : RepE n (a.put dst v) w S σ (setE n env dst x) := by
  cases dst with
  | none => exact h
  | some d =>
    refine ⟨by simp [Act.put, h.size], h.defers, fun t => ?_⟩
    simp only [setE, Act.put]
    by_cases hd : d < n
    · rw [show Nat.blt d n = true from by simp [Nat.blt_eq, hd]]
      simp only [cond_true]
      by_cases ht : t = d
      · subst ht
        rw [show Nat.beq t t = true from Nat.beq_refl t]
        simp only [cond_true, Array.getD_eq_getD_getElem?]
        rw [Array.getElem?_setIfInBounds_self_of_lt (by rw [h.size]; exact hd)]
        exact hx
      · rw [show Nat.beq t d = false from by rw [Bool.eq_false_iff]; exact fun e => ht (Nat.eq_of_beq_eq_true e)]
        simp only [cond_false, Array.getD_eq_getD_getElem?]
        rw [Array.getElem?_setIfInBounds_ne (fun e => ht e.symm), ← Array.getD_eq_getD_getElem?]
        exact h.at_ t
    · rw [show Nat.blt d n = false from by rw [Bool.eq_false_iff]; simp [Nat.blt_eq, hd]]
      simp only [cond_false, Array.getD_eq_getD_getElem?]
      rw [show a.tmps.setIfInBounds d v = a.tmps from Array.setIfInBounds_eq_of_size_le (by rw [h.size]; exact Nat.le_of_not_lt hd), ← Array.getD_eq_getD_getElem?]
      exact h.at_ t
theorem RepE.ext {w' : World} {S' : Nat → Prop} {σ' : Nat → Option Value} {H' : AH} {a : Act} {env : Env} (h : RepE n a w S σ env) (hs : Sat P w S σ H) (e : Ext w S σ H w' S' σ' H') : RepE n a w' S' σ' env :=
  ⟨h.size, h.defers, fun t => e.rp hs (h.at_ t)⟩
theorem cls_pu {o : Op} {po : PO} {xs : List Operand} (h : cls P o = .pu po xs) : clsP P o = some (po, xs) := by
  unfold cls at h
  split at h <;> try (cases h; done)
  · rename_i hc; injection h with h1 h2; subst h1; subst h2; exact hc
  · split at h <;> try (cases h; done)
    split at h <;> try (cases h; done)
    split at h <;> try (cases h; done)
    split at h <;> try (cases h; done)
    split at h <;> cases h
theorem cls_mv {o : Op} {x : Operand} (h : cls P o = .mv x) : clsP P o = some (.mv, [x]) := by
  unfold cls at h
  split at h <;> try (cases h; done)
  · rename_i hc; injection h with h1; subst h1; exact hc
  · split at h <;> try (cases h; done)
    split at h <;> try (cases h; done)
    split at h <;> try (cases h; done)
    split at h <;> try (cases h; done)
    split at h <;> cases h
theorem cls_rd {o : Op} {ro : RO} {xs : List Operand} (h : cls P o = .rd ro xs) : clsR P o = some (ro, xs) := by
  unfold cls at h
  split at h <;> try (cases h; done)
  · split at h <;> try (cases h; done)
    · rename_i hc; injection h with h1 h2; subst h1; subst h2; exact hc
    · split at h <;> try (cases h; done)
      split at h <;> try (cases h; done)
      split at h <;> try (cases h; done)
      split at h <;> cases h
theorem cls_al {o : Op} {ao : AOp} {xs : List Operand} (h : cls P o = .al ao xs) : clsA P o = some (ao, xs) := by
  unfold cls at h
  split at h <;> try (cases h; done)
  · split at h <;> try (cases h; done)
    split at h <;> try (cases h; done)
    · rename_i hc; injection h with h1 h2; subst h1; subst h2; exact hc
    · split at h <;> try (cases h; done)
      split at h <;> try (cases h; done)
      split at h <;> cases h
theorem cls_wr {o : Op} {wo : WO} {xs : List Operand} (h : cls P o = .wr wo xs) : clsW P o = some (wo, xs) := by
  unfold cls at h
  split at h <;> try (cases h; done)
  · split at h <;> try (cases h; done)
    split at h <;> try (cases h; done)
    split at h <;> try (cases h; done)
    · rename_i hc; injection h with h1 h2; subst h1; subst h2; exact hc
    · split at h <;> try (cases h; done)
      split at h <;> cases h
theorem cls_ca {o : Op} {f : Operand} {xs : List Operand} (h : cls P o = .ca f xs) : ∃ c, o = .call c ∧ c.callee = .value f ∧ c.args.toList = xs := by
  unfold cls at h
  split at h <;> try (cases h; done)
  · split at h <;> try (cases h; done)
    split at h <;> try (cases h; done)
    split at h <;> try (cases h; done)
    split at h <;> try (cases h; done)
    split at h <;> try (cases h; done)
    rename_i c _ _ hc
    injection h with h1 h2
    subst h1; subst h2
    exact ⟨_, rfl, hc, rfl⟩
/-- a call that is made -/
theorem call_run {o : Oper} {c : Call} {fo : Operand} {ev : Operand → Value} {f : FuncId} {first cap : List AV} {args : List AV} (ho : o.op = .call c) (hc : c.callee = .value fo) (hf : Rp w S σ (.fn (.func f) first cap) (ev fo)) (hcal : callable P f = true) (hr : Rps w S σ args (c.args.toList.map ev)) :
    ∃ us : List Value, (execOp ev o).run P w = .ok (.enter f us.toArray) w ∧ Rps w S σ (first ++ args ++ cap) us := by
  obtain ⟨fs, cs, hfe, h1, h2⟩ := hf.fn_inv
  refine ⟨fs.toList ++ c.args.toList.map ev ++ cs.toList, ?_, (h1.append hr).append h2⟩
  unfold callable at hcal
  cases hfn : P.funcs[f]? with
  | none => rw [hfn] at hcal; cases hcal
  | some fn =>
    rw [hfn] at hcal
    simp only [Bool.and_eq_true, bne_iff_ne, ne_eq] at hcal
    obtain ⟨n1, n2⟩ := hcal
    have n3 : ¬ fn.body = none := by intro e; rw [e] at n2; cases n2
    have he : (fs ++ c.args.map ev) ++ cs = (fs.toList ++ c.args.toList.map ev ++ cs.toList).toArray := by
      apply Array.ext'; simp
    rw [← he]
    simp [execOp, ho, resolve, hc, hfe, Deferred.ofValue, invoke, callFunc, hfn, n1, n3]
end
end Go.Proofs.Ytpmnlikgldacaaa

/- Operations one behind the other, and in whatever order: what the model does is what is told. Nothing of the program is named here. -/
namespace Go.Proofs.Ytpmnlikgldacaaa
open Go.RowKit Go.Maps

section
variable {P : Program} {w : World} {S : Nat → Prop} {σ : Nat → Option Value} {H V : AH} {n b : Nat} {ops : Array Oper}
/-- what stands behind an operation -/
def Aft (P : Program) (nd : Bool) (n id : Nat) (w : World) (S : Nat → Prop) (σ : Nat → Option Value) (H : AH) (dst : Option Tmp) (env : Env) (k : AV → AH → Prop) (a' : Act) (w' : World) : Prop :=
  ∃ x H' S' σ', k x H' ∧ RepE n a' w' S' σ' (setE n env dst x) ∧ Sat P w' S' σ' H' ∧ Ext w S σ H w' S' σ' H' ∧ H.nx ≤ H'.nx ∧ ∀ j, (nd = true → j ≠ id) → j < H.nx → σ' j = σ j
theorem val_wp {nd : Bool} {o : Oper} {a : Act} {env : Env} {x : AV} {k : AV → AH → Prop} {id : Nat} {Q : Exit → Act → World → Prop} (hr : RepE n a w S σ env) (hs : Sat P w S σ H) (h : Val1 P w S σ a.eval o x) (hk : k x H) : o.wp P a w (Aft P nd n id w S σ H o.dst env k) Q := by
  obtain ⟨v, hv, hx⟩ := h
  unfold Oper.wp
  rw [hv]
  exact ⟨x, H, S, σ, hk, hr.put _ hx, hs, .refl _ _ _ _, Nat.le_refl _, fun _ _ _ => rfl⟩
theorem eff_wp {o : Oper} {a : Act} {env : Env} {x : AV} {k : AV → AH → Prop} {id : Nat} {Q : Exit → Act → World → Prop} {H' : AH} (hr : RepE n a w S σ env) (hs : Sat P w S σ H) (h : Eff P w S σ H a.eval o id x H') (hn : H.nx ≤ H'.nx) (hk : k x H') : o.wp P a w (Aft P true n id w S σ H o.dst env k) Q := by
  obtain ⟨nx, w', σ', hv, hx, h1, h2, h3⟩ := h
  unfold Oper.wp
  rw [hv]
  rcases hx with ⟨v, rfl, hx⟩ | ⟨rfl, rfl⟩
  · exact ⟨x, H', S, σ', hk, (hr.ext hs h2).put _ hx, h1, h2, hn, fun j hj _ => h3 j (hj rfl)⟩
  · exact ⟨_, H', S, σ', hk, (hr.ext hs h2).put _ (.any _), h1, h2, hn, fun j hj _ => h3 j (hj rfl)⟩
theorem ca_wp {nd : Bool} {o : Oper} {a : Act} {env : Env} {c : Call} {fo : Operand} {f : FuncId} {first cap : List AV} {R : AV → AH → Prop} {k : AV → AH → Prop} {id : Nat} {Q : Exit → Act → World → Prop} (hr : RepE n a w S σ env) (hs : Sat P w S σ H) (ho : o.op = .call c) (hc : c.callee = .value fo)
    (hf : ev0 env fo = .fn (.func f) first cap) (hcal : callable P f = true) (ht : Tri P f (first ++ c.args.toList.map (ev0 env) ++ cap) H R) (hk : ∀ r H', SatE P H' → R r H' → k r H') : o.wp P a w (Aft P nd n id w S σ H o.dst env k) Q := by
  have hfv := hr.ev fo
  rw [hf] at hfv
  obtain ⟨us, hrun, hus⟩ := call_run (P := P) ho hc hfv hcal (hr.evs c.args.toList)
  unfold Oper.wp
  rw [hrun]
  refine (ht w S σ us hs hus).mono fun e w' ⟨v, S', σ', r, H', he, hq, h1, h2, h3, h4, h5⟩ => ?_
  subst he
  exact ⟨r, H', S', σ', hk r H' ⟨_, _, _, h1⟩ hq, (hr.ext hs h3).put _ h2, h1, h3, h4, fun j _ hj => h5 j hj⟩
theorem wr_nx {id : Nat} {wo : WO} {args : List AV} {a : AV} {H' : AH} (h : WrR P id wo args H a H') : H'.nx = H.nx := by cases h <;> rfl
theorem sat_hsz (hs : Sat P w S σ H) : ∀ id A n c, σ id = some (.slice A n c) → n ≤ c ∧ (0 < c → ∃ g o, A = some ⟨g, o, none⟩) := fun id A n c h => ⟨(hs.sl id A n c h).1, (hs.sl id A n c h).2.1⟩
theorem coreS_wp {o : Oper} {a : Act} {env : Env} {k : AV → AH → Prop} {id : Nat} {Q : Exit → Act → World → Prop} (hr : RepE n a w S σ env) (hs : Sat P w S σ H) (hid : needC (cls P o.op) = true → id < H.nx ∧ σ id = none) (h : coreS P id o.op env k H) : o.wp P a w (Aft P (needC (cls P o.op)) n id w S σ H o.dst env k) Q := by
  unfold coreS at h
  split at h
  · rename_i x hc
    exact val_wp hr hs (pu_sound (cls_mv hc) (.mv _) (hr.evs [x]) (sat_hsz hs)) h
  · rename_i po xs hc
    obtain ⟨x, hp, hk⟩ := h
    exact val_wp hr hs (pu_sound (cls_pu hc) hp (hr.evs xs) (sat_hsz hs)) hk
  · rename_i ro xs hc
    obtain ⟨x, hp, hk⟩ := h
    exact val_wp hr hs (rd_sound hs (cls_rd hc) hp (hr.evs xs)) hk
  · rename_i ao xs hc
    obtain ⟨x, o', hp, hk⟩ := h
    rw [show needC (cls P o.op) = true from by rw [hc]; rfl]
    exact eff_wp hr hs (al_sound (fun _ => rfl) hs (hid (by rw [hc]; rfl)).1 (hid (by rw [hc]; rfl)).2 (cls_al hc) hp (hr.evs xs)) (Nat.le_refl _) hk
  · rename_i wo xs hc
    obtain ⟨x, H', hp, hk⟩ := h
    rw [show needC (cls P o.op) = true from by rw [hc]; rfl]
    exact eff_wp hr hs (wr_sound hs (hid (by rw [hc]; rfl)) (cls_wr hc) hp (hr.evs xs)) (Nat.le_of_eq (wr_nx hp).symm) hk
  · rename_i f xs hc
    obtain ⟨c, ho, hcc, rfl⟩ := cls_ca hc
    obtain ⟨g, first, cap, R, hf, hcal, ht, hk⟩ := h
    exact ca_wp hr hs ho hcc hf hcal ht hk
  · exact h.elim
theorem AtA.le {a : AV} {ds : List AV} (h : AtA V a ds) (hle : V.le H) : AtA H a ds := by
  cases h with
  | box id off t cs hg => exact .box id off t cs (hle _ _ hg)
  | row id sz i j t es e hg he => exact .row id sz i j t es e (hle _ _ hg) he
  | frz id sz i j es e hg he => exact .frz id sz i j es e (hle _ _ hg) he
  | crow id sz i j c t es e hg he => exact .crow id sz i j c t es e (hle _ _ hg) he
  | dat sz i j xs e he => exact .dat sz i j xs e he
theorem ElA.le {sz : Nat} {x : AV} {ys : List (List AV)} (h : ElA V sz x ys) (hle : V.le H) : ElA H sz x ys := by
  cases h with
  | dsl xs => exact .dsl _
  | row id off n t es hg hn => exact .row id off n t es (hle _ _ hg) hn
  | frz id off n es hg hn => exact .frz id off n es (hle _ _ hg) hn
  | crow id off n c t es hg hn => exact .crow id off n c t es (hle _ _ hg) hn
  | nil_ A c => exact .nil_ A c
theorem RdR.le {ro : RO} {args : List AV} {a : AV} (h : RdR P V ro args a) (hle : V.le H) : RdR P H ro args a := by
  cases h with
  | ld_agg _ _ _ hat hn => exact .ld_agg _ _ _ (hat.le hle) hn
  | ld_one _ _ _ _ hat hb => exact .ld_one _ _ _ _ (hat.le hle) hb
  | look_no _ _ _ _ _ _ _ _ hg hK hu hk hf => exact .look_no _ _ _ _ _ _ _ _ (hle _ _ hg) hK hu hk hf
  | look_yes _ _ _ _ _ _ _ _ _ hg hK hu hk hf => exact .look_yes _ _ _ _ _ _ _ _ _ (hle _ _ hg) hK hu hk hf
  | bstr _ _ hel => exact .bstr _ _ (hel.le hle)
/-- the same in whatever order: what was there when the region began is read -/
def AftV (P : Program) (nd : Bool) (n id : Nat) (w : World) (S : Nat → Prop) (σ : Nat → Option Value) (H : AH) (dst : Option Tmp) (env : Env) (k : AV → AH → AH → Prop) (a' : Act) (w' : World) : Prop :=
  ∃ x V' H' S' σ', k x V' H' ∧ V'.le H' ∧ RepE n a' w' S' σ' (setE n env dst x) ∧ Sat P w' S' σ' H' ∧ Ext w S σ H w' S' σ' H' ∧ H.nx ≤ H'.nx ∧ ∀ j, (nd = true → j ≠ id) → j < H.nx → σ' j = σ j
theorem Aft.toV {nd : Bool} {id : Nat} {dst : Option Tmp} {env : Env} {k : AV → AH → Prop} {k' : AV → AH → AH → Prop} {a' : Act} {w' : World} (h : Aft P nd n id w S σ H dst env k a' w') (hk : ∀ x H', k x H' → ∃ V', k' x V' H' ∧ V'.le H') : AftV P nd n id w S σ H dst env k' a' w' := by
  obtain ⟨x, H', S', σ', h1, h2⟩ := h
  obtain ⟨V', h3, h4⟩ := hk x H' h1
  exact ⟨x, V', H', S', σ', h3, h4, h2⟩
theorem put_le {id : Nat} {o' : AO} (hle : V.le H) (hn : H.get id = none) : V.le (H.put id o') := by
  intro j o hj
  have h := hle j o hj
  by_cases e : j = id
  · subst e; rw [hn] at h; cases h
  · rw [AH.get_put_ne e]; exact h
theorem Sat.none_get (hs : Sat P w S σ H) {id : Nat} (h : σ id = none) : H.get id = none := by
  cases hg : H.get id with
  | none => rfl
  | some o =>
    have := hs.obj id o hg
    cases o with
    | box t cs => obtain ⟨g, arr, h1, _⟩ := this; rw [h] at h1; cases h1
    | row t sz es => obtain ⟨A, c, h1, _⟩ := this; rw [h] at h1; cases h1
    | frz sz es => obtain ⟨A, c, h1, _⟩ := this; rw [h] at h1; cases h1
    | crow t sz c es => obtain ⟨A, N, h1, _⟩ := this; rw [h] at h1; cases h1
    | map kt m f => obtain ⟨g, f', h1, _⟩ := this; rw [h] at h1; cases h1
    | siter s p => obtain ⟨g, h1, _⟩ := this; rw [h] at h1; cases h1
    | dead => have h2 : (σ id).isSome = true := this; rw [h] at h2; cases h2
theorem AH.le_refl (H : AH) : H.le H := fun _ _ h => h
theorem ElF.toA {src : Option Nat} {sz : Nat} {x : AV} {ys : List (List AV)} (h : ElF V H src sz x ys) (hle : V.le H) : ElA H sz x ys := by
  cases h with
  | old x ys h => exact h.le hle
  | new i off n t es _ hg hn => exact .row i off n t es hg hn
theorem put_leV {i : Nat} {o' : AO} (hle : V.le H) (hn : V.get i = none) : V.le (H.put i o') := by
  intro j o hj
  have hne : j ≠ i := fun e => by subst e; rw [hn] at hj; cases hj
  rw [AH.get_put_ne hne]; exact hle j o hj
theorem wrF_wr {tgt src : Option Nat} {id : Nat} {wo : WO} {args : List AV} {a : AV} {H' : AH} (hle : V.le H) (hid : H.get id = none) (h : WrFR V tgt src id wo args H a H') : WrR P id wo args H a H' ∧ V.le H' := by
  have hv : V.get id = none := by
    cases hg : V.get id with
    | none => rfl
    | some o => rw [hle _ _ hg] at hid; cases hid
  cases h with
  | st n i off t cs a _ h1 h2 h3 h4 h5 h6 => exact ⟨.st_box n i off t cs a _ h3 h4 h5 h6, put_leV hle h2⟩
  | app_row t sz bytes r off n es ys x _ h1 h2 h3 h4 h5 h6 h7 => exact ⟨.app_row t sz bytes r off n es ys x _ h3 h4 (h5.toA hle) h6 h7, put_leV (put_leV hle h2) hv⟩
  | app_nil t sz bytes ys x _ h1 h2 h3 h4 => exact ⟨.app_nil t sz bytes ys x _ (h2.toA hle) h3 h4, put_leV hle hv⟩
theorem mixV_le (hle : V.le H) : ∀ sl : List Nat, (mixV V H sl).le H
  | [] => hle
  | i :: r => by
    have ih := mixV_le hle r
    unfold mixV
    cases hg : H.get i with
    | none => exact ih
    | some o =>
      intro j o' hj
      by_cases e : j = i
      · subst e; simp only [mixO] at hj; rw [AH.get_put_self] at hj; rw [hg]; exact hj
      · simp only [mixO] at hj; rw [AH.get_put_ne e] at hj; exact ih j o' hj
theorem mixV_congr {H2 : AH} : ∀ sl : List Nat, (∀ i ∈ sl, H2.get i = H.get i) → mixV V H2 sl = mixV V H sl
  | [], _ => rfl
  | i :: r, h => by
    unfold mixV
    rw [h i (by simp), mixV_congr r fun j hj => h j (by simp [hj])]
theorem Sat.freeze (hs : Sat P w S σ H) {r : Nat} {t : TypeId} {sz : Nat} {es : List (List AV)} (hg : H.get r = some (.row t sz es)) (hd : DtR es) :
    ∃ S', Sat P w S' σ (H.put r (.frz sz es)) ∧ (∀ b, S b → S' b) ∧ (∀ b, S' b → S b ∨ Foot σ H b) ∧ ∀ b, Foot σ (H.put r (.frz sz es)) b → Foot σ H b := by
  have hk := hs.obj r _ hg
  obtain ⟨A, c, h1, h2, h3, h4, h5⟩ := hk
  have hlt : ∀ b, (σ r).bind blkOf = some b → b < w.heap.size := by
    intro b hb
    rw [h1] at hb
    rcases h5 with ⟨rfl, _⟩ | ⟨g, o, arr, rfl, k1, _⟩
    · cases hb
    · injection hb with hb; subst hb; exact k1.lt
  have hget : ∀ id o, (H.put r (.frz sz es)).get id = some o → (id = r ∧ o = .frz sz es) ∨ (id ≠ r ∧ H.get id = some o) := by
    intro id o ho
    by_cases e : id = r
    · subst e; rw [AH.get_put_self] at ho; injection ho with ho; exact .inl ⟨rfl, ho.symm⟩
    · rw [AH.get_put_ne e] at ho; exact .inr ⟨e, ho⟩
  refine ⟨fun b => S b ∨ (σ r).bind blkOf = some b, ⟨fun b hb => hb.elim (hs.sb b) (hlt b), hs.dom, fun id o ho => ?_, fun i q o o' b h h' k k' => ?_, fun i o b h k hb hS => ?_, hs.sl⟩, fun b hb => .inl hb, fun b hb => hb.elim .inl fun hb => .inr ⟨r, _, hg, rfl, hb⟩, ?_⟩
  · rcases hget id o ho with ⟨rfl, rfl⟩ | ⟨e, ho⟩
    · refine ⟨A, c, h1, ?_⟩
      rcases h5 with ⟨rfl, rfl⟩ | ⟨g, o, arr, rfl, k1, k2, k3, k4⟩
      · have : es = [] := List.length_eq_zero_iff.1 (by omega)
        subst this
        exact .dsl _ _ _ _ (fun _ _ => .bool false) (Nat.zero_le _) h4 (by simp) (by simp) (by simp) (fun _ _ => rfl)
      · refine .dsl _ _ _ _ (fun i j => (arr[o + i * sz + j]?).getD (.bool false)) h3 h4 h2 (fun i e j a he ha => ?_) (fun i e j a he ha => ?_) (fun i j => ?_)
        · obtain ⟨v, hv, _⟩ := k4 i e j a he ha
          exact ⟨g, o, rfl, .inr (by rw [h1]; rfl), by rw [k1.cell, hv]; rfl⟩
        · obtain ⟨v, hv, hr⟩ := k4 i e j a he ha
          rw [hv]
          exact (hd e (List.mem_of_getElem? he) a (List.mem_of_getElem? ha) _ _ _ _ hr).mono (fun _ h => .inl h) (fun _ _ => rfl)
        · cases hv : arr[o + i * sz + j]? with
          | none => rfl
          | some u => exact k3 u (Array.mem_of_getElem? hv)
    · exact (hs.obj id o ho).mono (fun _ h => .inl h) (fun _ _ => rfl) (fun _ _ h => h) (fun _ _ _ => rfl)
  · rcases hget i o h with ⟨rfl, rfl⟩ | ⟨e, h⟩
    · cases k
    · rcases hget q o' h' with ⟨rfl, rfl⟩ | ⟨e', h'⟩
      · cases k'
      · exact fun b1 b2 => hs.dj i q o o' b h h' k k' b1 b2
  · rcases hget i o h with ⟨rfl, rfl⟩ | ⟨e, h⟩
    · cases k
    · rcases hS with hS | hS
      · exact hs.sep i o b h k hb hS
      · exact e (hs.dj i r o _ b h hg k rfl hb hS)
  · rintro b ⟨i, o, h, k, hb⟩
    rcases hget i o h with ⟨rfl, rfl⟩ | ⟨e, h⟩
    · cases k
    · exact ⟨i, o, h, k, hb⟩
theorem Ext.still {S' : Nat → Prop} {H' : AH} (h1 : ∀ b, S b → S' b) (h2 : ∀ b, S' b → S b ∨ Foot σ H b) (h3 : ∀ b, Foot σ H' b → Foot σ H b) : Ext w S σ H w S' σ H' :=
  ⟨rfl, rfl, rfl, Nat.le_refl _, fun _ _ _ => rfl, h1, fun b hb => (h2 b hb).elim .inl fun h => .inr (.inl h), fun b hb => .inl (h3 b hb), fun _ _ h => h⟩
theorem apE_get {j : Nat} : ∀ (e : List (Nat × AO)) (H : AH), (∀ p ∈ e, p.1 ≠ j) → (apE e H).get j = H.get j
  | [], H, _ => rfl
  | (i, o) :: r, H, h => by
    have hi : i ≠ j := h (i, o) (by simp)
    rw [apE, apE_get r _ fun p hp => h p (by simp [hp]), AH.get_put_ne (fun e => hi e.symm)]
theorem apE_nx : ∀ (e : List (Nat × AO)) (H : AH), (apE e H).nx = H.nx
  | [], _ => rfl
  | (i, o) :: r, H => (apE_nx r _).trans rfl
theorem apE_same {j : Nat} : ∀ (e : List (Nat × AO)) (H H2 : AH), H2.get j = H.get j → (apE e H2).get j = (apE e H).get j
  | [], _, _, h => h
  | (i, o) :: r, H, H2, h => apE_same r _ _ (by
    by_cases e : j = i
    · subst e; rw [AH.get_put_self, AH.get_put_self]
    · rw [AH.get_put_ne e, AH.get_put_ne e]; exact h)
theorem frzE_in {H : AH} : ∀ {fz : List Nat} {p : Nat × AO}, p ∈ frzE H fz → p.1 ∈ fz ∧ ∃ t sz es, H.get p.1 = some (.row t sz es) ∧ p.2 = .frz sz es
  | [], p, h => by cases h
  | i :: r, p, h => by
    unfold frzE at h
    rcases List.mem_append.1 h with h | h
    · cases hg : H.get i with
      | none => rw [hg] at h; cases h
      | some o =>
        rw [hg] at h
        cases o <;> simp only [frzO, List.mem_singleton, List.not_mem_nil] at h
        subst h
        exact ⟨by simp, _, _, _, hg, rfl⟩
    · obtain ⟨h1, h2⟩ := frzE_in h
      exact ⟨by simp [h1], h2⟩
theorem frzE_same {H H2 : AH} : ∀ {fz : List Nat}, (∀ i ∈ fz, H2.get i = H.get i) → frzE H2 fz = frzE H fz
  | [], _ => rfl
  | i :: r, h => by rw [frzE, frzE, h i (by simp), frzE_same fun j hj => h j (by simp [hj])]
/-- what is frozen one after the other -/
theorem Sat.freezes : ∀ (e : List (Nat × AO)) (H : AH) (S : Nat → Prop), Sat P w S σ H → (∀ p ∈ e, ∃ sz es, p.2 = .frz sz es ∧ DtR es ∧ ((∃ t, H.get p.1 = some (.row t sz es)) ∨ H.get p.1 = some (.frz sz es))) →
    ∃ S', Sat P w S' σ (apE e H) ∧ (∀ b, S b → S' b) ∧ (∀ b, S' b → S b ∨ Foot σ H b) ∧ ∀ b, Foot σ (apE e H) b → Foot σ H b
  | [], H, S, hs, _ => ⟨S, hs, fun _ h => h, fun _ h => .inl h, fun _ h => h⟩
  | (i, o) :: r, H, S, hs, h => by
    obtain ⟨sz, es, rfl, hd, hg⟩ := h (i, o) (by simp)
    have : ∃ S', Sat P w S' σ (H.put i (.frz sz es)) ∧ (∀ b, S b → S' b) ∧ (∀ b, S' b → S b ∨ Foot σ H b) ∧ ∀ b, Foot σ (H.put i (.frz sz es)) b → Foot σ H b := by
      rcases hg with ⟨t, hg⟩ | hg
      · exact hs.freeze hg hd
      · have hsame : ∀ j, (H.put i (.frz sz es)).get j = H.get j := fun j => by
          by_cases e : j = i
          · subst e; rw [AH.get_put_self, hg]
          · rw [AH.get_put_ne e]
        exact ⟨S, ⟨hs.sb, hs.dom, fun id o ho => hs.obj id o (by rw [← hsame]; exact ho), fun a b o o' x h1 h2 => hs.dj a b o o' x (by rw [← hsame]; exact h1) (by rw [← hsame]; exact h2), fun a o x h1 => hs.sep a o x (by rw [← hsame]; exact h1), hs.sl⟩, fun _ h => h, fun _ h => .inl h,
          fun b ⟨a, o, h1, h2, h3⟩ => ⟨a, o, by rw [← hsame]; exact h1, h2, h3⟩⟩
    obtain ⟨S1, k1, k2, k3, k4⟩ := this
    obtain ⟨S2, m1, m2, m3, m4⟩ := Sat.freezes r (H.put i (.frz sz es)) S1 k1 fun p hp => by
      obtain ⟨sz', es', e1, e2, e3⟩ := h p (by simp [hp])
      refine ⟨sz', es', e1, e2, ?_⟩
      by_cases e : p.1 = i
      · rw [e, AH.get_put_self]
        rw [e] at e3
        right
        rcases e3 with ⟨t, e3⟩ | e3 <;> rcases hg with ⟨t', hg⟩ | hg <;> rw [hg] at e3 <;> injection e3 with e3
        · injection e3 with _ e4 e5; rw [e4, e5]
        · cases e3
        · cases e3
        · injection e3 with e4 e5; rw [e4, e5]
      · rw [AH.get_put_ne e]; exact e3
    exact ⟨S2, m1, fun b hb => m2 b (k2 b hb), fun b hb => (m3 b hb).elim (k3 b) fun h => .inr (k4 b h), fun b hb => k4 b (m4 b hb)⟩
theorem wro_eff {src : Option Nat} {id : Nat} {wo : WO} {xs : List Operand} {args : List AV} {a : AV} {H' : AH} {o : Oper} {ev : Operand → Value} (hs : Sat P w S σ H) (hle : V.le H) (hid : id < H.nx ∧ σ id = none) (hc : clsW P o.op = some (wo, xs)) (hp : WrOR V b src id wo args H a H') (hr : Rps w S σ args (xs.map ev)) :
    V.le H' ∧ H'.nx = H.nx ∧ Eff P w S σ H ev o id a H' := by
  have hn := hs.none_get hid.2
  cases hp with
  | st n i off t cs a _ h1 h2 h3 h4 h5 h6 => exact ⟨put_leV hle h2, rfl, wr_sound hs hid hc (.st_box n i off t cs a _ h3 h4 h5 h6) hr⟩
  | app_nil t sz bytes ys x _ h1 h2 h3 => exact ⟨put_le hle hn, rfl, wr_sound hs hid hc (.app_nil t sz bytes ys x _ (h1.toA hle) h2 h3) hr⟩
  | app_in t sz bytes r n c es ys x _ h1 h2 h3 h4 h5 h6 => exact ⟨put_leV hle h2, rfl, cr_sound hs hid hc (.app_in t sz bytes r n c es ys x _ h3 h4 (h5.toA hle) h6) hr⟩
  | app_out t sz bytes r n c es ys x _ h1 h3 h4 h5 h6 h7 h8 => exact ⟨put_le hle hn, rfl, cr_sound hs hid hc (.app_out t sz bytes r n c es ys x _ h3 h4 (h5.toA hle) h6 h7 h8) hr⟩
theorem delL_le : ∀ ds : List Nat, (delL H ds).le H
  | [] => AH.le_refl H
  | _ :: r => fun j o hj => delL_le r j o (AH.get_del hj).1
theorem apE_le : ∀ (e : List (Nat × AO)) {V H : AH}, V.le H → (apE e V).le (apE e H)
  | [], _, _, h => h
  | (i, o) :: r, V, H, h => apE_le r fun j x hj => by
    by_cases q : j = i
    · subst q; rw [AH.get_put_self] at hj ⊢; exact hj
    · rw [AH.get_put_ne q] at hj ⊢; exact h j x hj
theorem coreV_wp {o : Oper} {a : Act} {env : Env} {k : AV → AH → AH → Prop} {id : Nat} {Q : Exit → Act → World → Prop} (hr : RepE n a w S σ env) (hs : Sat P w S σ H) (hle : V.le H) {nd : Bool} (hnc : needC (cls P o.op) = true → nd = true) {fw : Option (Option Nat × Option Nat) × List Nat} (hrc : ∀ f xs, cls P o.op = .ca f xs → fw.1.isSome = true → nd = true) (hid : nd = true → id < H.nx ∧ σ id = none) (h : coreV P b fw V id o.op env k H) : o.wp P a w (AftV P nd n id w S σ H o.dst env k) Q := by
  have up : ∀ {k1 : AV → AH → Prop}, o.wp P a w (Aft P nd n id w S σ H o.dst env k1) Q → (∀ x H', k1 x H' → ∃ V', k x V' H' ∧ V'.le H') → o.wp P a w (AftV P nd n id w S σ H o.dst env k) Q := fun h1 h2 => Oper.wp_mono (fun _ _ h => h.toV h2) h1
  unfold coreV at h
  split at h
  · rename_i x hc
    exact up (k1 := fun x H' => k x V H' ∧ V.le H') (val_wp hr hs (pu_sound (cls_mv hc) (.mv _) (hr.evs [x]) (sat_hsz hs)) ⟨h, hle⟩) (fun _ _ h => ⟨V, h⟩)
  · rename_i po xs hc
    obtain ⟨x, hp, hk⟩ := h
    exact up (k1 := fun x H' => k x V H' ∧ V.le H') (val_wp hr hs (pu_sound (cls_pu hc) hp (hr.evs xs) (sat_hsz hs)) ⟨hk, hle⟩) (fun _ _ h => ⟨V, h⟩)
  · rename_i ro xs hc
    obtain ⟨fw, sl⟩ := fw
    cases sl with
    | nil =>
      obtain ⟨x, hp, hk⟩ := h
      exact up (k1 := fun x H' => k x V H' ∧ V.le H') (val_wp hr hs (rd_sound hs (cls_rd hc) (hp.le hle) (hr.evs xs)) ⟨hk, hle⟩) (fun _ _ h => ⟨V, h⟩)
    | cons j r =>
      obtain ⟨x, hp, hk⟩ := h
      exact up (k1 := fun x H' => k x V H' ∧ V.le H') (val_wp hr hs (rd_sound hs (cls_rd hc) (hp.le (mixV_le hle _)) (hr.evs xs)) ⟨hk, hle⟩) (fun _ _ h => ⟨V, h⟩)
  · rename_i ao xs hc
    obtain ⟨x, o', hp, hk⟩ := h
    refine up (k1 := fun x H' => k x V H' ∧ V.le H') (by rw [hnc (by rw [hc]; rfl)]; exact eff_wp hr hs (al_sound (fun _ => rfl) hs (hid (hnc (by rw [hc]; rfl))).1 (hid (hnc (by rw [hc]; rfl))).2 (cls_al hc) hp (hr.evs xs)) (Nat.le_refl _) ⟨hk, put_le hle (hs.none_get (hid (hnc (by rw [hc]; rfl))).2)⟩) (fun _ _ h => ⟨V, h⟩)
  · rename_i wo xs hc
    obtain ⟨fw, sl⟩ := fw
    cases fw with
    | none =>
     cases sl with
     | cons q1 q2 =>
      obtain ⟨x, H', hp, hk⟩ := h
      obtain ⟨i1, i2⟩ := hid (hnc (by rw [hc]; rfl))
      obtain ⟨hv, hnx, heff⟩ := wro_eff (ev := a.eval) hs hle ⟨i1, i2⟩ (cls_wr hc) hp (hr.evs xs)
      refine up (k1 := fun x H' => k x V H' ∧ V.le H') (by rw [hnc (by rw [hc]; rfl)]; exact eff_wp hr hs heff (Nat.le_of_eq hnx.symm) ⟨hk, hv⟩) (fun _ _ h => ⟨V, h⟩)
     | nil =>
      obtain ⟨x, H', hp, hk⟩ := h
      refine up (k1 := fun x H' => k x H' H') (by rw [hnc (by rw [hc]; rfl)]; exact eff_wp hr hs (wr_sound hs (hid (hnc (by rw [hc]; rfl))) (cls_wr hc) hp (hr.evs xs)) (Nat.le_of_eq (wr_nx hp).symm) hk) (fun _ H' h => ⟨H', h, AH.le_refl _⟩)
    | some f =>
      obtain ⟨tg, sr⟩ := f
      obtain ⟨x, H', hp, hk⟩ := h
      obtain ⟨hp', hle'⟩ := wrF_wr hle (hs.none_get (hid (hnc (by rw [hc]; rfl))).2) hp
      refine up (k1 := fun x H' => k x V H' ∧ V.le H') (by rw [hnc (by rw [hc]; rfl)]; exact eff_wp hr hs (wr_sound hs (hid (hnc (by rw [hc]; rfl))) (cls_wr hc) hp' (hr.evs xs)) (Nat.le_of_eq (wr_nx hp').symm) ⟨hk, hle'⟩) (fun _ _ h => ⟨V, h⟩)
  · rename_i fo xs hc
    obtain ⟨c, ho, hcc, rfl⟩ := cls_ca hc
    obtain ⟨fw, sl⟩ := fw
    cases fw with
    | some q =>
     obtain ⟨q1, q2⟩ := q
     cases q1 with
     | some q1 =>
      cases q2 with
      | some q2 =>
       obtain ⟨g, first, cap, R, hf, hcal, ht, hk⟩ := h
       exact up (k1 := fun x H' => k x H' H') (ca_wp hr hs ho hcc hf hcal ht hk) (fun _ H' h => ⟨H', h, AH.le_refl _⟩)
      | none =>
      obtain ⟨g, first, cap, x, fz, e0, hf, hcal, hfz, _, ht, hk⟩ := h
      obtain ⟨S2, m1, m2, m3, m4⟩ := hs.freezes (frzE H fz) H S fun p hp => by
        obtain ⟨q1, t, sz, es, q2, q3⟩ := frzE_in hp
        have := (hfz _ q1).2.2
        rw [q2] at this
        exact ⟨sz, es, q3, this, .inl ⟨t, q2⟩⟩
      have hle2 : V.le (frzL H fz) := fun id o ho => by
        rw [frzL, apE_get _ _ fun p hp e => by
          have := (hfz _ (frzE_in hp).1).2.1
          rw [e, ho] at this; cases this]
        exact hle id o ho
      have hE : Ext w S σ H w S2 σ (frzL H fz) := .still m2 m3 m4
      refine Oper.wp_mono (fun a' w' hh => ?_) (ca_wp (nd := nd) (id := id) (k := fun x H' => k x (apE e0 V) H' ∧ (apE e0 V).le H') (hr.ext hs hE) m1 ho hcc hf hcal (ht _ fun _ _ => rfl) (fun r H' _ ⟨h1, h2⟩ => by subst h1; subst h2; exact ⟨hk, apE_le e0 hle2⟩))
      obtain ⟨x, H', S', σ', ⟨g1, g2⟩, g3, g4, g5, g6, g7⟩ := hh
      have hnx : (apE (frzE H fz) H).nx = H.nx := apE_nx _ _
      exact ⟨x, _, H', S', σ', g1, g2, g3, g4, hE.trans g5, by rw [← hnx]; exact g6, fun j h1 h2 => g7 j h1 (by rw [hnx]; exact h2)⟩
     | none =>
      obtain ⟨g, first, cap, t, sz, es, hf, hcal, hd, ht, hk⟩ := h
      have hnd := hrc fo _ hc rfl
      obtain ⟨i1, i2⟩ := hid hnd
      subst hnd
      have hfv := hr.ev fo
      rw [hf] at hfv
      obtain ⟨us, hrun, hus⟩ := call_run (P := P) ho hcc hfv hcal (hr.evs c.args.toList)
      unfold Oper.wp
      rw [hrun]
      refine (ht H (mixV_le hle _) w S σ us hs hus).mono fun e w' ⟨v, S', σ', r, H', he, ⟨hq, hle2⟩, h1, h2, h3, h4, h5⟩ => ?_
      subst he
      obtain ⟨σ2, g1, g2, g3, g4⟩ := relaid hs h1 h3 h4 h5 hle2 hq h2 i1 i2 hd
      exact ⟨_, V, _, S', σ2, hk, put_le hle (hs.none_get i2), (hr.ext hs g3).put _ g2, g1, g3, Nat.le_refl _, fun j k1 k2 => g4 j (k1 rfl) k2⟩
    | none =>
    cases sl with
    | nil =>
      obtain ⟨g, first, cap, x, hf, hcal, ht, hk⟩ := h
      exact up (k1 := fun x H' => k x V H' ∧ V.le H') (ca_wp hr hs ho hcc hf hcal (ht H hle) (fun r H' _ ⟨h1, h2⟩ => by subst h1; subst h2; exact ⟨hk, hle⟩)) (fun _ _ h => ⟨V, h⟩)
    | cons j r =>
      obtain ⟨g, first, cap, x, fz, hf, hcal, hfz, ht, hk⟩ := h
      obtain ⟨S2, m1, m2, m3, m4⟩ := hs.freezes (frzE H fz) H S fun p hp => by
        obtain ⟨q1, t, sz, es, q2, q3⟩ := frzE_in hp
        have := (hfz _ q1).2.2
        rw [q2] at this
        exact ⟨sz, es, q3, this, .inl ⟨t, q2⟩⟩
      have hle2 : V.le (frzL H fz) := fun id o ho => by
        rw [frzL, apE_get _ _ fun p hp e => by
          have := (hfz _ (frzE_in hp).1).2.1
          rw [e, ho] at this; cases this]
        exact hle id o ho
      have hE : Ext w S σ H w S2 σ (frzL H fz) := .still m2 m3 m4
      refine Oper.wp_mono (fun a' w' hh => ?_) (ca_wp (nd := nd) (id := id) (k := fun x H' => k x V H' ∧ V.le H') (hr.ext hs hE) m1 ho hcc hf hcal (ht _ (mixV_le hle2 _)) (fun r H' _ ⟨h1, h2⟩ => by subst h1; subst h2; exact ⟨hk, hle2⟩))
      obtain ⟨x, H', S', σ', ⟨g1, g2⟩, g3, g4, g5, g6, g7⟩ := hh
      have hnx : (apE (frzE H fz) H).nx = H.nx := apE_nx _ _
      exact ⟨x, V, H', S', σ', g1, g2, g3, g4, hE.trans g5, by rw [← hnx]; exact g6, fun j h1 h2 => g7 j h1 (by rw [hnx]; exact h2)⟩
  · exact h.elim
theorem gv_yield {a : Act} {env : Env} {j : Nat} {c : Option Bool} (hr : RepE n a w S σ env) (h : gv n ops env j = gb c) : yielded ops a.tmps j = c := by
  unfold gv at h
  cases hd : (ops[j]?).bind (·.dst) with
  | none => rw [hd] at h; cases c <;> cases h
  | some d =>
    rw [hd] at h
    simp only at h
    cases hb : Nat.blt d n with
    | false => rw [hb] at h; cases c <;> cases h
    | true =>
      rw [hb, cond_true] at h
      have hlt : d < n := by rw [Nat.blt_eq] at hb; exact hb
      have := hr.at_ d
      rw [h] at this
      rw [Array.getD_eq_getD_getElem?, Array.getElem?_eq_getElem (by rw [hr.size]; exact hlt), Option.getD_some] at this
      unfold yielded
      rw [hd]
      simp only [Option.bind_some]
      rw [Array.getElem?_eq_getElem (by rw [hr.size]; exact hlt)]
      cases c with
      | some c => rw [this.p_inv.1]
      | none =>
        obtain ⟨vs, hv, _⟩ := this.tup_inv
        rw [hv]
theorem skip_rp : Rp w S σ (.tup []) undef := .tup [] #[] rfl (by simp)
/-- the operations of a region, one behind the other -/
theorem seqA_sound {nd : Bool} {B0 : Nat} {Q : Exit → Act → World → Prop} : ∀ (l : List Oper) (i : Nat) (env : Env) (k : Env → AH → Prop) (a : Act) (w : World) (S : Nat → Prop) (σ : Nat → Option Value) (H : AH), RepE n a w S σ env → Sat P w S σ H →
    (∀ o ∈ l, needC (cls P o.op) = true → nd = true) → (nd = true → ∀ j, i ≤ j → j < i + l.length → b + j < H.nx ∧ σ (b + j) = none) → B0 ≤ H.nx → (nd = true → B0 ≤ b) → (∀ a' w' S' σ' env' H', k env' H' → RepE n a' w' S' σ' env' → Sat P w' S' σ' H' → Ext w S σ H w' S' σ' H' → H.nx ≤ H'.nx → (∀ j, j < B0 → σ' j = σ j) → Q .normal a' w') →
    seqA P n b ops l i env k H → wpList P ops Q l a w
  | [], i, env, k, a, w, S, σ, H, hr, hs, _, _, _, _, hQ, h => hQ a w S σ env H h hr hs (.refl _ _ _ _) (Nat.le_refl _) (fun _ _ => rfl)
  | o :: rest, i, env, k, a, w, S, σ, H, hr, hs, hnd, hres, hB, hBb, hQ, h => by
    have hid : needC (cls P o.op) = true → b + i < H.nx ∧ σ (b + i) = none := fun h => hres (hnd o (by simp) h) i (Nat.le_refl _) (by simp)
    have next : ∀ (a' : Act) (w' : World), Aft P (needC (cls P o.op)) n (b + i) w S σ H o.dst env (fun x => seqA P n b ops rest (i + 1) (setE n env o.dst x) k) a' w' → wpList P ops Q rest a' w' := by
      rintro a' w' ⟨x, H', S', σ', h1, h2, h3, h4, h5, h6⟩
      refine seqA_sound rest (i + 1) _ k a' w' S' σ' H' h2 h3 (fun o ho => hnd o (by simp [ho])) (fun hn j hj1 hj2 => ?_) (by omega) hBb (fun a2 w2 S2 σ2 env2 H2 q1 q2 q3 q4 q5 q6 => hQ a2 w2 S2 σ2 env2 H2 q1 q2 q3 (h4.trans q4) (Nat.le_trans h5 q5) (fun j hj => (q6 j hj).trans (h6 j (fun hn => by have := hBb (hnd o (by simp) hn); omega) (by omega)))) h1
      obtain ⟨g1, g2⟩ := hres hn j (by omega) (by simp; omega)
      exact ⟨by omega, by rw [h6 _ (fun _ => by omega) g1]; exact g2⟩
    simp only [seqA] at h
    unfold wpList
    cases hg : o.guard with
    | none =>
      rw [hg] at h
      rw [if_pos (by simp [Region.wanted, hg])]
      exact .inl (Oper.wp_mono next (coreS_wp hr hs hid h))
    | some g =>
      obtain ⟨j, want⟩ := g
      rw [hg] at h
      obtain ⟨c, hc, h1, h2⟩ := h
      have hy := gv_yield hr hc
      by_cases hcw : c = some want
      · rw [if_pos (by simp [Region.wanted, hg, hy, hcw])]
        exact .inl (Oper.wp_mono next (coreS_wp hr hs hid (h1 hcw)))
      · rw [if_neg (by simp [Region.wanted, hg, hy, hcw])]
        exact next _ _ ⟨.tup [], H, S, σ, h2 hcw, hr.put _ skip_rp, hs, .refl _ _ _ _, Nat.le_refl _, fun _ _ _ => rfl⟩
end
end Go.Proofs.Ytpmnlikgldacaaa
