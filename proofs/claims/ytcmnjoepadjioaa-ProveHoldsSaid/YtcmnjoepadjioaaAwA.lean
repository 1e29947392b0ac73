/- Calls, operations one behind the other, and in whatever order, on abstract memory. Nothing of the program is named here. -/
import Derived.Test.YtcmnjoepadjioaaAw9
import Derived.Orders
namespace Go.Proofs.Ytcmnjoepadjioaa
open Go.RowKit Go.Maps

/-- what a call does, told abstractly -/
def Tri (P : Program) (f : FuncId) (args : List AV) (H : AH) (Q : AV → AH → Prop) : Prop :=
  ∀ w S σ us, Sat P w S σ H → Rps w S σ args us → Calls P f us.toArray w fun e w' => ∃ v S' σ' r H', e = .returned v ∧ Q r H' ∧ Sat P w' S' σ' H' ∧ Rp w' S' σ' r v ∧ Ext w S σ H w' S' σ' H' ∧ H.nx ≤ H'.nx ∧ ∀ id, id < H.nx → σ' id = σ id
theorem Tri.mono {P : Program} {f : FuncId} {args : List AV} {H : AH} {Q Q' : AV → AH → Prop} (h : Tri P f args H Q) (hq : ∀ r H', Q r H' → Q' r H') : Tri P f args H Q' :=
  fun w S σ us hs hr => (h w S σ us hs hr).mono fun _ _ ⟨v, S', σ', r, H', h1, h2, h3⟩ => ⟨v, S', σ', r, H', h1, hq _ _ h2, h3⟩
abbrev Env := Nat → AV
def avOfV : Value → AV
  | .agg cs => bif cs.all (·.oneCell') then .agg (cs.toList.map .p) else .any
  | .tuple _ => .any
  | v => .p v
def ev0 (env : Env) : Operand → AV
  | .tmp t => env t
  | .const v => avOfV v
  | .global g => .p (.pointer (some ⟨g, 0, none⟩))
  | .func f => .fn (.func f) [] []
def setE (n : Nat) (env : Env) (dst : Option Tmp) (a : AV) : Env :=
  match dst with
  | some d => bif Nat.blt d n then (fun t => bif Nat.beq t d then a else env t) else env
  | none => env
inductive Cls where
  | mv (x : Operand)
  | pu (o : PO) (xs : List Operand)
  | rd (o : RO) (xs : List Operand)
  | al (o : AOp) (xs : List Operand)
  | wr (o : WO) (xs : List Operand)
  | ca (f : Operand) (xs : List Operand)
  | bad
def cls (P : Program) (o : Op) : Cls :=
  match clsP P o with
  | some (.mv, [x]) => .mv x
  | some (po, xs) => .pu po xs
  | none => match clsR P o with
    | some (ro, xs) => .rd ro xs
    | none => match clsA P o with
      | some (ao, xs) => .al ao xs
      | none => match clsW P o with
        | some (wo, xs) => .wr wo xs
        | none => match o with
          | .call c => match c.callee with
            | .value f => .ca f c.args.toList
            | _ => .bad
          | _ => .bad
def needC : Cls → Bool
  | .al .. => true
  | .wr .. => true
  | _ => false
def callable (P : Program) (f : FuncId) : Bool :=
  match P.funcs[f]? with
  | some fn => fn.name != "runtime.NumGoroutine" && fn.body.isSome
  | none => false
/-- the words of a walk -/
def Pu (P : Program) (o : PO) (args : List AV) (k : AV → AH → Prop) (H : AH) : Prop := ∃ a, PuR P o args a ∧ k a H
def Rd (P : Program) (V : AH) (o : RO) (args : List AV) (k : AV → AH → Prop) (H : AH) : Prop := ∃ a, RdR P V o args a ∧ k a H
def Al (id : Nat) (o : AOp) (args : List AV) (k : AV → AH → Prop) (H : AH) : Prop := ∃ a o', AlR id o args o' a ∧ k a (H.put id o')
def Wr (P : Program) (id : Nat) (o : WO) (args : List AV) (k : AV → AH → AH → Prop) (H : AH) : Prop := ∃ a H', WrR P id o args H a H' ∧ k a H' H'
def Ca (P : Program) (fv : AV) (args : List AV) (k : AV → AH → Prop) (H : AH) : Prop := ∃ f first cap Q, fv = .fn (.func f) first cap ∧ callable P f = true ∧ Tri P f (first ++ args ++ cap) H Q ∧ ∀ r H', Q r H' → k r H'
/-- the elements of a slice: one that was there when the region began, or one laid in it -/
inductive ElF (V H : AH) (src : Option Nat) (sz : Nat) : AV → List (List AV) → Prop
  | old (x : AV) (ys : List (List AV)) : ElA V sz x ys → ElF V H src sz x ys
  | new (i off n : Nat) (t : TypeId) (es : List (List AV)) : src = some i → H.get i = some (.row t sz es) → off + n ≤ es.length → ElF V H src sz (.osl i sz off n) ((es.drop off).take n)
/-- writes to what was laid in the region -/
inductive WrFR (V : AH) (tgt src : Option Nat) (id : Nat) : WO → List AV → AH → AV → AH → Prop
  | st (n i off : Nat) (t : TypeId) (cs : List AV) (a : AV) (H : AH) : tgt = some i → V.get i = none → H.get i = some (.box t cs) → a.part = true → a.cells.length = n → off + n ≤ cs.length → WrFR V tgt src id (.st n) [.ptr i off, a] H .any (H.put i (.box t (cs.take off ++ a.cells ++ cs.drop (off + n))))
  | app_row (t sz bytes r off n : Nat) (es ys : List (List AV)) (x : AV) (H : AH) : tgt = some r → V.get r = none → H.get r = some (.row t sz es) → off + n ≤ es.length → ElF V H src sz x ys → n + ys.length ≤ maxLen → (n + ys.length) * bytes ≤ 140737488355328 →
      WrFR V tgt src id (.app t sz bytes) [.osl r sz off n, x] H (.osl id sz 0 (n + ys.length)) ((H.kill r).put id (.row t sz ((es.drop off).take n ++ ys)))
  | app_nil (t sz bytes : Nat) (ys : List (List AV)) (x : AV) (H : AH) : tgt = none → ElF V H src sz x ys → ys.length ≤ maxLen → ys.length * bytes ≤ 140737488355328 →
      WrFR V tgt src id (.app t sz bytes) [.p (.slice none 0 0), x] H (.osl id sz 0 ys.length) (H.put id (.row t sz ys))
def WrF (V : AH) (tgt src : Option Nat) (id : Nat) (o : WO) (args : List AV) (k : AV → AH → Prop) (H : AH) : Prop := ∃ a H', WrFR V tgt src id o args H a H' ∧ k a H'
def laysIx (P : Program) : List Oper → Tmp → Nat → Option Nat
  | [], _, _ => none
  | o :: r, t, i => match o.dst with
    | some d => bif Nat.beq d t then (match cls P o.op with
      | .al .. => some i
      | .wr (.app ..) _ => some i
      | _ => none) else laysIx P r t (i + 1)
    | none => laysIx P r t (i + 1)
def defIx (P : Program) (ops : Array Oper) : Operand → Option Nat
  | .tmp t => laysIx P ops.toList t 0
  | _ => none
/-- does it write to what was laid in the region -/
def freshW (P : Program) (ops : Array Oper) (o : Op) : Option (Option Nat × Option Nat) :=
  match cls P o with
  | .wr (.st _) (x :: _) => match defIx P ops x with
    | some j => some (some j, none)
    | none => none
  | .wr (.app ..) [s, x] => match s with
    | .const (.slice none 0 0) => some (none, defIx P ops x)
    | s => match defIx P ops s with
      | some j => some (some j, defIx P ops x)
      | none => none
  | _ => none
def RdS (P : Program) (o : RO) (args : List AV) (k : AV → AH → Prop) (H : AH) : Prop := Rd P H o args k H
def WrS (P : Program) (id : Nat) (o : WO) (args : List AV) (k : AV → AH → Prop) (H : AH) : Prop := Wr P id o args (fun a _ => k a) H
def AH.le (V H : AH) : Prop := ∀ id o, V.get id = some o → H.get id = some o
def CaV (P : Program) (V : AH) (fv : AV) (args : List AV) (k : AV → AH → Prop) (H : AH) : Prop :=
  ∃ f first cap a, fv = .fn (.func f) first cap ∧ callable P f = true ∧ (∀ H2, V.le H2 → Tri P f (first ++ args ++ cap) H2 (fun r H' => H' = H2 ∧ r = a)) ∧ k a H
def Gd (c : AV) (want : Bool) (F : (AV → AH → Prop) → AH → Prop) (k : AV → AH → Prop) (H : AH) : Prop := ∃ b, c = .p (.bool b) ∧ (b = want → F k H) ∧ (b ≠ want → k .any H)
def GdV (c : AV) (want : Bool) (F : (AV → AH → AH → Prop) → AH → Prop) (V : AH) (k : AV → AH → AH → Prop) (H : AH) : Prop := ∃ b, c = .p (.bool b) ∧ (b = want → F k H) ∧ (b ≠ want → k .any V H)
def Rg (m : Nat) (F : Nat → AH → Prop) (H : AH) : Prop := F H.nx (H.up m)
def Vw (F : AH → AH → Prop) (H : AH) : Prop := F H H
def coreS (P : Program) (id : Nat) (o : Op) (env : Env) (k : AV → AH → Prop) (H : AH) : Prop :=
  match cls P o with
  | .mv x => k (ev0 env x) H
  | .pu po xs => Pu P po (xs.map (ev0 env)) k H
  | .rd ro xs => RdS P ro (xs.map (ev0 env)) k H
  | .al ao xs => Al id ao (xs.map (ev0 env)) k H
  | .wr wo xs => WrS P id wo (xs.map (ev0 env)) k H
  | .ca f xs => Ca P (ev0 env f) (xs.map (ev0 env)) k H
  | .bad => False
def plusB (b : Nat) : Option Nat → Option Nat
  | some j => some (b + j)
  | none => none
def coreV (P : Program) (b : Nat) (fw : Option (Option Nat × Option Nat)) (V : AH) (id : Nat) (o : Op) (env : Env) (k : AV → AH → AH → Prop) (H : AH) : Prop :=
  match cls P o with
  | .mv x => k (ev0 env x) V H
  | .pu po xs => Pu P po (xs.map (ev0 env)) (fun a => k a V) H
  | .rd ro xs => Rd P V ro (xs.map (ev0 env)) (fun a => k a V) H
  | .al ao xs => Al id ao (xs.map (ev0 env)) (fun a => k a V) H
  | .wr wo xs => match fw with
    | some (tg, sr) => WrF V (plusB b tg) (plusB b sr) id wo (xs.map (ev0 env)) (fun a => k a V) H
    | none => Wr P id wo (xs.map (ev0 env)) k H
  | .ca f xs => CaV P V (ev0 env f) (xs.map (ev0 env)) (fun a => k a V) H
  | .bad => False
def gv (n : Nat) (ops : Array Oper) (env : Env) (j : Nat) : AV :=
  match (ops[j]?).bind (·.dst) with
  | some d => bif Nat.blt d n then env d else .any
  | none => .any
def seqA (P : Program) (n b : Nat) (ops : Array Oper) : List Oper → Nat → Env → (Env → AH → Prop) → AH → Prop
  | [], _, env, k => k env
  | o :: rest, i, env, k => match o.guard with
    | none => coreS P (b + i) o.op env (fun a => seqA P n b ops rest (i + 1) (setE n env o.dst a) k)
    | some (j, want) => Gd (gv n ops env j) want (coreS P (b + i) o.op env) (fun a => seqA P n b ops rest (i + 1) (setE n env o.dst a) k)
def stepV (P : Program) (n b : Nat) (ops : Array Oper) (o : Oper) (i : Nat) (env : Env) (V : AH) (k : Env → AH → AH → Prop) (H : AH) : Prop :=
  match o.guard with
  | none => coreV P b (freshW P ops o.op) V (b + i) o.op env (fun a => k (setE n env o.dst a)) H
  | some (j, want) => GdV (gv n ops env j) want (coreV P b (freshW P ops o.op) V (b + i) o.op env) V (fun a => k (setE n env o.dst a)) H
def seqV (P : Program) (n b : Nat) (ops : Array Oper) : List Oper → Nat → Env → (Env → AH → Prop) → AH → AH → Prop
  | [], _, env, k, _, H => k env H
  | o :: rest, i, env, k, V, H => stepV P n b ops o i env V (fun env' => seqV P n b ops rest (i + 1) env' k) H

section
variable {P : Program} {w : World} {S : Nat → Prop} {σ : Nat → Option Value} {H : AH} {n b : Nat} {ops : Array Oper}
/-- the frame stands for what is told of it -/
structure RepE (n : Nat) (a : Act) (w : World) (S : Nat → Prop) (σ : Nat → Option Value) (env : Env) : Prop where
  size : a.tmps.size = n
  defers : a.defers = []
  at_ : ∀ t, Rp w S σ (env t) (a.tmps.getD t undef)
theorem avOfV_rp (v : Value) : Rp w S σ (avOfV v) v := by
  cases v <;> try exact .data _ _ (.p _ rfl)
  · rename_i cs
    simp only [avOfV]
    cases hall : cs.all (·.oneCell') with
    | false => exact .any _
    | true =>
      rw [cond_true]
      rw [Array.all_eq_true'] at hall
      refine .agg _ _ (by simp) (fun k a u ha hu => ?_) hall
      rw [List.getElem?_map, Array.getElem?_toList, hu] at ha
      simp at ha; subst ha
      exact .data _ _ (.p _ (hall u (Array.mem_of_getElem? hu)))
  · exact .any _
theorem RepE.ev {a : Act} {env : Env} (h : RepE n a w S σ env) (x : Operand) : Rp w S σ (ev0 env x) (a.eval x) := by
  cases x with
  | tmp t => exact h.at_ t
  | const v => exact avOfV_rp v
  | global g => exact .data _ _ (.p _ rfl)
  | func f => exact .fn _ _ _ _ _ rfl rfl (by simp) (by simp)
theorem RepE.evs {a : Act} {env : Env} (h : RepE n a w S σ env) (xs : List Operand) : Rps w S σ (xs.map (ev0 env)) (xs.map a.eval) := by
  induction xs with
  | nil => exact .nil
  | cons x xs ih => exact .cons (h.ev x) ih
theorem RepE.put {a : Act} {env : Env} (h : RepE n a w S σ env) (dst : Option Tmp) {x : AV} {v : Value} (hx : Rp w S σ x v) : RepE n (a.put dst v) w S σ (setE n env dst x) := by
  cases dst with
  | none => exact h
  | some d =>
    refine ⟨by simp [Act.put, h.size], h.defers, fun t => ?_⟩
    simp only [setE, Act.put]
    by_cases hd : d < n
    · rw [show Nat.blt d n = true from by simp [Nat.blt_eq, hd]]
      simp only [cond_true]
      by_cases ht : t = d
      · subst ht
        rw [show Nat.beq t t = true from Nat.beq_refl t]
        simp only [cond_true, Array.getD_eq_getD_getElem?]
        rw [Array.getElem?_setIfInBounds_self_of_lt (by rw [h.size]; exact hd)]
        exact hx
      · rw [show Nat.beq t d = false from by rw [Bool.eq_false_iff]; exact fun e => ht (Nat.eq_of_beq_eq_true e)]
        simp only [cond_false, Array.getD_eq_getD_getElem?]
        rw [Array.getElem?_setIfInBounds_ne (fun e => ht e.symm), ← Array.getD_eq_getD_getElem?]
        exact h.at_ t
    · rw [show Nat.blt d n = false from by rw [Bool.eq_false_iff]; simp [Nat.blt_eq, hd]]
      simp only [cond_false, Array.getD_eq_getD_getElem?]
      rw [show a.tmps.setIfInBounds d v = a.tmps from Array.setIfInBounds_eq_of_size_le (by rw [h.size]; exact Nat.le_of_not_lt hd), ← Array.getD_eq_getD_getElem?]
      exact h.at_ t
theorem RepE.ext {w' : World} {S' : Nat → Prop} {σ' : Nat → Option Value} {H' : AH} {a : Act} {env : Env} (h : RepE n a w S σ env) (hs : Sat P w S σ H) (e : Ext w S σ H w' S' σ' H') : RepE n a w' S' σ' env :=
  ⟨h.size, h.defers, fun t => e.rp hs (h.at_ t)⟩
theorem cls_pu {o : Op} {po : PO} {xs : List Operand} (h : cls P o = .pu po xs) : clsP P o = some (po, xs) := by
  unfold cls at h
  split at h <;> try (cases h; done)
  · rename_i hc; injection h with h1 h2; subst h1; subst h2; exact hc
  · split at h <;> try (cases h; done)
    split at h <;> try (cases h; done)
    split at h <;> try (cases h; done)
    split at h <;> try (cases h; done)
    split at h <;> cases h
theorem cls_mv {o : Op} {x : Operand} (h : cls P o = .mv x) : clsP P o = some (.mv, [x]) := by
  unfold cls at h
  split at h <;> try (cases h; done)
  · rename_i hc; injection h with h1; subst h1; exact hc
  · split at h <;> try (cases h; done)
    split at h <;> try (cases h; done)
    split at h <;> try (cases h; done)
    split at h <;> try (cases h; done)
    split at h <;> cases h
theorem cls_rd {o : Op} {ro : RO} {xs : List Operand} (h : cls P o = .rd ro xs) : clsR P o = some (ro, xs) := by
  unfold cls at h
  split at h <;> try (cases h; done)
  · split at h <;> try (cases h; done)
    · rename_i hc; injection h with h1 h2; subst h1; subst h2; exact hc
    · split at h <;> try (cases h; done)
      split at h <;> try (cases h; done)
      split at h <;> try (cases h; done)
      split at h <;> cases h
theorem cls_al {o : Op} {ao : AOp} {xs : List Operand} (h : cls P o = .al ao xs) : clsA P o = some (ao, xs) := by
  unfold cls at h
  split at h <;> try (cases h; done)
  · split at h <;> try (cases h; done)
    split at h <;> try (cases h; done)
    · rename_i hc; injection h with h1 h2; subst h1; subst h2; exact hc
    · split at h <;> try (cases h; done)
      split at h <;> try (cases h; done)
      split at h <;> cases h
theorem cls_wr {o : Op} {wo : WO} {xs : List Operand} (h : cls P o = .wr wo xs) : clsW P o = some (wo, xs) := by
  unfold cls at h
  split at h <;> try (cases h; done)
  · split at h <;> try (cases h; done)
    split at h <;> try (cases h; done)
    split at h <;> try (cases h; done)
    · rename_i hc; injection h with h1 h2; subst h1; subst h2; exact hc
    · split at h <;> try (cases h; done)
      split at h <;> cases h
theorem cls_ca {o : Op} {f : Operand} {xs : List Operand} (h : cls P o = .ca f xs) : ∃ c, o = .call c ∧ c.callee = .value f ∧ c.args.toList = xs := by
  unfold cls at h
  split at h <;> try (cases h; done)
  · split at h <;> try (cases h; done)
    split at h <;> try (cases h; done)
    split at h <;> try (cases h; done)
    split at h <;> try (cases h; done)
    split at h <;> try (cases h; done)
    rename_i c _ _ hc
    injection h with h1 h2
    subst h1; subst h2
    exact ⟨_, rfl, hc, rfl⟩
/-- a call that is made -/
theorem call_run {o : Oper} {c : Call} {fo : Operand} {ev : Operand → Value} {f : FuncId} {first cap : List AV} {args : List AV} (ho : o.op = .call c) (hc : c.callee = .value fo) (hf : Rp w S σ (.fn (.func f) first cap) (ev fo)) (hcal : callable P f = true) (hr : Rps w S σ args (c.args.toList.map ev)) :
    ∃ us : List Value, (execOp ev o).run P w = .ok (.enter f us.toArray) w ∧ Rps w S σ (first ++ args ++ cap) us := by
  obtain ⟨fs, cs, hfe, h1, h2⟩ := hf.fn_inv
  refine ⟨fs.toList ++ c.args.toList.map ev ++ cs.toList, ?_, (h1.append hr).append h2⟩
  unfold callable at hcal
  cases hfn : P.funcs[f]? with
  | none => rw [hfn] at hcal; cases hcal
  | some fn =>
    rw [hfn] at hcal
    simp only [Bool.and_eq_true, bne_iff_ne, ne_eq] at hcal
    obtain ⟨n1, n2⟩ := hcal
    have n3 : ¬ fn.body = none := by intro e; rw [e] at n2; cases n2
    have he : (fs ++ c.args.map ev) ++ cs = (fs.toList ++ c.args.toList.map ev ++ cs.toList).toArray := by
      apply Array.ext'; simp
    rw [← he]
    simp [execOp, ho, resolve, hc, hfe, Deferred.ofValue, invoke, callFunc, hfn, n1, n3]
end
end Go.Proofs.Ytcmnjoepadjioaa
