/- Whole bodies on abstract memory: branches, blocks, loops, cuts where ways meet; the contract of a function. Nothing of the program is named here. -/
import Derived.Test.YtcmnjoepadjioaaAwC
import Derived.Scope
namespace Go.Proofs.Ytcmnjoepadjioaa
open Go.RowKit Go.Maps

/-- a function's text, with marks: which variables live on where ways meet -/
inductive AC where
  | skip | ret
  | exit (id : Nat)
  | reg (k : Nat)
  | seq (a b : AC)
  | cut (ws : List Tmp) (ks : List (Nat × Nat)) (a b : AC)
  | cond (c : Operand) (a b : AC)
  | block (id : Nat) (a : AC)
  | loop (ws : List Tmp) (ks : List (Nat × Nat)) (a : AC)
  | scope (a : AC)
  | label (l : Nat)
  | gh (a : AC)
structure Reg where
  id : Nat
  ops : Array Oper
  draw : Bool
def regsOf : Code → List Reg
  | .region id ops d => [⟨id, ops, d⟩]
  | .seq a b => regsOf a ++ regsOf b
  | .cond _ a b => regsOf a ++ regsOf b
  | .block _ a => regsOf a
  | .loop a => regsOf a
  | .scope a => regsOf a
  | _ => []
def erase (rs : List Reg) : AC → Code
  | .skip => .skip
  | .ret => .ret
  | .exit id => .exit id
  | .reg k => match rs[k]? with
    | some r => .region r.id r.ops r.draw
    | none => .skip
  | .seq a b => .seq (erase rs a) (erase rs b)
  | .cut _ _ a b => .seq (erase rs a) (erase rs b)
  | .cond c a b => .cond c (erase rs a) (erase rs b)
  | .block id a => .block id (erase rs a)
  | .loop _ _ a => .loop (erase rs a)
  | .scope a => .scope (erase rs a)
  | .label l => .label l
  | .gh a => erase rs a
/-- a state is told anew -/
def GW (P : Program) (B : Nat) (vs : List AV) (H1 : AH) (vs' : List AV) (H2 : AH) : Prop := ∀ w S σ us, Sat P w S σ H1 → Rps w S σ vs us →
  ∃ S' σ', Sat P w S' σ' H2 ∧ Rps w S' σ' vs' us ∧ (∀ b, S b → S' b) ∧ (∀ b, S' b → S b ∨ Foot σ H1 b) ∧ (∀ b, Foot σ' H2 b → Foot σ H1 b) ∧ (∀ id, id < B → σ' id = σ id) ∧ B ≤ H2.nx
def Gh (P : Program) (B : Nat) (vs : List AV) (H : AH) (J : List AV → AH → Prop) : Prop := ∃ vs' H2, GW P B vs H vs' H2 ∧ J vs' H2
/-- what is held is told anew: some of it is handed over as data, or let go -/
def Gst (P : Program) (H H2 : AH) : Prop := H.nx ≤ H2.nx ∧ ∀ w S σ, Sat P w S σ H → ∃ S', Sat P w S' σ H2 ∧ (∀ b, S b → S' b) ∧ (∀ b, S' b → S b ∨ Foot σ H b) ∧ (∀ b, Foot σ H2 b → Foot σ H b)
def Gq (P : Program) (F : AH → Prop) (H : AH) : Prop := ∃ H2, Gst P H H2 ∧ F H2
def CutA (P : Program) (m : Nat) (A : (List AV → AH → Prop) → AH → Prop) (K : List AV → AH → Prop) (H : AH) : Prop :=
  ∃ J : List AV → AH → Prop, A (fun vs H' => Gh P H.nx vs H' J) H ∧ ∀ vs H', vs.length = m → H.nx ≤ H'.nx → J vs H' → K vs H'
def LoopA (P : Program) (m : Nat) (B : List AV → (List AV → AH → Prop) → AH → Prop) (vs0 : List AV) (H : AH) : Prop :=
  ∃ (I : List AV → AH → Prop) (μ : List AV → AH → Nat), Gh P H.nx vs0 H I ∧ ∀ vs H1, vs.length = m → H.nx ≤ H1.nx → I vs H1 → B vs (fun vs' H' => Gh P H.nx vs' H' (fun vs2 H2 => I vs2 H2 ∧ μ vs2 H2 < μ vs H1)) H1
def idxOf (t : Nat) : List Nat → Nat → Option Nat
  | [], _ => none
  | x :: r, i => bif Nat.beq t x then some i else idxOf t r (i + 1)
def inIv (ks : List (Nat × Nat)) (t : Nat) : Bool := ks.any fun p => Nat.ble p.1 t && Nat.blt t p.2
def ovr (env : Env) (ws : List Tmp) (ks : List (Nat × Nat)) (vs : List AV) : Env := fun t => match idxOf t ws 0 with
  | some i => vs.getD i .any
  | none => bif inIv ks t then .any else env t
def CdA (c : AV) (X Y : AH → Prop) (H : AH) : Prop := ∃ b, c = .p (.bool b) ∧ (b = true → X H) ∧ (b = false → Y H)
def needsR (P : Program) (ops : Array Oper) : Bool := ops.toList.any fun o => needC (cls P o.op)
def regB (P : Program) (n b : Nat) (r : Reg) (env : Env) (k : Env → AH → Prop) : AH → Prop :=
  bif r.draw then Vw (fun V => seqV P n b r.ops r.ops.toList 0 env k V) else seqA P n b r.ops r.ops.toList 0 env k
def regA (P : Program) (n : Nat) (r : Reg) (env : Env) (k : Env → AH → Prop) : AH → Prop :=
  bif needsR P r.ops then Rg r.ops.size (fun b => regB P n b r env k) else regB P n 0 r env k
def Knt := Exit → Env → AH → Prop
def thenK (k : Env → AH → Prop) (K : Knt) : Knt
  | .normal, env, H => k env H
  | e, env, H => K e env H
def blockK (id : Nat) (K : Knt) : Knt
  | .exit id', env, H => if id' = id then K .normal env H else K (.exit id') env H
  | e, env, H => K e env H
def scopeK (K : Knt) : Knt
  | .goto _, _, _ => False
  | e, env, H => K e env H
def wpA (P : Program) (n : Nat) (rs : List Reg) : AC → Env → Knt → AH → Prop
  | .skip, env, K => K .normal env
  | .ret, env, K => K .ret env
  | .exit id, env, K => K (.exit id) env
  | .label _, env, K => K .normal env
  | .reg k, env, K => match rs[k]? with
    | some r => regA P n r env (K .normal)
    | none => K .normal env
  | .seq a b, env, K => wpA P n rs a env (thenK (fun env' => wpA P n rs b env' K) K)
  | .cut ws ks a b, env, K => CutA P ws.length (fun k => wpA P n rs a env (thenK (fun env' => k (ws.map env')) K)) (fun vs => wpA P n rs b (ovr env ws ks vs) K)
  | .cond c a b, env, K => CdA (ev0 env c) (wpA P n rs a env K) (wpA P n rs b env K)
  | .block id a, env, K => wpA P n rs a env (blockK id K)
  | .loop ws ks a, env, K => LoopA P ws.length (fun vs k => wpA P n rs a (ovr env ws ks vs) (thenK (fun env' => k (ws.map env')) K)) (ws.map env)
  | .scope a, env, K => wpA P n rs a env (scopeK K)
  | .gh a, env, K => Gq P (wpA P n rs a env K)
def dstsOf (ops : List Oper) : List Tmp := ops.filterMap (·.dst)
/-- is all that is written told -/
def wrIn (rs : List Reg) (ok : Tmp → Bool) : AC → Bool
  | .reg k => match rs[k]? with
    | some r => r.ops.toList.all fun o => match o.dst with
      | some d => ok d
      | none => true
    | none => true
  | .seq a b | .cond _ a b => wrIn rs ok a && wrIn rs ok b
  | .cut ws ks a b => wrIn rs ok a && wrIn rs ok b && ws.all ok && ks.all (fun p => (List.range (p.2 - p.1)).all fun k => ok (p.1 + k))
  | .loop ws ks a => wrIn rs ok a && ws.all ok && ks.all (fun p => (List.range (p.2 - p.1)).all fun k => ok (p.1 + k))
  | .block _ a | .scope a | .gh a => wrIn rs ok a
  | _ => true
def inW (ws : List Tmp) (ks : List (Nat × Nat)) (t : Tmp) : Bool := (idxOf t ws 0).isSome || inIv ks t
def marksOk (P : Program) (rs : List Reg) (Ms : List (Array Nat)) : AC → Bool
  | .reg k => match rs[k]? with
    | some r => !r.draw || (maskOk r.ops (Ms.getD k #[]) && freeOk P r.ops (Ms.getD k #[]))
    | none => true
  | .seq a b | .cond _ a b => marksOk P rs Ms a && marksOk P rs Ms b
  | .cut ws ks a b => wrIn rs (inW ws ks) a && marksOk P rs Ms a && marksOk P rs Ms b
  | .loop ws ks a => wrIn rs (inW ws ks) a && marksOk P rs Ms a
  | .block _ a | .scope a | .gh a => marksOk P rs Ms a
  | _ => true
end Go.Proofs.Ytcmnjoepadjioaa
