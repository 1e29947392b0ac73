/- Texts that the proof rests on, part 8: what each holds stands at its head. -/
import Derived.Test.YtgkkilbeingleaaMt7

/- A region that draws its order: one walk in the text's order serves every order. Nothing of the program is named here. -/
namespace Go.Proofs.Ytgkkilbeingleaa
open Go.RowKit Go.Maps

def clsXs : Cls → List Operand
  | .mv x => [x]
  | .pu _ xs | .rd _ xs | .al _ xs | .wr _ xs => xs
  | .ca f xs => f :: xs
  | .nd _ xs => xs
  | .bad => []
def catOf (P : Program) (ops : Array Oper) (o : Op) : Nat :=
  match cls P o with
  | .mv _ | .pu .. => 0
  | .rd .. | .al .. => 1
  | .ca .. => match freshW P ops o with
    | some (some _, none) => 3
    | some (some _, some _) => 7
    | _ => 1
  | .wr .. => bif (freshW P ops o).isSome then 1 else (match srcsOf P ops o with
    | [] => 2
    | _ => 5)
  | .nd .. => 2
  | .bad => 2
/-- which of the things that the region lays are touched -/
def touch (P : Program) (ops : Array Oper) (o : Op) (i : Nat) : List Nat :=
  match cls P o with
  | .al .. => [i]
  | .wr .. => match freshW P ops o with
    | some (tg, sr) => i :: (tg.toList ++ sr.toList)
    | none => match srcsOf P ops o with
      | _ :: r => i :: r
      | [] => []
  | .rd .. => srcsOf P ops o
  | .ca .. => i :: srcsOf P ops o
  | _ => []
def isAl (P : Program) (o : Op) : Bool := match cls P o with
  | .al .. => true
  | _ => false
def disj (a b : List Nat) : Bool := a.all fun x => !b.contains x
def tmpsIn : List Operand → List Tmp
  | [] => []
  | .tmp t :: r => t :: tmpsIn r
  | _ :: r => tmpsIn r
def looks (P : Program) (ops : Array Oper) (o : Oper) : List Tmp :=
  tmpsIn (clsXs (cls P o.op)) ++ (match o.guard with
    | some (g, _) => ((ops[g]?).bind (·.dst)).toList
    | none => [])
def indep (P : Program) (ops : Array Oper) (x y : Oper) (i j : Nat) : Bool :=
  (match x.dst with
   | some d => !(looks P ops y).contains d && y.dst != some d
   | none => true) &&
  (match y.dst with
   | some d => !(looks P ops x).contains d
   | none => true) && (!(catOf P ops x.op == 7) && (!(catOf P ops y.op == 7) || catOf P ops x.op == 0 || (keptC P ops y.op && quietR P ops x.op))) &&
  ((keptC P ops y.op && quietR P ops x.op) || catOf P ops x.op == 0 || catOf P ops y.op == 0 || (catOf P ops x.op == 1 && catOf P ops y.op == 1 && disj (touch P ops x.op i) (touch P ops y.op j)) ||
    (catOf P ops x.op == 3 && isAl P y.op && disj (touch P ops x.op i) (touch P ops y.op j)) || (isAl P x.op && catOf P ops y.op == 3 && disj (touch P ops x.op i) (touch P ops y.op j)) ||
    (catOf P ops x.op == 5 && catOf P ops y.op == 1 && disj (touch P ops x.op i) (touch P ops y.op j)) || (catOf P ops x.op == 1 && catOf P ops y.op == 5 && disj (touch P ops x.op i) (touch P ops y.op j)))
/-- what an operation gives -/
def CS (P : Program) (b : Nat) (fw : Option (Option Nat × Option Nat) × List Nat) (V : AH) (id : Nat) (o : Op) (env : Env) (H : AH) (x : AV) (V' H' : AH) : Prop :=
  match cls P o with
  | .mv y => x = ev0 env y ∧ V' = V ∧ H' = H
  | .pu po xs => PuR P po (xs.map (ev0 env)) x ∧ V' = V ∧ H' = H
  | .rd ro xs => RdR P (mixV V H (fw.2.map (b + ·))) ro (xs.map (ev0 env)) x ∧ V' = V ∧ H' = H
  | .al ao xs => ∃ o', AlR id ao (xs.map (ev0 env)) o' x ∧ V' = V ∧ H' = H.put id o'
  | .wr wo xs => match fw.1 with
    | some (tg, sr) => WrFR V (plusB b tg) (plusB b sr) id wo (xs.map (ev0 env)) H x H' ∧ V' = V
    | none => match fw.2 with
      | [] => WrR P id wo (xs.map (ev0 env)) H x H' ∧ V' = H'
      | _ :: r => WrOR V b (r.head?.map (b + ·)) id wo (xs.map (ev0 env)) H x H' ∧ V' = V
  | .ca f xs => match fw.1 with
   | some (some _, some _) => False
   | some (some _, none) => ∃ g first cap fz e0, ev0 env f = .fn (.func g) first cap ∧ callable P g = true ∧ (∀ i ∈ fz, i ∈ fw.2.map (b + ·) ∧ V.get i = none ∧ DtO (H.get i)) ∧ (∀ p ∈ e0, p.1 < b) ∧
      (∀ H2, (∀ id, id < b ∨ id ∈ fw.2.map (b + ·) → H2.get id = (frzL H fz).get id) → Tri P g (first ++ xs.map (ev0 env) ++ cap) H2 (fun r H' => H' = apE e0 H2 ∧ r = x)) ∧ V' = apE e0 V ∧ H' = apE e0 (frzL H fz)
   | some (none, _) => (∃ g first cap t sz es, ev0 env f = .fn (.func g) first cap ∧ callable P g = true ∧ (∀ e ∈ es, e.length = sz) ∧ (∀ H2, (mixV V H (fw.2.map (b + ·))).le H2 → Tri P g (first ++ xs.map (ev0 env) ++ cap) H2 (fun r H' => RowR t sz H2 H' r es ∧ H2.le H')) ∧ x = .osl id sz 0 es.length ∧ H' = H.put id (.row t sz es)) ∧ V' = V
   | none => (∃ g first cap fz, ev0 env f = .fn (.func g) first cap ∧ callable P g = true ∧ (∀ i ∈ fz, i ∈ fw.2.map (b + ·) ∧ V.get i = none ∧ DtO (H.get i)) ∧ (∀ H2, (mixV V (frzL H fz) (fw.2.map (b + ·))).le H2 → Tri P g (first ++ xs.map (ev0 env) ++ cap) H2 (fun r H' => H' = H2 ∧ r = x)) ∧ H' = frzL H fz) ∧ V' = V
  | .nd .. => False
  | .bad => False
def GS (P : Program) (n b : Nat) (ops : Array Oper) (o : Oper) (i : Nat) (env : Env) (V H : AH) (x : AV) (V' H' : AH) : Prop :=
  match o.guard with
  | none => CS P b (freshW P ops o.op, srcsOf P ops o.op) V (b + i) o.op env H x V' H'
  | some (j, want) => ∃ c, gv n ops env j = gb c ∧ (c = some want → CS P b (freshW P ops o.op, srcsOf P ops o.op) V (b + i) o.op env H x V' H') ∧ (c ≠ some want → x = .tup [] ∧ V' = V ∧ H' = H)

section
variable {P : Program} {w : World} {S : Nat → Prop} {σ : Nat → Option Value} {H V : AH} {n b : Nat} {ops : Array Oper}
def noLast (fw : Option (Option Nat × Option Nat)) (c : Cls) : Prop := match c, fw with
  | .ca .., some (some _, some _) => False
  | _, _ => True
theorem coreV_iff {fw : Option (Option Nat × Option Nat) × List Nat} {id : Nat} {o : Op} {env : Env} {k : AV → AH → AH → Prop} (hl : noLast fw.1 (cls P o)) : coreV P b fw V id o env k H ↔ ∃ x V' H', CS P b fw V id o env H x V' H' ∧ k x V' H' := by
  unfold coreV CS
  revert hl
  cases cls P o with
  | mv y => intro _; constructor; · exact fun h => ⟨_, V, H, ⟨rfl, rfl, rfl⟩, h⟩
            · rintro ⟨x, V', H', ⟨rfl, rfl, rfl⟩, h⟩; exact h
  | pu po xs => intro _; constructor; · rintro ⟨a, h1, h2⟩; exact ⟨a, V, H, ⟨h1, rfl, rfl⟩, h2⟩
                · rintro ⟨x, V', H', ⟨h, rfl, rfl⟩, h2⟩; exact ⟨x, h, h2⟩
  | rd ro xs =>
    intro _
    obtain ⟨fw, sl⟩ := fw
    cases sl with
    | nil => constructor; · rintro ⟨a, h1, h2⟩; exact ⟨a, V, H, ⟨h1, rfl, rfl⟩, h2⟩
             · rintro ⟨x, V', H', ⟨h, rfl, rfl⟩, h2⟩; exact ⟨x, h, h2⟩
    | cons j r => constructor; · rintro ⟨a, h1, h2⟩; exact ⟨a, V, H, ⟨h1, rfl, rfl⟩, h2⟩
                  · rintro ⟨x, V', H', ⟨h, rfl, rfl⟩, h2⟩; exact ⟨x, h, h2⟩
  | al ao xs => intro _; constructor; · rintro ⟨a, o', h1, h2⟩; exact ⟨a, V, _, ⟨o', h1, rfl, rfl⟩, h2⟩
                · rintro ⟨x, V', H', ⟨o', h, rfl, rfl⟩, h2⟩; exact ⟨x, o', h, h2⟩
  | wr wo xs =>
    intro _
    obtain ⟨fw, sl⟩ := fw
    cases fw with
    | none =>
      cases sl with
      | nil => constructor; · rintro ⟨a, H', h1, h2⟩; exact ⟨a, H', H', ⟨h1, rfl⟩, h2⟩
               · rintro ⟨x, V', H', ⟨h, rfl⟩, h2⟩; exact ⟨x, _, h, h2⟩
      | cons q1 q2 => constructor; · rintro ⟨a, H', h1, h2⟩; exact ⟨a, V, H', ⟨h1, rfl⟩, h2⟩
                      · rintro ⟨x, V', H', ⟨h, rfl⟩, h2⟩; exact ⟨x, _, h, h2⟩
    | some f => obtain ⟨tg, sr⟩ := f; constructor; · rintro ⟨a, H', h1, h2⟩; exact ⟨a, V, H', ⟨h1, rfl⟩, h2⟩
                · rintro ⟨x, V', H', ⟨h, rfl⟩, h2⟩; exact ⟨x, _, h, h2⟩
  | ca f xs =>
    intro hl
    obtain ⟨fw, sl⟩ := fw
    cases fw with
    | some q =>
     obtain ⟨q1, q2⟩ := q
     cases q1 with
     | some q1 =>
      cases q2 with
      | some q2 => exact hl.elim
      | none =>
      constructor
      · rintro ⟨g, first, cap, x, fz, e0, h1, h2, h3, h4, h5, h6⟩; exact ⟨x, _, _, ⟨g, first, cap, fz, e0, h1, h2, h3, h4, h5, rfl, rfl⟩, h6⟩
      · rintro ⟨x, V', H', ⟨g, first, cap, fz, e0, h1, h2, h3, h4, h5, rfl, rfl⟩, h6⟩; exact ⟨g, first, cap, x, fz, e0, h1, h2, h3, h4, h5, h6⟩
     | none =>
      constructor
      · rintro ⟨g, first, cap, t, sz, es, h1, h2, h0, h3, h4⟩; exact ⟨_, V, _, ⟨⟨g, first, cap, t, sz, es, h1, h2, h0, h3, rfl, rfl⟩, rfl⟩, h4⟩
      · rintro ⟨x, V', H', ⟨⟨g, first, cap, t, sz, es, h1, h2, h0, h3, rfl, rfl⟩, rfl⟩, h4⟩; exact ⟨g, first, cap, t, sz, es, h1, h2, h0, h3, h4⟩
    | none =>
    cases sl with
    | nil => constructor; · rintro ⟨g, first, cap, a, h1, h2, h3, h4⟩; exact ⟨a, V, H, ⟨⟨g, first, cap, [], h1, h2, by simp, h3, rfl⟩, rfl⟩, h4⟩
             · rintro ⟨x, V', H', ⟨⟨g, first, cap, fz, h1, h2, h0, h3, rfl⟩, rfl⟩, h4⟩
               have hz : fz = [] := List.eq_nil_iff_forall_not_mem.2 fun i hi => by have := (h0 i hi).1; cases this
               subst hz
               exact ⟨g, first, cap, x, h1, h2, h3, h4⟩
    | cons j r => constructor; · rintro ⟨g, first, cap, a, fz, h1, h2, h0, h3, h4⟩; exact ⟨a, V, _, ⟨⟨g, first, cap, fz, h1, h2, h0, h3, rfl⟩, rfl⟩, h4⟩
                  · rintro ⟨x, V', H', ⟨⟨g, first, cap, fz, h1, h2, h0, h3, rfl⟩, rfl⟩, h4⟩; exact ⟨g, first, cap, x, fz, h1, h2, h0, h3, h4⟩
  | nd no xs => exact fun _ => ⟨fun h => h.elim, fun ⟨_, _, _, h, _⟩ => h.elim⟩
  | bad => intro _; constructor; · exact fun h => h.elim
           · rintro ⟨_, _, _, h, _⟩; exact h.elim
theorem stepV_iff {o : Oper} {i : Nat} {env : Env} {k : Env → AH → AH → Prop} (hl : noLast (freshW P ops o.op) (cls P o.op)) : stepV P n b ops o i env V k H ↔ ∃ x V' H', GS P n b ops o i env V H x V' H' ∧ k (setE n env o.dst x) V' H' := by
  unfold stepV GS
  cases o.guard with
  | none => exact coreV_iff hl
  | some g =>
    obtain ⟨j, want⟩ := g
    constructor
    · rintro ⟨c, hc, h1, h2⟩
      by_cases hcw : c = some want
      · obtain ⟨x, V', H', h3, h4⟩ := (coreV_iff hl).1 (h1 hcw)
        exact ⟨x, V', H', ⟨c, hc, fun _ => h3, fun h => absurd hcw h⟩, h4⟩
      · exact ⟨.tup [], V, H, ⟨c, hc, fun h => absurd h hcw, fun _ => ⟨rfl, rfl, rfl⟩⟩, h2 hcw⟩
    · rintro ⟨x, V', H', ⟨c, hc, h1, h2⟩, h4⟩
      refine ⟨c, hc, fun h => (coreV_iff hl).2 ⟨x, V', H', h1 h, h4⟩, fun h => ?_⟩
      obtain ⟨rfl, rfl, rfl⟩ := h2 h
      exact h4
theorem lastOr (fw : Option (Option Nat × Option Nat)) (c : Cls) : noLast fw c ∨ ∃ f xs a d, c = .ca f xs ∧ fw = some (some a, some d) := by
  unfold noLast
  split
  · exact .inr ⟨_, _, _, _, rfl, rfl⟩
  · exact .inl trivial
theorem stepV_mono2 {o : Oper} {i : Nat} {env : Env} {k k' : Env → AH → AH → Prop} (h : stepV P n b ops o i env V k H) (hk : ∀ x V H, k (setE n env o.dst x) V H → k' (setE n env o.dst x) V H) : stepV P n b ops o i env V k' H := by
  rcases lastOr (freshW P ops o.op) (cls P o.op) with hl | ⟨f, xs, a, d, hc, hf⟩
  · rw [stepV_iff hl] at h ⊢
    obtain ⟨x, V', H', h1, h2⟩ := h
    exact ⟨x, V', H', h1, hk _ _ _ h2⟩
  · have core : ∀ {k1 k2 : AV → AH → AH → Prop}, (∀ x V H, k1 x V H → k2 x V H) → coreV P b (freshW P ops o.op, srcsOf P ops o.op) V (b + i) o.op env k1 H → coreV P b (freshW P ops o.op, srcsOf P ops o.op) V (b + i) o.op env k2 H := by
      intro k1 k2 hkk h
      unfold coreV at h ⊢
      rw [hc, hf] at h ⊢
      cases a with
      | zero =>
        obtain ⟨g, first, cap, Q, q1, q2, q3, q4⟩ := h
        exact ⟨g, first, cap, Q, q1, q2, q3, fun r H' s q => hkk _ _ _ (q4 r H' s q)⟩
      | succ a =>
        obtain ⟨g, first, cap, Q, q1, q2, q3, q4⟩ := h
        exact ⟨g, first, cap, Q, q1, q2, q3, fun r H' s q => ⟨(q4 r H' s q).1, hkk _ _ _ (q4 r H' s q).2⟩⟩
    unfold stepV at h ⊢
    cases hg : o.guard with
    | none => rw [hg] at h; exact core (fun x V H h => hk x V H h) h
    | some g =>
      obtain ⟨j, want⟩ := g
      rw [hg] at h
      obtain ⟨c, h1, h2, h3⟩ := h
      exact ⟨c, h1, fun h => core (fun x V H h => hk x V H h) (h2 h), fun h => hk _ _ _ (h3 h)⟩
theorem stepV_mono {o : Oper} {i : Nat} {env : Env} {k k' : Env → AH → AH → Prop} (h : stepV P n b ops o i env V k H) (hk : ∀ e V H, k e V H → k' e V H) : stepV P n b ops o i env V k' H := stepV_mono2 h fun x V H h => hk _ V H h
theorem noLast_of {o : Op} (h : catOf P ops o ≠ 7) : noLast (freshW P ops o) (cls P o) := by
  rcases lastOr (freshW P ops o) (cls P o) with hl | ⟨f, xs, a, d, hc, hf⟩
  · exact hl
  · exfalso; apply h; unfold catOf; rw [hc]; dsimp only; rw [hf]
theorem mem_tmps {t : Tmp} : ∀ {xs : List Operand}, Operand.tmp t ∈ xs → t ∈ tmpsIn xs
  | [], h => by cases h
  | x :: xs, h => by
    rcases List.mem_cons.1 h with h | h
    · subst h; simp [tmpsIn]
    · have := mem_tmps h
      cases x <;> simp [tmpsIn, this]
theorem ev_set {env : Env} {dst : Option Tmp} {a : AV} {x : Operand} (h : ∀ d, dst = some d → x ≠ .tmp d) : ev0 (setE n env dst a) x = ev0 env x := by
  cases x with
  | tmp t =>
    cases dst with
    | none => rfl
    | some d =>
      have hne : t ≠ d := fun e => h d rfl (by rw [e])
      simp only [ev0, setE]
      cases Nat.blt d n
      · rfl
      · simp only [cond_true]
        rw [show Nat.beq t d = false from by rw [Bool.eq_false_iff]; exact fun e => hne (Nat.eq_of_beq_eq_true e)]
        rfl
  | const v => rfl
  | global g => rfl
  | func f => rfl
theorem evs_set {env : Env} {dst : Option Tmp} {a : AV} {xs : List Operand} (h : ∀ d, dst = some d → d ∉ tmpsIn xs) : xs.map (ev0 (setE n env dst a)) = xs.map (ev0 env) :=
  List.map_congr_left fun x hx => ev_set fun d hd e => h d hd (mem_tmps (e ▸ hx))
theorem CS_congr {fw : Option (Option Nat × Option Nat) × List Nat} {id : Nat} {o : Op} {env : Env} {dst : Option Tmp} {a : AV} {x : AV} {V' H' : AH} (h : ∀ d, dst = some d → d ∉ tmpsIn (clsXs (cls P o))) : CS P b fw V id o (setE n env dst a) H x V' H' ↔ CS P b fw V id o env H x V' H' := by
  unfold CS
  cases hc : cls P o with
  | mv y => rw [hc] at h; have := evs_set (n := n) (env := env) (a := a) h; simp only [clsXs, List.map_cons, List.map_nil, List.cons.injEq, and_true] at this; dsimp only; rw [this]
  | pu po xs => rw [hc] at h; dsimp only; rw [evs_set (xs := xs) h]
  | rd ro xs => rw [hc] at h; dsimp only; rw [evs_set (xs := xs) h]
  | al ao xs => rw [hc] at h; dsimp only; rw [evs_set (xs := xs) h]
  | wr wo xs => rw [hc] at h; dsimp only; rw [evs_set (xs := xs) h]
  | ca f xs => rw [hc] at h; have := evs_set (n := n) (env := env) (a := a) h; simp only [clsXs, List.map_cons, List.cons.injEq] at this; dsimp only; rw [this.1, this.2]
  | nd no xs => exact Iff.rfl
  | bad => exact Iff.rfl
theorem gv_set {env : Env} {dst : Option Tmp} {a : AV} {j : Nat} (h : ∀ d, dst = some d → d ∉ ((ops[j]?).bind (·.dst)).toList) : gv n ops (setE n env dst a) j = gv n ops env j := by
  unfold gv
  cases hd : (ops[j]?).bind (·.dst) with
  | none => rfl
  | some e =>
    rw [hd] at h
    simp only
    have := ev_set (n := n) (env := env) (a := a) (dst := dst) (x := .tmp e) (fun d hd he => h d hd (by injection he with he; subst he; simp))
    simp only [ev0] at this
    rw [this]
theorem GS_congr {o : Oper} {i : Nat} {env : Env} {dst : Option Tmp} {a : AV} {x : AV} {V' H' : AH} (h : ∀ d, dst = some d → d ∉ looks P ops o) : GS P n b ops o i (setE n env dst a) V H x V' H' ↔ GS P n b ops o i env V H x V' H' := by
  have h1 : ∀ d, dst = some d → d ∉ tmpsIn (clsXs (cls P o.op)) := fun d hd hm => h d hd (List.mem_append_left _ hm)
  unfold GS
  cases hg : o.guard with
  | none => exact CS_congr h1
  | some g =>
    obtain ⟨j, want⟩ := g
    have h2 : gv n ops (setE n env dst a) j = gv n ops env j := gv_set fun d hd hm => h d hd (List.mem_append_right _ (by rw [hg]; exact hm))
    simp only [h2, CS_congr h1]
theorem CS_zero {fw : Option (Option Nat × Option Nat) × List Nat} {id : Nat} {o : Op} {env : Env} {x : AV} {V' H' : AH} (hc : catOf P ops o = 0) (h : CS P b fw V id o env H x V' H') : V' = V ∧ H' = H ∧ ∀ V2 H2, CS P b fw V2 id o env H2 x V2 H2 := by
  unfold CS at h ⊢
  unfold catOf at hc
  cases hcl : cls P o with
  | mv y => rw [hcl] at h; exact ⟨h.2.1, h.2.2, fun _ _ => ⟨h.1, rfl, rfl⟩⟩
  | pu po xs => rw [hcl] at h; exact ⟨h.2.1, h.2.2, fun _ _ => ⟨h.1, rfl, rfl⟩⟩
  | rd ro xs => rw [hcl] at hc; cases hc
  | al ao xs => rw [hcl] at hc; cases hc
  | wr wo xs => rw [hcl] at hc; dsimp only at hc; cases hf : (freshW P ops o).isSome <;> cases hsr : srcsOf P ops o <;> rw [hf] at hc <;> simp [hsr] at hc
  | ca f xs => rw [hcl] at hc; dsimp only at hc; split at hc <;> cases hc
  | nd no xs => rw [hcl] at hc; cases hc
  | bad => rw [hcl] at hc; cases hc
theorem apE_one {i : Nat} {o' : AO} : ∀ (e : List (Nat × AO)) (H : AH), (∀ p ∈ e, p.1 ≠ i) → apE e (H.put i o') = (apE e H).put i o'
  | [], H, _ => rfl
  | (j, o) :: r, H, h => by
    have hi : j ≠ i := h (j, o) (by simp)
    simp only [apE]
    rw [← apE_one r (H.put j o) fun p hp => h p (by simp [hp])]
    congr 1
    simp only [AH.put, lput_comm hi]
theorem apE_comm : ∀ (e f : List (Nat × AO)) (H : AH), (∀ p ∈ e, ∀ q ∈ f, p.1 ≠ q.1) → apE f (apE e H) = apE e (apE f H)
  | [], f, H, _ => rfl
  | (i, o) :: e, f, H, h => by
    simp only [apE]
    rw [apE_comm e f _ fun a ha q hq => h a (by simp [ha]) q hq]
    congr 1
    exact apE_one f H fun q hq e => h (i, o) (by simp) q hq e.symm
theorem ElF.local {src : Option Nat} {sz : Nat} {x : AV} {ys : List (List AV)} {H2 : AH} (h : ElF V H src sz x ys) (hg : ∀ i, src = some i → H2.get i = H.get i) : ElF V H2 src sz x ys := by
  cases h with
  | old x ys h => exact .old x ys h
  | new i off n t es hs hi hn => exact .new i off n t es hs (by rw [hg i hs]; exact hi) hn
/-- what it does hangs on what it touches alone -/
theorem wrF_local {tgt src : Option Nat} {id : Nat} {wo : WO} {args : List AV} {a : AV} {H' : AH} (h : WrFR V tgt src id wo args H a H') : ∃ e : List (Nat × AO), (∀ p ∈ e, p.1 = id ∨ tgt = some p.1) ∧ H' = apE e H ∧
    ∀ H2 : AH, (∀ i, i = id ∨ tgt = some i ∨ src = some i → H2.get i = H.get i) → WrFR V tgt src id wo args H2 a (apE e H2) := by
  cases h with
  | st n i off t cs a _ h1 h2 h3 h4 h5 h6 => exact ⟨[(i, .box t (cs.take off ++ a.cells ++ cs.drop (off + n)))], by simp [h1], rfl, fun H2 hg => .st n i off t cs a H2 h1 h2 (by rw [hg i (.inr (.inl h1))]; exact h3) h4 h5 h6⟩
  | app_row t sz bytes r off n es ys x _ h1 h2 h3 h4 h5 h6 h7 => exact ⟨[(r, .dead), (id, .row t sz ((es.drop off).take n ++ ys))], by simp [h1], rfl, fun H2 hg => .app_row t sz bytes r off n es ys x H2 h1 h2 (by rw [hg r (.inr (.inl h1))]; exact h3) h4 (h5.local fun i hi => hg i (.inr (.inr hi))) h6 h7⟩
  | app_nil t sz bytes ys x _ h1 h2 h3 h4 => exact ⟨[(id, .row t sz ys)], by simp, rfl, fun H2 hg => .app_nil t sz bytes ys x H2 h1 (h2.local fun i hi => hg i (.inr (.inr hi))) h3 h4⟩
theorem plusB_mem {t : Option Nat} {i : Nat} (h : plusB b t = some i) : ∃ j, t = some j ∧ i = b + j := by
  cases t with
  | none => cases h
  | some j => injection h with h; exact ⟨j, rfl, h.symm⟩
theorem CS_one {i : Nat} {o : Op} {env : Env} {x : AV} {V' H' : AH} (hc : catOf P ops o = 1) (h : CS P b (freshW P ops o, srcsOf P ops o) V (b + i) o env H x V' H') : V' = V ∧ ∃ e : List (Nat × AO), (∀ p ∈ e, ∃ k ∈ touch P ops o i, p.1 = b + k) ∧ H' = apE e H ∧
    ∀ H2 : AH, (∀ k ∈ touch P ops o i, H2.get (b + k) = H.get (b + k)) → CS P b (freshW P ops o, srcsOf P ops o) V (b + i) o env H2 x V (apE e H2) := by
  unfold CS at h ⊢
  unfold catOf at hc
  unfold touch
  cases hcl : cls P o with
  | mv y => rw [hcl] at hc; cases hc
  | pu po xs => rw [hcl] at hc; cases hc
  | rd ro xs =>
    rw [hcl] at h
    refine ⟨h.2.1, [], by simp, h.2.2, fun H2 hg => ⟨?_, rfl, rfl⟩⟩
    dsimp only at hg ⊢
    rw [mixV_congr (H := H) (H2 := H2) _ fun k hk => by obtain ⟨j, hj, rfl⟩ := List.mem_map.1 hk; exact hg j hj]; exact h.1
  | al ao xs => rw [hcl] at h; obtain ⟨o', h1, h2, h3⟩ := h; exact ⟨h2, [(b + i, o')], by simp, h3, fun _ _ => ⟨o', h1, rfl, rfl⟩⟩
  | wr wo xs =>
    rw [hcl] at h hc
    dsimp only at h hc ⊢
    cases hf : freshW P ops o with
    | none => cases hsr : srcsOf P ops o <;> rw [hf] at hc <;> simp [hsr] at hc
    | some f =>
      obtain ⟨tg, sr⟩ := f
      rw [hf] at h
      obtain ⟨h1, h2⟩ := h
      obtain ⟨e, q1, q2, q3⟩ := wrF_local h1
      refine ⟨h2, e, fun p hp => ?_, q2, fun H2 hg => ⟨q3 H2 fun k hk => ?_, rfl⟩⟩
      · rcases q1 p hp with h | h
        · exact ⟨i, by simp, h⟩
        · obtain ⟨j, hj, h⟩ := plusB_mem h; exact ⟨j, by simp [hj], h⟩
      · rcases hk with rfl | hk | hk
        · exact hg i (by simp)
        · obtain ⟨j, rfl, rfl⟩ := plusB_mem hk; exact hg j (by simp)
        · obtain ⟨j, rfl, rfl⟩ := plusB_mem hk; exact hg j (by simp)
  | ca f xs =>
    rw [hcl] at h
    dsimp only at h ⊢
    cases hfw : freshW P ops o with
    | some q =>
      obtain ⟨q1, q2⟩ := q
      cases q1 with
      | some q1 => rw [hcl] at hc; dsimp only at hc; rw [hfw] at hc; cases q2 <;> cases hc
      | none =>
      rw [hfw] at h
      obtain ⟨⟨g, first, cap, t, sz, es, h1, h2, h0, h3, h6, h4⟩, h5⟩ := h
      refine ⟨h5, [(b + i, .row t sz es)], by simp, h4, fun H2 hg => ?_⟩
      dsimp only at hg ⊢
      refine ⟨⟨g, first, cap, t, sz, es, h1, h2, h0, ?_, h6, rfl⟩, rfl⟩
      rw [mixV_congr (H := H) (H2 := H2) _ fun k hk => by obtain ⟨j, hj, rfl⟩ := List.mem_map.1 hk; exact hg j (by simp [hj])]; exact h3
    | none =>
    rw [hfw] at h
    obtain ⟨⟨g, first, cap, fz, h1, h2, h0, h3, h4⟩, h5⟩ := h
    have hin : ∀ i ∈ fz, ∃ k ∈ srcsOf P ops o, i = b + k := fun i hi => by obtain ⟨k, hk, e⟩ := List.mem_map.1 (h0 i hi).1; exact ⟨k, hk, e.symm⟩
    refine ⟨h5, frzE H fz, fun p hp => by obtain ⟨k, hk, e⟩ := hin _ (frzE_in hp).1; exact ⟨k, by simp [hk], e⟩, h4, fun H2 hg => ?_⟩
    dsimp only at hg ⊢
    have hsame : ∀ i ∈ fz, H2.get i = H.get i := fun i hi => by obtain ⟨k, hk, rfl⟩ := hin i hi; exact hg k (by simp [hk])
    have hE := frzE_same hsame
    refine ⟨⟨g, first, cap, fz, h1, h2, fun i hi => ⟨(h0 i hi).1, (h0 i hi).2.1, by rw [hsame i hi]; exact (h0 i hi).2.2⟩, ?_, by rw [frzL, hE]⟩, rfl⟩
    rw [mixV_congr (H := frzL H fz) (H2 := frzL H2 fz) _ fun k hk => by
      obtain ⟨j, hj, rfl⟩ := List.mem_map.1 hk
      rw [frzL, frzL, hE]
      exact apE_same _ _ _ (hg j (by simp [hj]))]
    exact h3
  | nd no xs => rw [hcl] at hc; cases hc
  | bad => rw [hcl] at hc; cases hc
theorem GS_zero {o : Oper} {i : Nat} {env : Env} {x : AV} {V' H' : AH} (hc : catOf P ops o.op = 0) (h : GS P n b ops o i env V H x V' H') : V' = V ∧ H' = H ∧ ∀ V2 H2, GS P n b ops o i env V2 H2 x V2 H2 := by
  unfold GS at h ⊢
  cases hg : o.guard with
  | none => rw [hg] at h; exact CS_zero hc h
  | some g =>
    rw [hg] at h
    obtain ⟨c, h0, h1, h2⟩ := h
    by_cases hw : c = some g.2
    · obtain ⟨q1, q2, q3⟩ := CS_zero hc (h1 hw)
      exact ⟨q1, q2, fun V2 H2 => ⟨c, h0, fun _ => q3 V2 H2, fun h => absurd hw h⟩⟩
    · obtain ⟨q1, q2, q3⟩ := h2 hw
      exact ⟨q2, q3, fun V2 H2 => ⟨c, h0, fun h => absurd h hw, fun _ => ⟨q1, rfl, rfl⟩⟩⟩
theorem GS_one {o : Oper} {i : Nat} {env : Env} {x : AV} {V' H' : AH} (hc : catOf P ops o.op = 1) (h : GS P n b ops o i env V H x V' H') : V' = V ∧ ∃ e : List (Nat × AO), (∀ p ∈ e, ∃ k ∈ touch P ops o.op i, p.1 = b + k) ∧ H' = apE e H ∧
    ∀ H2 : AH, (∀ k ∈ touch P ops o.op i, H2.get (b + k) = H.get (b + k)) → GS P n b ops o i env V H2 x V (apE e H2) := by
  unfold GS at h ⊢
  cases hg : o.guard with
  | none => rw [hg] at h; exact CS_one hc h
  | some g =>
    rw [hg] at h
    obtain ⟨c, h0, h1, h2⟩ := h
    by_cases hw : c = some g.2
    · obtain ⟨q1, e, q2, q3, q4⟩ := CS_one hc (h1 hw)
      exact ⟨q1, e, q2, q3, fun H2 hg => ⟨c, h0, fun _ => q4 H2 hg, fun h => absurd hw h⟩⟩
    · obtain ⟨q1, q2, q3⟩ := h2 hw
      exact ⟨q2, [], by simp, q3, fun H2 _ => ⟨c, h0, fun h => absurd h hw, fun _ => ⟨q1, rfl, rfl⟩⟩⟩
/-- a call that writes to what was there before -/
theorem CS_three {i : Nat} {o : Op} {env : Env} {x : AV} {V' H' : AH} (hc : catOf P ops o = 3) (h : CS P b (freshW P ops o, srcsOf P ops o) V (b + i) o env H x V' H') : ∃ e0 e : List (Nat × AO), V' = apE e0 V ∧ H' = apE e H ∧ (∀ p ∈ e, p.1 < b ∨ ∃ k ∈ touch P ops o i, p.1 = b + k) ∧
    ∀ H2 : AH, (∀ id, id < b ∨ (∃ k ∈ touch P ops o i, id = b + k) → H2.get id = H.get id) → CS P b (freshW P ops o, srcsOf P ops o) V (b + i) o env H2 x V' (apE e H2) := by
  unfold CS at h ⊢
  unfold catOf at hc
  unfold touch
  cases hcl : cls P o with
  | mv y => rw [hcl] at hc; cases hc
  | pu po xs => rw [hcl] at hc; cases hc
  | rd ro xs => rw [hcl] at hc; cases hc
  | al ao xs => rw [hcl] at hc; cases hc
  | wr wo xs => rw [hcl] at hc; dsimp only at hc; cases hf : (freshW P ops o).isSome <;> cases hsr : srcsOf P ops o <;> rw [hf] at hc <;> simp [hsr] at hc
  | ca f xs =>
    rw [hcl] at h hc
    dsimp only at h hc ⊢
    split at hc <;> try (cases hc; done)
    rename_i q1 hfw
    rw [hfw] at h ⊢
    dsimp only at h ⊢
    obtain ⟨g, first, cap, fz, e0, h1, h2, h3, h4, h5, h6, h7⟩ := h
    have hin : ∀ i ∈ fz, ∃ k ∈ srcsOf P ops o, i = b + k := fun i hi => by obtain ⟨k, hk, e⟩ := List.mem_map.1 (h3 i hi).1; exact ⟨k, hk, e.symm⟩
    have happ : ∀ (e f : List (Nat × AO)) (H : AH), apE f (apE e H) = apE (e ++ f) H := fun e => by
      induction e with
      | nil => exact fun _ _ => rfl
      | cons p e ih => exact fun f H => ih f _
    refine ⟨e0, frzE H fz ++ e0, h6, by rw [h7, frzL, happ], fun p hp => ?_, fun H2 hg => ?_⟩
    · rcases List.mem_append.1 hp with hp | hp
      · obtain ⟨k, hk, e⟩ := hin _ (frzE_in hp).1; exact .inr ⟨k, by simp [hk], e⟩
      · exact .inl (h4 p hp)
    · have hsame : ∀ i ∈ fz, H2.get i = H.get i := fun i hi => by obtain ⟨k, hk, rfl⟩ := hin i hi; exact hg _ (.inr ⟨k, by simp [hk], rfl⟩)
      have hE := frzE_same hsame
      refine ⟨g, first, cap, fz, e0, h1, h2, fun i hi => ⟨(h3 i hi).1, (h3 i hi).2.1, by rw [hsame i hi]; exact (h3 i hi).2.2⟩, h4, fun H3 h => h5 H3 fun id hid => ?_, h6, by rw [frzL, hE, happ]⟩
      rw [h id hid, frzL, frzL, hE]
      refine apE_same _ _ _ (hg id ?_)
      rcases hid with hid | hid
      · exact .inl hid
      · obtain ⟨j, hj, rfl⟩ := List.mem_map.1 hid; exact .inr ⟨j, by simp [hj], rfl⟩
  | nd no xs => rw [hcl] at hc; cases hc
  | bad => rw [hcl] at hc; cases hc
theorem wrO_local {src : Option Nat} {id : Nat} {wo : WO} {args : List AV} {a : AV} {H' : AH} (h : WrOR V b src id wo args H a H') : ∃ e : List (Nat × AO), (∀ p ∈ e, p.1 < b ∨ p.1 = id) ∧ H' = apE e H ∧
    ∀ H2 : AH, (∀ i, i < b ∨ src = some i → H2.get i = H.get i) → WrOR V b src id wo args H2 a (apE e H2) := by
  cases h with
  | st n i off t cs a _ h1 h2 h3 h4 h5 h6 => exact ⟨[(i, .box t (cs.take off ++ a.cells ++ cs.drop (off + n)))], by simp [h1], rfl, fun H2 hg => .st n i off t cs a H2 h1 h2 (by rw [hg i (.inl h1)]; exact h3) h4 h5 h6⟩
  | app_nil t sz bytes ys x _ h1 h2 h3 => exact ⟨[(id, .row t sz ys)], by simp, rfl, fun H2 hg => .app_nil t sz bytes ys x H2 (h1.local fun i hi => hg i (.inr hi)) h2 h3⟩
  | app_in t sz bytes r n c es ys x _ h1 h2 h3 h4 h5 h6 => exact ⟨[(r, .crow t sz c (es ++ ys))], by simp [h1], rfl, fun H2 hg => .app_in t sz bytes r n c es ys x H2 h1 h2 (by rw [hg r (.inl h1)]; exact h3) h4 (h5.local fun i hi => hg i (.inr hi)) h6⟩
  | app_out t sz bytes r n c es ys x _ h1 h3 h4 h5 h6 h7 h8 => exact ⟨[(id, .row t sz (es ++ ys))], by simp, rfl, fun H2 hg => .app_out t sz bytes r n c es ys x H2 h1 (by rw [hg r (.inl h1)]; exact h3) h4 (h5.local fun i hi => hg i (.inr hi)) h6 h7 h8⟩
  | app_own t sz bytes r n es ys x _ h1 h2 h3 h4 h5 h6 h7 => exact ⟨[(r, .dead), (id, .row t sz ((es.drop 0).take n ++ ys))], by simp [h1], rfl, fun H2 hg => .app_own t sz bytes r n es ys x H2 h1 h2 (by rw [hg r (.inl h1)]; exact h3) h4 (h5.local fun i hi => hg i (.inr hi)) h6 h7⟩
/-- a write to what was there before -/
theorem CS_five {i : Nat} {o : Op} {env : Env} {x : AV} {V' H' : AH} (hc : catOf P ops o = 5) (h : CS P b (freshW P ops o, srcsOf P ops o) V (b + i) o env H x V' H') : V' = V ∧ ∃ e : List (Nat × AO), (∀ p ∈ e, p.1 < b ∨ ∃ k ∈ touch P ops o i, p.1 = b + k) ∧ H' = apE e H ∧
    ∀ H2 : AH, (∀ id, id < b ∨ (∃ k ∈ touch P ops o i, id = b + k) → H2.get id = H.get id) → CS P b (freshW P ops o, srcsOf P ops o) V (b + i) o env H2 x V (apE e H2) := by
  unfold CS at h ⊢
  unfold catOf at hc
  cases hcl : cls P o with
  | mv y => rw [hcl] at hc; cases hc
  | pu po xs => rw [hcl] at hc; cases hc
  | rd ro xs => rw [hcl] at hc; cases hc
  | al ao xs => rw [hcl] at hc; cases hc
  | ca f xs => rw [hcl] at hc; dsimp only at hc; split at hc <;> cases hc
  | wr wo xs =>
    rw [hcl] at h hc
    dsimp only at h hc ⊢
    cases hf : freshW P ops o with
    | some f => rw [hf] at hc; simp at hc
    | none =>
      cases hsr : srcsOf P ops o with
      | nil => rw [hf, hsr] at hc; simp at hc
      | cons q1 q2 =>
        rw [hf, hsr] at h
        obtain ⟨h1, h2⟩ := h
        have htch : touch P ops o i = i :: q2 := by unfold touch; rw [hcl]; dsimp only; rw [hf]; dsimp only; rw [hsr]
        obtain ⟨e, g1, g2, g3⟩ := wrO_local h1
        refine ⟨h2, e, fun p hp => (g1 p hp).imp_right fun h => ⟨i, by rw [htch]; simp, h⟩, g2, fun H2 hg => ⟨g3 H2 (fun k hk => ?_), rfl⟩⟩
        rcases hk with hk | hk
        · exact hg k (.inl hk)
        · cases q2 with
          | nil => cases hk
          | cons q3 q4 => simp only [List.head?_cons, Option.map_some, Option.some.injEq] at hk; exact hg k (.inr ⟨q3, by rw [htch]; simp, hk.symm⟩)
  | nd no xs => rw [hcl] at hc; cases hc
  | bad => rw [hcl] at hc; cases hc
theorem GS_five {o : Oper} {i : Nat} {env : Env} {x : AV} {V' H' : AH} (hc : catOf P ops o.op = 5) (h : GS P n b ops o i env V H x V' H') : V' = V ∧ ∃ e : List (Nat × AO), (∀ p ∈ e, p.1 < b ∨ ∃ k ∈ touch P ops o.op i, p.1 = b + k) ∧ H' = apE e H ∧
    ∀ H2 : AH, (∀ id, id < b ∨ (∃ k ∈ touch P ops o.op i, id = b + k) → H2.get id = H.get id) → GS P n b ops o i env V H2 x V (apE e H2) := by
  unfold GS at h ⊢
  cases hg : o.guard with
  | none => rw [hg] at h; exact CS_five hc h
  | some g =>
    rw [hg] at h
    obtain ⟨c, h0, h1, h2⟩ := h
    by_cases hw : c = some g.2
    · obtain ⟨q1, e, q2, q3, q4⟩ := CS_five hc (h1 hw)
      exact ⟨q1, e, q2, q3, fun H2 hg => ⟨c, h0, fun _ => q4 H2 hg, fun h => absurd hw h⟩⟩
    · obtain ⟨q1, q2, q3⟩ := h2 hw
      exact ⟨q2, [], by simp, q3, fun H2 _ => ⟨c, h0, fun h => absurd h hw, fun _ => ⟨q1, rfl, rfl⟩⟩⟩
theorem GS_three {o : Oper} {i : Nat} {env : Env} {x : AV} {V' H' : AH} (hc : catOf P ops o.op = 3) (h : GS P n b ops o i env V H x V' H') : ∃ e0 e : List (Nat × AO), V' = apE e0 V ∧ H' = apE e H ∧ (∀ p ∈ e, p.1 < b ∨ ∃ k ∈ touch P ops o.op i, p.1 = b + k) ∧
    ∀ H2 : AH, (∀ id, id < b ∨ (∃ k ∈ touch P ops o.op i, id = b + k) → H2.get id = H.get id) → GS P n b ops o i env V H2 x V' (apE e H2) := by
  unfold GS at h ⊢
  cases hg : o.guard with
  | none => rw [hg] at h; exact CS_three hc h
  | some g =>
    rw [hg] at h
    obtain ⟨c, h0, h1, h2⟩ := h
    by_cases hw : c = some g.2
    · obtain ⟨e0, e, q1, q2, q3, q4⟩ := CS_three hc (h1 hw)
      exact ⟨e0, e, q1, q2, q3, fun H2 hg => ⟨c, h0, fun _ => q4 H2 hg, fun h => absurd hw h⟩⟩
    · obtain ⟨q1, q2, q3⟩ := h2 hw
      exact ⟨[], [], q2, q3, by simp, fun H2 _ => ⟨c, h0, fun h => absurd h hw, fun _ => ⟨q1, q2, rfl⟩⟩⟩
theorem GS_al {o : Oper} {i : Nat} {env : Env} {x : AV} {V' H' : AH} (hc : isAl P o.op = true) (h : GS P n b ops o i env V H x V' H') : V' = V ∧ ∃ e : List (Nat × AO), (∀ p ∈ e, p.1 = b + i) ∧ H' = apE e H ∧ (∀ V2 H2, GS P n b ops o i env V2 H2 x V2 (apE e H2)) ∧ touch P ops o.op i = [i] := by
  have hcs : ∀ {x V' H'}, CS P b (freshW P ops o.op, srcsOf P ops o.op) V (b + i) o.op env H x V' H' → V' = V ∧ ∃ e : List (Nat × AO), (∀ p ∈ e, p.1 = b + i) ∧ H' = apE e H ∧ (∀ V2 H2, CS P b (freshW P ops o.op, srcsOf P ops o.op) V2 (b + i) o.op env H2 x V2 (apE e H2)) := by
    intro x V' H' h
    unfold CS at h ⊢
    unfold isAl at hc
    cases hcl : cls P o.op with
    | al ao xs => rw [hcl] at h; obtain ⟨o', h1, h2, h3⟩ := h; exact ⟨h2, [(b + i, o')], by simp, h3, fun _ _ => ⟨o', h1, rfl, rfl⟩⟩
    | mv y => rw [hcl] at hc; cases hc
    | pu po xs => rw [hcl] at hc; cases hc
    | rd ro xs => rw [hcl] at hc; cases hc
    | wr wo xs => rw [hcl] at hc; cases hc
    | ca f xs => rw [hcl] at hc; cases hc
    | nd no xs => rw [hcl] at hc; cases hc
    | bad => rw [hcl] at hc; cases hc
  have ht : touch P ops o.op i = [i] := by
    unfold touch
    unfold isAl at hc
    cases hcl : cls P o.op with
    | al ao xs => rfl
    | mv y => rw [hcl] at hc; cases hc
    | pu po xs => rw [hcl] at hc; cases hc
    | rd ro xs => rw [hcl] at hc; cases hc
    | wr wo xs => rw [hcl] at hc; cases hc
    | ca f xs => rw [hcl] at hc; cases hc
    | nd no xs => rw [hcl] at hc; cases hc
    | bad => rw [hcl] at hc; cases hc
  unfold GS at h ⊢
  cases hg : o.guard with
  | none =>
    rw [hg] at h
    obtain ⟨q1, e, q2, q3, q4⟩ := hcs h
    exact ⟨q1, e, q2, q3, q4, ht⟩
  | some g =>
    rw [hg] at h
    obtain ⟨c, h0, h1, h2⟩ := h
    by_cases hw : c = some g.2
    · obtain ⟨q1, e, q2, q3, q4⟩ := hcs (h1 hw)
      exact ⟨q1, e, q2, q3, fun V2 H2 => ⟨c, h0, fun _ => q4 V2 H2, fun h => absurd hw h⟩, ht⟩
    · obtain ⟨q1, q2, q3⟩ := h2 hw
      exact ⟨q2, [], by simp, q3, fun V2 H2 => ⟨c, h0, fun h => absurd h hw, fun _ => ⟨q1, rfl, rfl⟩⟩, ht⟩
theorem setE_comm {env : Env} {d e : Option Tmp} {x y : AV} (h : ∀ t, d = some t → e ≠ some t) : setE n (setE n env d x) e y = setE n (setE n env e y) d x := by
  cases d with
  | none => rfl
  | some d =>
    cases e with
    | none => rfl
    | some e =>
      have hne : d ≠ e := fun q => h d rfl (by rw [q])
      simp only [setE]
      cases Nat.blt d n <;> cases Nat.blt e n <;> simp only [cond_true, cond_false]
      funext t
      by_cases h1 : t = d
      · subst h1
        rw [show Nat.beq t t = true from Nat.beq_refl t, show Nat.beq t e = false from by rw [Bool.eq_false_iff]; exact fun q => hne (Nat.eq_of_beq_eq_true q)]
        rfl
      · rw [show Nat.beq t d = false from by rw [Bool.eq_false_iff]; exact fun q => h1 (Nat.eq_of_beq_eq_true q)]
        rfl
theorem indep_spec {x y : Oper} {i j : Nat} (h : indep P ops x y i j = true) : (∀ d, x.dst = some d → d ∉ looks P ops y) ∧ (∀ d, x.dst = some d → y.dst ≠ some d) ∧ (∀ d, y.dst = some d → d ∉ looks P ops x) ∧
    (catOf P ops x.op ≠ 7 ∧ (catOf P ops y.op ≠ 7 ∨ catOf P ops x.op = 0 ∨ (keptC P ops y.op = true ∧ quietR P ops x.op = true))) ∧ ((keptC P ops y.op = true ∧ quietR P ops x.op = true) ∨ catOf P ops x.op = 0 ∨ catOf P ops y.op = 0 ∨ (catOf P ops x.op = 1 ∧ catOf P ops y.op = 1 ∧ ∀ k ∈ touch P ops x.op i, k ∉ touch P ops y.op j) ∨
      (catOf P ops x.op = 3 ∧ isAl P y.op = true ∧ ∀ k ∈ touch P ops x.op i, k ∉ touch P ops y.op j) ∨ (isAl P x.op = true ∧ catOf P ops y.op = 3 ∧ ∀ k ∈ touch P ops x.op i, k ∉ touch P ops y.op j) ∨
      (catOf P ops x.op = 5 ∧ catOf P ops y.op = 1 ∧ ∀ k ∈ touch P ops x.op i, k ∉ touch P ops y.op j) ∨ (catOf P ops x.op = 1 ∧ catOf P ops y.op = 5 ∧ ∀ k ∈ touch P ops x.op i, k ∉ touch P ops y.op j)) := by
  unfold indep at h
  simp only [Bool.and_eq_true, Bool.or_eq_true, beq_iff_eq, Bool.not_eq_true', beq_eq_false_iff_ne] at h
  obtain ⟨⟨⟨h1, h2⟩, h7⟩, h3⟩ := h
  have h7 : catOf P ops x.op ≠ 7 ∧ (catOf P ops y.op ≠ 7 ∨ catOf P ops x.op = 0 ∨ (keptC P ops y.op = true ∧ quietR P ops x.op = true)) := ⟨h7.1, h7.2.elim (fun h => h.elim .inl (fun h => .inr (.inl h))) (fun h => .inr (.inr h))⟩
  have dj : ∀ {a b : List Nat}, disj a b = true → ∀ k ∈ a, k ∉ b := fun h k hk hk' => by
    have := List.all_eq_true.1 h k hk
    simp at this
    exact this hk'
  refine ⟨fun d hd => ?_, fun d hd => ?_, fun d hd => ?_, h7, by
    rcases h3 with ((((((h3 | h3) | h3) | h3) | h3) | h3) | h3) | h3
    · exact .inl h3
    · exact .inr (.inl h3)
    · exact .inr (.inr (.inl h3))
    · exact .inr (.inr (.inr (.inl ⟨h3.1.1, h3.1.2, dj h3.2⟩)))
    · exact .inr (.inr (.inr (.inr (.inl ⟨h3.1.1, h3.1.2, dj h3.2⟩))))
    · exact .inr (.inr (.inr (.inr (.inr (.inl ⟨h3.1.1, h3.1.2, dj h3.2⟩)))))
    · exact .inr (.inr (.inr (.inr (.inr (.inr (.inl ⟨h3.1.1, h3.1.2, dj h3.2⟩))))))
    · exact .inr (.inr (.inr (.inr (.inr (.inr (.inr ⟨h3.1.1, h3.1.2, dj h3.2⟩))))))⟩
  · rw [hd] at h1; simp at h1; exact h1.1
  · rw [hd] at h1; simp at h1; exact h1.2
  · rw [hd] at h2; simp at h2; exact h2
theorem cat_seven {o : Op} (h : catOf P ops o = 7) : ∃ f xs a d, cls P o = .ca f xs ∧ freshW P ops o = some (some a, some d) := by
  unfold catOf at h
  cases hcl : cls P o with
  | mv y => rw [hcl] at h; cases h
  | pu po xs => rw [hcl] at h; cases h
  | rd ro xs => rw [hcl] at h; cases h
  | al ao xs => rw [hcl] at h; cases h
  | wr wo xs => rw [hcl] at h; dsimp only at h; cases hf : (freshW P ops o).isSome <;> cases hsr : srcsOf P ops o <;> rw [hf] at h <;> simp [hsr] at h
  | nd no xs => rw [hcl] at h; cases h
  | bad => rw [hcl] at h; cases h
  | ca f xs =>
    rw [hcl] at h
    dsimp only at h
    split at h
    · cases h
    · rename_i a d hf; exact ⟨f, xs, a, d, rfl, hf⟩
    · cases h
/-- a call of any kind, and what looks at no memory ahead of it -/
theorem stepV_swap7 {x y : Oper} {i j : Nat} {env : Env} {k : Env → AH → AH → Prop} (h0 : catOf P ops x.op = 0) (h7 : catOf P ops y.op = 7)
    (a1 : ∀ d, x.dst = some d → d ∉ looks P ops y) (a2 : ∀ d, x.dst = some d → y.dst ≠ some d) (a3 : ∀ d, y.dst = some d → d ∉ looks P ops x)
    (h : stepV P n b ops x i env V (fun env' V' H' => stepV P n b ops y j env' V' k H') H) : stepV P n b ops y j env V (fun env' V' H' => stepV P n b ops x i env' V' k H') H := by
  have l1 : noLast (freshW P ops x.op) (cls P x.op) := noLast_of (by rw [h0]; decide)
  rw [stepV_iff l1] at h
  obtain ⟨u, V1, H1, g1, h⟩ := h
  obtain ⟨rfl, rfl, q⟩ := GS_zero h0 g1
  obtain ⟨f, xs, a, d, hc, hf⟩ := cat_seven h7
  have hk : ∀ v V' H', k (setE n (setE n env x.dst u) y.dst v) V' H' → stepV P n b ops x i (setE n env y.dst v) V' k H' := fun v V' H' hh => by
    rw [setE_comm a2] at hh
    exact (stepV_iff l1).2 ⟨u, V', H', (GS_congr a3).2 (q V' H'), hh⟩
  have h1 : ∀ d, x.dst = some d → d ∉ tmpsIn (clsXs (cls P y.op)) := fun d hd hm => a1 d hd (List.mem_append_left _ hm)
  have core : coreV P b (freshW P ops y.op, srcsOf P ops y.op) V1 (b + j) y.op (setE n env x.dst u) (fun a => k (setE n (setE n env x.dst u) y.dst a)) H1 → coreV P b (freshW P ops y.op, srcsOf P ops y.op) V1 (b + j) y.op env (fun a V' H' => stepV P n b ops x i (setE n env y.dst a) V' k H') H1 := by
    intro h
    unfold coreV at h ⊢
    rw [hc] at h h1 ⊢
    rw [hf] at h ⊢
    have hev := evs_set (n := n) (env := env) (a := u) h1
    simp only [clsXs, List.map_cons, List.cons.injEq] at hev
    dsimp only at h ⊢
    rw [hev.1, hev.2] at h
    cases a with
    | zero =>
      obtain ⟨g, first, cap, Q, q1, q2, q3, q4⟩ := h
      exact ⟨g, first, cap, Q, q1, q2, q3, fun r H' s q => hk r H' H' (q4 r H' s q)⟩
    | succ a =>
      obtain ⟨g, first, cap, Q, q1, q2, q3, q4⟩ := h
      exact ⟨g, first, cap, Q, q1, q2, q3, fun r H' s q => ⟨(q4 r H' s q).1, hk r _ H' (q4 r H' s q).2⟩⟩
  unfold stepV at h ⊢
  cases hg : y.guard with
  | none => rw [hg] at h; exact core h
  | some g =>
    obtain ⟨j', want⟩ := g
    rw [hg] at h
    have h2 : gv n ops (setE n env x.dst u) j' = gv n ops env j' := gv_set fun d hd hm => a1 d hd (List.mem_append_right _ (by rw [hg]; exact hm))
    obtain ⟨c, k1, k2, k3⟩ := h
    rw [h2] at k1
    exact ⟨c, k1, fun hw => core (k2 hw), fun hw => hk _ _ _ (k3 hw)⟩
theorem quiet_spec {o : Op} (h : quietR P ops o = true) {i : Nat} {env : Env} {x : AV} {V' H' : AH} (hc : CS P b (freshW P ops o, srcsOf P ops o) V (b + i) o env H x V' H') : V' = V ∧ H' = H ∧ ∀ H2, CS P b (freshW P ops o, srcsOf P ops o) V (b + i) o env H2 x V H2 := by
  unfold quietR at h
  unfold CS at hc ⊢
  cases hcl : cls P o with
  | mv y => rw [hcl] at h; cases h
  | pu po xs => rw [hcl] at h; cases h
  | al ao xs => rw [hcl] at h; cases h
  | wr wo xs => rw [hcl] at h; cases h
  | nd no xs => rw [hcl] at h; cases h
  | bad => rw [hcl] at h; cases h
  | rd ro xs =>
    rw [hcl] at h hc
    have hs : srcsOf P ops o = [] := by unfold srcsOf; rw [hcl]; exact List.isEmpty_iff.1 h
    dsimp only at hc ⊢
    rw [hs] at hc ⊢
    exact ⟨hc.2.1, hc.2.2, fun H2 => ⟨hc.1, rfl, rfl⟩⟩
  | ca f xs =>
    rw [hcl] at h hc
    simp only [Bool.and_eq_true, Bool.not_eq_true'] at h
    obtain ⟨⟨⟨h1, h2⟩, h3⟩, h4⟩ := h
    have hs : srcsOf P ops o = [] := by unfold srcsOf; rw [hcl]; exact List.isEmpty_iff.1 h4
    have hk : keepC P ops o = true ∨ freshW P ops o = none := by
      unfold freshW; rw [hcl]; dsimp only; rw [h1, h2, h3]; cases keepC P ops o <;> simp
    dsimp only at hc ⊢
    rcases hk with hk | hk
    · exfalso
      have : freshW P ops o = some (some 1, some 1) := by unfold freshW; rw [hcl]; dsimp only; rw [h1, h3, hk]; rfl
      rw [this] at hc
      exact hc
    · rw [hk, hs] at hc ⊢
      obtain ⟨⟨g, first, cap, fz, g1, g2, g0, g3, g4⟩, g5⟩ := hc
      have hz : fz = [] := List.eq_nil_iff_forall_not_mem.2 fun i hi => by have := (g0 i hi).1; cases this
      subst hz
      exact ⟨g5, g4, fun H2 => ⟨⟨g, first, cap, [], g1, g2, by simp, g3, rfl⟩, rfl⟩⟩
theorem quiet_GS {o : Oper} (h : quietR P ops o.op = true) {i : Nat} {env : Env} {x : AV} {V' H' : AH} (hc : GS P n b ops o i env V H x V' H') : V' = V ∧ H' = H ∧ ∀ H2, GS P n b ops o i env V H2 x V H2 := by
  unfold GS at hc ⊢
  cases hg : o.guard with
  | none => rw [hg] at hc; exact quiet_spec h hc
  | some g =>
    rw [hg] at hc
    obtain ⟨c, h0, h1, h2⟩ := hc
    by_cases hw : c = some g.2
    · obtain ⟨q1, q2, q3⟩ := quiet_spec h (h1 hw)
      exact ⟨q1, q2, fun H2 => ⟨c, h0, fun _ => q3 H2, fun h => absurd hw h⟩⟩
    · obtain ⟨q1, q2, q3⟩ := h2 hw
      exact ⟨q2, q3, fun H2 => ⟨c, h0, fun h => absurd h hw, fun _ => ⟨q1, rfl, rfl⟩⟩⟩
theorem kept_spec {o : Op} (h : keptC P ops o = true) : ∃ f xs a d, cls P o = .ca f xs ∧ freshW P ops o = some (some (a + 1), some d) := by
  unfold keptC at h
  split at h
  · rename_i f xs a d hc hf; exact ⟨f, xs, a, d, hc, hf⟩
  · cases h
/-- a call that keeps what is read, and what reads ahead of it -/
theorem stepV_swap8 {x y : Oper} {i j : Nat} {env : Env} {k : Env → AH → AH → Prop} (l1 : catOf P ops x.op ≠ 7) (h0 : quietR P ops x.op = true) (h7 : keptC P ops y.op = true)
    (a1 : ∀ d, x.dst = some d → d ∉ looks P ops y) (a2 : ∀ d, x.dst = some d → y.dst ≠ some d) (a3 : ∀ d, y.dst = some d → d ∉ looks P ops x)
    (h : stepV P n b ops x i env V (fun env' V' H' => stepV P n b ops y j env' V' k H') H) : stepV P n b ops y j env V (fun env' V' H' => stepV P n b ops x i env' V' k H') H := by
  have l1 := noLast_of l1
  rw [stepV_iff l1] at h
  obtain ⟨u, V1, H1, g1, h⟩ := h
  obtain ⟨rfl, rfl, q⟩ := quiet_GS h0 g1
  obtain ⟨f, xs, a, d, hc, hf⟩ := kept_spec h7
  have hk : ∀ v H', k (setE n (setE n env x.dst u) y.dst v) V1 H' → stepV P n b ops x i (setE n env y.dst v) V1 k H' := fun v H' hh => by
    rw [setE_comm a2] at hh
    exact (stepV_iff l1).2 ⟨u, V1, H', (GS_congr a3).2 (q H'), hh⟩
  have h1 : ∀ d, x.dst = some d → d ∉ tmpsIn (clsXs (cls P y.op)) := fun d hd hm => a1 d hd (List.mem_append_left _ hm)
  have core : coreV P b (freshW P ops y.op, srcsOf P ops y.op) V1 (b + j) y.op (setE n env x.dst u) (fun a => k (setE n (setE n env x.dst u) y.dst a)) H1 → coreV P b (freshW P ops y.op, srcsOf P ops y.op) V1 (b + j) y.op env (fun a V' H' => stepV P n b ops x i (setE n env y.dst a) V' k H') H1 := by
    intro h
    unfold coreV at h ⊢
    rw [hc] at h h1 ⊢
    rw [hf] at h ⊢
    have hev := evs_set (n := n) (env := env) (a := u) h1
    simp only [clsXs, List.map_cons, List.cons.injEq] at hev
    dsimp only at h ⊢
    rw [hev.1, hev.2] at h
    obtain ⟨g, first, cap, Q, q1, q2, q3, q4⟩ := h
    exact ⟨g, first, cap, Q, q1, q2, q3, fun r H' s q => ⟨(q4 r H' s q).1, hk r H' (q4 r H' s q).2⟩⟩
  unfold stepV at h ⊢
  cases hg : y.guard with
  | none => rw [hg] at h; exact core h
  | some g =>
    obtain ⟨j', want⟩ := g
    rw [hg] at h
    have h2 : gv n ops (setE n env x.dst u) j' = gv n ops env j' := gv_set fun d hd hm => a1 d hd (List.mem_append_right _ (by rw [hg]; exact hm))
    obtain ⟨c, k1, k2, k3⟩ := h
    rw [h2] at k1
    exact ⟨c, k1, fun hw => core (k2 hw), fun hw => hk _ _ (k3 hw)⟩
/-- two operations change places -/
theorem stepV_swap {x y : Oper} {i j : Nat} {env : Env} {k : Env → AH → AH → Prop} (hi : indep P ops x y i j = true)
    (h : stepV P n b ops x i env V (fun env' V' H' => stepV P n b ops y j env' V' k H') H) : stepV P n b ops y j env V (fun env' V' H' => stepV P n b ops x i env' V' k H') H := by
  obtain ⟨a1, a2, a3, ⟨l1, l2⟩, a4⟩ := indep_spec hi
  by_cases h8 : keptC P ops y.op = true ∧ quietR P ops x.op = true
  · exact stepV_swap8 l1 h8.2 h8.1 a1 a2 a3 h
  by_cases h7 : catOf P ops y.op = 7
  · exact stepV_swap7 (l2.elim (fun h => absurd h7 h) (fun h => h.elim id (fun h => absurd h h8))) h7 a1 a2 a3 h
  have l1 := noLast_of l1
  have l2 : noLast (freshW P ops y.op) (cls P y.op) := noLast_of h7
  rw [stepV_iff l1] at h
  rw [stepV_iff l2]
  obtain ⟨u, V1, H1, g1, h⟩ := h
  rw [stepV_iff l2] at h
  obtain ⟨v, V2, H2, g2, h⟩ := h
  rw [GS_congr a1] at g2
  rw [setE_comm a2] at h
  have fin : ∀ V1' H1', GS P n b ops y j env V H v V1' H1' → GS P n b ops x i env V1' H1' u V2 H2 → ∃ x_1 V' H', GS P n b ops y j env V H x_1 V' H' ∧ stepV P n b ops x i (setE n env y.dst x_1) V' k H' := fun V1' H1' q1 q2 =>
    ⟨v, V1', H1', q1, (stepV_iff l1).2 ⟨u, V2, H2, (GS_congr a3).2 q2, h⟩⟩
  rcases a4 with a4 | a4 | a4 | ⟨a4, a5, a6⟩ | ⟨a4, a5, a6⟩ | ⟨a4, a5, a6⟩ | ⟨a4, a5, a6⟩ | ⟨a4, a5, a6⟩
  · exact absurd a4 h8
  · obtain ⟨rfl, rfl, q⟩ := GS_zero a4 g1
    exact fin V2 H2 g2 (q V2 H2)
  · obtain ⟨rfl, rfl, q⟩ := GS_zero a4 g2
    exact fin V H (q V H) g1
  · obtain ⟨rfl, e, e1, rfl, q1⟩ := GS_one a4 g1
    obtain ⟨rfl, f, f1, rfl, q2⟩ := GS_one a5 g2
    have hef : ∀ p ∈ e, ∀ q ∈ f, p.1 ≠ q.1 := fun p hp q hq h => by
      obtain ⟨k, hk, h1⟩ := e1 p hp
      obtain ⟨l, hl, h2⟩ := f1 q hq
      have : k = l := by omega
      subst this
      exact a6 k hk hl
    refine fin _ (apE f H) (q2 H fun k hk => (apE_get e H fun p hp h => ?_).symm) ?_
    · obtain ⟨l, hl, h1⟩ := e1 p hp
      have : l = k := by omega
      subst this
      exact a6 l hl hk
    · rw [apE_comm e f H hef]
      exact q1 _ fun k hk => apE_get f H fun p hp h => by
        obtain ⟨l, hl, h1⟩ := f1 p hp
        have : l = k := by omega
        subst this
        exact a6 l hk hl
  · obtain ⟨e0, e, rfl, rfl, e1, q1⟩ := GS_three a4 g1
    obtain ⟨rfl, f, f1, rfl, q2, ht⟩ := GS_al a5 g2
    have hef : ∀ p ∈ e, ∀ q ∈ f, p.1 ≠ q.1 := fun p hp q hq h => by
      have hq := f1 q hq
      rcases e1 p hp with h1 | ⟨k, hk, h1⟩
      · omega
      · have : k = j := by omega
        subst this
        exact a6 k hk (by rw [ht]; simp)
    refine fin V (apE f H) (q2 V H) ?_
    rw [apE_comm e f H hef]
    refine q1 _ fun id hid => apE_get f H fun p hp h => ?_
    have hp := f1 p hp
    rcases hid with hid | ⟨k, hk, hid⟩
    · omega
    · have : k = j := by omega
      subst this
      exact a6 k hk (by rw [ht]; simp)
  · obtain ⟨rfl, f, f1, rfl, q1, ht⟩ := GS_al a4 g1
    obtain ⟨e0, e, rfl, rfl, e1, q2⟩ := GS_three a5 g2
    have hni : i ∉ touch P ops y.op j := a6 i (by rw [ht]; simp)
    have hef : ∀ p ∈ f, ∀ q ∈ e, p.1 ≠ q.1 := fun p hp q hq h => by
      have hp := f1 p hp
      rcases e1 q hq with h1 | ⟨k, hk, h1⟩
      · omega
      · have : k = i := by omega
        subst this
        exact hni hk
    refine fin _ (apE e H) (q2 H fun id hid => (apE_get f H fun p hp h => ?_).symm) ?_
    · have hp := f1 p hp
      rcases hid with hid | ⟨k, hk, hid⟩
      · omega
      · have : k = i := by omega
        subst this
        exact hni hk
    · rw [apE_comm f e H hef]
      exact q1 _ _
  · obtain ⟨rfl, e, e1, rfl, q1⟩ := GS_five a4 g1
    obtain ⟨rfl, f, f1, rfl, q2⟩ := GS_one a5 g2
    have hef : ∀ p ∈ e, ∀ q ∈ f, p.1 ≠ q.1 := fun p hp q hq h => by
      obtain ⟨l, hl, h2⟩ := f1 q hq
      rcases e1 p hp with h1 | ⟨k, hk, h1⟩
      · omega
      · have : k = l := by omega
        subst this
        exact a6 k hk hl
    refine fin _ (apE f H) (q2 H fun k hk => (apE_get e H fun p hp h => ?_).symm) ?_
    · rcases e1 p hp with h1 | ⟨l, hl, h1⟩
      · omega
      · have : l = k := by omega
        subst this
        exact a6 l hl hk
    · rw [apE_comm e f H hef]
      exact q1 _ fun id hid => apE_get f H fun p hp h => by
        obtain ⟨l, hl, h2⟩ := f1 p hp
        rcases hid with hid | ⟨k, hk, hid⟩
        · omega
        · have : k = l := by omega
          subst this
          exact a6 k hk hl
  · obtain ⟨rfl, e, e1, rfl, q1⟩ := GS_one a4 g1
    obtain ⟨rfl, f, f1, rfl, q2⟩ := GS_five a5 g2
    have hef : ∀ p ∈ e, ∀ q ∈ f, p.1 ≠ q.1 := fun p hp q hq h => by
      obtain ⟨l, hl, h2⟩ := e1 p hp
      rcases f1 q hq with h1 | ⟨k, hk, h1⟩
      · omega
      · have : l = k := by omega
        subst this
        exact a6 l hl hk
    refine fin _ (apE f H) (q2 H fun id hid => (apE_get e H fun p hp h => ?_).symm) ?_
    · obtain ⟨l, hl, h2⟩ := e1 p hp
      rcases hid with hid | ⟨k, hk, hid⟩
      · omega
      · have : l = k := by omega
        subst this
        exact a6 l hl hk
    · rw [apE_comm e f H hef]
      exact q1 _ fun k hk => apE_get f H fun p hp h => by
        rcases f1 p hp with h1 | ⟨l, hl, h1⟩
        · omega
        · have : k = l := by omega
          subst this
          exact a6 k hk hl
def opV (P : Program) (n b : Nat) (ops : Array Oper) (i : Nat) (env : Env) (V : AH) (k : Env → AH → AH → Prop) (H : AH) : Prop :=
  match ops[i]? with
  | some o => stepV P n b ops o i env V k H
  | none => k env V H
/-- in whatever order -/
def anyA (P : Program) (n b : Nat) (ops : Array Oper) (K : Env → AH → Prop) : Nat → Array Bool → Env → AH → AH → Prop
  | 0, listed, env, _, H => Region.ready .any ops listed = [] ∧ K env H
  | fuel + 1, listed, env, V, H => (Region.ready .any ops listed = [] → K env H) ∧ ∀ i ∈ Region.ready .any ops listed, opV P n b ops i env V (fun env' V' H' => anyA P n b ops K fuel (listed.setIfInBounds i true) env' V' H') H
theorem opV_mono {i : Nat} {env : Env} {k k' : Env → AH → AH → Prop} (h : opV P n b ops i env V k H) (hk : ∀ e V H, k e V H → k' e V H) : opV P n b ops i env V k' H := by
  unfold opV at h ⊢
  cases ho : ops[i]? with
  | none => rw [ho] at h; exact hk _ _ _ h
  | some o => rw [ho] at h; exact stepV_mono h hk
/-- which hang on which -/
def maskOk (ops : Array Oper) (M : Array Nat) : Bool :=
  (List.range ops.size).all fun j => match ops[j]? with
    | some o => o.after.all (fun e => !Region.binds .any e || Nat.blt e.on j) && (List.range ops.size).all fun i => !(M.getD j 0).testBit i || o.after.any (fun e => Region.binds .any e && (e.on == i || (M.getD e.on 0).testBit i))
    | none => true
def closedL (ops : Array Oper) (listed : Array Bool) : Prop := ∀ (j : Nat) (o : Oper), ops[j]? = some o → listed.getD j false = true → ∀ e ∈ o.after, Region.binds .any e = true → listed.getD e.on false = true
theorem mask_spec {M : Array Nat} (h : maskOk ops M = true) {j : Nat} {o : Oper} (ho : ops[j]? = some o) : (∀ e ∈ o.after, Region.binds .any e = true → e.on < j) ∧ ∀ i, i < ops.size → (M.getD j 0).testBit i = true → ∃ e ∈ o.after, Region.binds .any e = true ∧ (e.on = i ∨ (M.getD e.on 0).testBit i = true) := by
  unfold maskOk at h
  rw [List.all_eq_true] at h
  have hj := h j (List.mem_range.2 (Array.getElem?_eq_some_iff.1 ho).1)
  rw [ho] at hj
  simp only [Bool.and_eq_true] at hj
  obtain ⟨h1, h2⟩ := hj
  refine ⟨fun e he hb => ?_, fun i hi hm => ?_⟩
  · have := Array.all_eq_true_iff_forall_mem.1 h1 e he
    simp only [hb, Bool.not_true, Bool.false_or, Nat.blt_eq] at this
    exact this
  · rw [List.all_eq_true] at h2
    have := h2 i (List.mem_range.2 hi)
    simp only [hm, Bool.not_true, Bool.false_or] at this
    obtain ⟨e, he, hb⟩ := Array.any_eq_true'.1 this
    simp only [Bool.and_eq_true, Bool.or_eq_true, beq_iff_eq] at hb
    exact ⟨e, he, hb.1, hb.2⟩
theorem mask_listed {M : Array Nat} (h : maskOk ops M = true) {listed : Array Bool} (hc : closedL ops listed) {i : Nat} (hi : i < ops.size) : ∀ (j : Nat), listed.getD j false = true → (M.getD j 0).testBit i = true → (∃ o, ops[j]? = some o) → listed.getD i false = true := by
  intro j
  induction j using Nat.strongRecOn with
  | _ j ih =>
    rintro hj hm ⟨o, ho⟩
    obtain ⟨m1, m2⟩ := mask_spec h ho
    obtain ⟨e, he, hb, hor⟩ := m2 i hi hm
    have hl := hc j o ho hj e he hb
    rcases hor with hor | hor
    · rw [← hor]; exact hl
    · exact ih e.on (m1 e he hb) hl hor ⟨_, Array.getElem?_eq_getElem (Nat.lt_trans (m1 e he hb) (Array.getElem?_eq_some_iff.1 ho).1)⟩
theorem mask_ready {M : Array Nat} (h : maskOk ops M = true) {listed : Array Bool} (hc : closedL ops listed) {i j : Nat} (hi : i < ops.size) (hj : j ∈ Region.ready .any ops listed) (hm : (M.getD j 0).testBit i = true) : listed.getD i false = true := by
  obtain ⟨_, o, ho, hall⟩ := mem_ready.1 hj
  obtain ⟨m1, m2⟩ := mask_spec h ho
  obtain ⟨e, he, hb, hor⟩ := m2 i hi hm
  have hl := hall e he hb
  rcases hor with hor | hor
  · rw [← hor]; exact hl
  · exact mask_listed h hc hi e.on hl hor ⟨_, Array.getElem?_eq_getElem (Nat.lt_trans (m1 e he hb) (Array.getElem?_eq_some_iff.1 ho).1)⟩
theorem closed_set {listed : Array Bool} (hc : closedL ops listed) {j : Nat} (hj : j ∈ Region.ready .any ops listed) : closedL ops (listed.setIfInBounds j true) := by
  intro k o ho hk e he hb
  by_cases hkj : j = k
  · subst hkj
    obtain ⟨_, o', ho', hall⟩ := mem_ready.1 hj
    rw [ho] at ho'; injection ho' with ho'; subst ho'
    exact getD_set_true (hall e he hb)
  · rw [getD_set_ne false hkj] at hk
    exact getD_set_true (hc k o ho hk e he hb)
theorem getD_tf {listed : Array Bool} {i : Nat} (h : listed.getD i true = false) : listed.getD i false = false := by
  rcases Nat.lt_or_ge i listed.size with h' | h'
  · simp [h'] at h ⊢; exact h
  · simp [Array.getElem?_eq_none h'] at h
/-- one that may go first -/
theorem anyA_first {K : Env → AH → Prop} {M : Array Nat} (hM : ∀ (listed : Array Bool) (i j : Nat), closedL ops listed → i < ops.size → j ∈ Region.ready .any ops listed → (M.getD j 0).testBit i = true → listed.getD i false = true) {i : Nat} {oi : Oper} (hi : ops[i]? = some oi) : ∀ (fuel : Nat) (listed : Array Bool) (env : Env) (V H : AH), closedL ops listed →
    (∀ j oj, ops[j]? = some oj → j ≠ i → listed.getD j true = false → (M.getD j 0).testBit i = false → indep P ops oi oj i j = true) → i ∈ Region.ready .any ops listed →
    opV P n b ops i env V (fun env' V' H' => anyA P n b ops K fuel (listed.setIfInBounds i true) env' V' H') H → anyA P n b ops K (fuel + 1) listed env V H := by
  intro fuel
  induction fuel with
  | zero =>
    intro listed env V H hc hfree hr h
    refine ⟨fun h0 => (by rw [h0] at hr; cases hr), fun j hj => ?_⟩
    by_cases hji : j = i
    · subst hji; exact h
    · have hj' := ready_mono (i := i) hj hji
      obtain ⟨hjun, oj, hoj, hall⟩ := mem_ready.1 hj
      have hiun := (mem_ready.1 hr).1
      have hnm : (M.getD j 0).testBit i = false := by
        cases hm : (M.getD j 0).testBit i with
        | false => rfl
        | true =>
          have := hM _ _ _ hc (Array.getElem?_eq_some_iff.1 hi).1 hj hm
          rw [getD_tf hiun] at this; cases this
      obtain ⟨_, _, _, ⟨l1, _⟩, _⟩ := indep_spec (hfree j oj hoj hji hjun hnm)
      simp only [opV, hi] at h
      rw [stepV_iff (noLast_of l1)] at h
      obtain ⟨_, _, _, _, h⟩ := h
      rw [h.1] at hj'
      cases hj'
  | succ fuel ih =>
    intro listed env V H hc hfree hr h
    refine ⟨fun h0 => (by rw [h0] at hr; cases hr), fun j hj => ?_⟩
    by_cases hji : j = i
    · subst hji; exact h
    · obtain ⟨hjun, oj, hoj, hall⟩ := mem_ready.1 hj
      have hiun := (mem_ready.1 hr).1
      have hnm : (M.getD j 0).testBit i = false := by
        cases hm : (M.getD j 0).testBit i with
        | false => rfl
        | true =>
          have := hM _ _ _ hc (Array.getElem?_eq_some_iff.1 hi).1 hj hm
          rw [getD_tf hiun] at this; cases this
      have hind := hfree j oj hoj hji hjun hnm
      have h1 : stepV P n b ops oi i env V (fun env' V' H' => stepV P n b ops oj j env' V' (fun env2 V2 H2 => anyA P n b ops K fuel ((listed.setIfInBounds i true).setIfInBounds j true) env2 V2 H2) H') H := by
        simp only [opV, hi] at h
        refine stepV_mono h fun e V H hh => ?_
        have := hh.2 j (ready_mono hj hji)
        simp only [opV, hoj] at this
        exact this
      have h2 := stepV_swap hind h1
      simp only [opV, hoj]
      refine stepV_mono h2 fun e V H h3 => ih (listed.setIfInBounds j true) e V H (closed_set hc hj) (fun k ok hk hki hun hno => ?_) (ready_mono hr (Ne.symm hji)) ?_
      · refine hfree k ok hk hki ?_ hno
        by_cases hjk : j = k
        · subst hjk; exact hjun
        · rw [getD_set_ne true hjk] at hun; exact hun
      · rw [Array.setIfInBounds_comm _ _ hji]
        simp only [opV, hi]
        exact h3
/-- all that need not wait for one another may change places -/
def freeOk (P : Program) (ops : Array Oper) (M : Array Nat) : Bool :=
  (List.range ops.size).all fun i => (List.range ops.size).all fun j => Nat.ble j i || (M.getD j 0).testBit i || match ops[i]?, ops[j]? with
    | some x, some y => indep P ops x y i j
    | _, _ => true
theorem free_spec {M : Array Nat} (h : freeOk P ops M = true) {i j : Nat} {x y : Oper} (hx : ops[i]? = some x) (hy : ops[j]? = some y) (hij : i < j) (hm : (M.getD j 0).testBit i = false) : indep P ops x y i j = true := by
  unfold freeOk at h
  rw [List.all_eq_true] at h
  have h1 := h i (List.mem_range.2 (Array.getElem?_eq_some_iff.1 hx).1)
  rw [List.all_eq_true] at h1
  have h2 := h1 j (List.mem_range.2 (Array.getElem?_eq_some_iff.1 hy).1)
  rw [hx, hy, hm] at h2
  simp only [Bool.or_false, Bool.or_eq_true, Nat.ble_eq] at h2
  rcases h2 with h2 | h2
  · omega
  · exact h2
/-- the first k are done -/
def firstK (m k : Nat) (listed : Array Bool) : Prop := listed.size = m ∧ ∀ j, listed.getD j true = false ↔ (k ≤ j ∧ j < m)
theorem firstK_zero (m : Nat) : firstK m 0 (Array.replicate m false) := by
  refine ⟨by simp, fun j => ?_⟩
  by_cases hj : j < m
  · simp [hj]
  · simp [Array.getElem?_eq_none, hj]
theorem firstK_succ {m k : Nat} {listed : Array Bool} (h : firstK m k listed) (hk : k < m) : firstK m (k + 1) (listed.setIfInBounds k true) := by
  obtain ⟨h1, h2⟩ := h
  refine ⟨by simp [h1], fun j => ?_⟩
  by_cases hj : k = j
  · subst hj
    have hks : k < listed.size := by rw [h1]; exact hk
    simp [hks]; omega
  · rw [getD_set_ne true hj, h2 j]; omega
theorem firstK_false {m k : Nat} {listed : Array Bool} (h : firstK m k listed) (j : Nat) : listed.getD j false = true ↔ j < m ∧ j < k := by
  obtain ⟨h1, h2⟩ := h
  by_cases hj : j < m
  · have hjs : j < listed.size := by rw [h1]; exact hj
    have h3 := h2 j
    simp only [Array.getD_eq_getD_getElem?, Array.getElem?_eq_getElem hjs, Option.getD_some] at h3 ⊢
    cases hb : listed[j] with
    | true => rw [hb] at h3; simp at h3; simp; omega
    | false => rw [hb] at h3; simp at h3; simp; omega
  · have hjs : listed.size ≤ j := by rw [h1]; omega
    simp only [Array.getD_eq_getD_getElem?, Array.getElem?_eq_none hjs, Option.getD_none]
    constructor
    · intro h; cases h
    · rintro ⟨h, _⟩; exact absurd h hj
theorem anyA_lex {K : Env → AH → Prop} {M : Array Nat} (hM : maskOk ops M = true) (hF : freeOk P ops M = true) : ∀ (l : List Oper) (i : Nat) (listed : Array Bool) (env : Env) (V H : AH), (∀ j, l[j]? = ops[i + j]?) → i + l.length = ops.size → firstK ops.size i listed →
    seqV P n b ops l i env K V H → anyA P n b ops K l.length listed env V H
  | [], i, listed, env, V, H, hl, hlen, hk, h => by
    refine ⟨?_, h⟩
    rw [List.eq_nil_iff_forall_not_mem]
    intro j hj
    obtain ⟨h1, o, ho, _⟩ := mem_ready.1 hj
    have := (hk.2 j).1 h1
    simp at hlen
    omega
  | o :: l, i, listed, env, V, H, hl, hlen, hk, h => by
    have h0 : ops[i]? = some o := by simpa using (hl 0).symm
    have hi : i < ops.size := (Array.getElem?_eq_some_iff.1 h0).1
    obtain ⟨m1, _⟩ := mask_spec hM h0
    have hready : i ∈ Region.ready .any ops listed := mem_ready.2 ⟨(hk.2 i).2 ⟨Nat.le_refl _, hi⟩, o, h0, fun e he hb => (firstK_false hk e.on).2 (by have := m1 e he hb; omega)⟩
    have hclosed : closedL ops listed := fun j oj hoj hj e he hb => by
      have hj' := (firstK_false hk j).1 hj
      have := (mask_spec hM hoj).1 e he hb
      exact (firstK_false hk e.on).2 (by omega)
    refine anyA_first (fun _ _ _ hc hi hj hm => mask_ready hM hc hi hj hm) h0 l.length listed env V H hclosed (fun j oj hoj hji hun hm => ?_) hready ?_
    · have := (hk.2 j).1 hun
      exact free_spec hF h0 hoj (by omega) hm
    · simp only [opV, h0]
      simp only [seqV] at h
      exact stepV_mono h fun e V' H' hh => anyA_lex hM hF l (i + 1) _ e V' H' (fun j => by have := hl (j + 1); simpa [Nat.add_assoc, Nat.add_comm 1 j] using this) (by simp at hlen; omega) (firstK_succ hk hi) hh
/-- what is told of every order holds of the model -/
theorem anyA_sound {nd : Bool} {B0 : Nat} (hnd : ∀ (j : Nat) (o : Oper), ops[j]? = some o → needV P ops o.op = true → nd = true) {Q : Exit → Act → World → Prop} {K : Env → AH → Prop} : ∀ (fuel : Nat) (listed : Array Bool) (env : Env) (V : AH) (a : Act) (w : World) (S : Nat → Prop) (σ : Nat → Option Value) (H : AH), RepE n a w S σ env → Sat P w S σ H → V.le H →
    (nd = true → ∀ j, listed.getD j true = false → b + j < H.nx ∧ σ (b + j) = none) → B0 ≤ H.nx → (nd = true → B0 ≤ b) → (∀ a' w' S' σ' env' H', K env' H' → RepE n a' w' S' σ' env' → Sat P w' S' σ' H' → Ext w S σ H w' S' σ' H' → H.nx ≤ H'.nx → (∀ j, j < B0 → σ' j = σ j) → Q .normal a' w') →
    anyA P n b ops K fuel listed env V H → wpAny P .any ops Q fuel listed a w := by
  intro fuel
  induction fuel with
  | zero => intro listed env V a w S σ H hr hs _ _ _ _ hQ h; exact ⟨h.1, hQ a w S σ env H h.2 hr hs (.refl _ _ _ _) (Nat.le_refl _) (fun _ _ => rfl)⟩
  | succ fuel ih =>
    intro listed env V a w S σ H hr hs hle hres hB hBb hQ h
    refine ⟨fun h0 => hQ a w S σ env H (h.1 h0) hr hs (.refl _ _ _ _) (Nat.le_refl _) (fun _ _ => rfl), fun i hi => ?_⟩
    obtain ⟨hun, o, ho, _⟩ := mem_ready.1 hi
    have hnc : needC (cls P o.op) = true → needV P ops o.op = true := fun h => by simp [needV, h]
    have hrc : ∀ f xs, cls P o.op = .ca f xs → (freshW P ops o.op).isSome = true → needV P ops o.op = true := fun f xs h1 h2 => by
      unfold freshW at h2
      rw [h1] at h2
      dsimp only at h2
      unfold needV
      cases hr : rowC P ops o.op with
      | true => simp
      | false =>
        cases hr3 : lastC P ops o.op with
        | true => simp
        | false =>
          cases hr2 : wrC P ops o.op with
          | true => simp
          | false =>
            cases hr4 : keepC P ops o.op with
            | true => simp
            | false => rw [hr, hr2, hr3, hr4] at h2; cases h2
    have hid : needV P ops o.op = true → b + i < H.nx ∧ σ (b + i) = none := fun h => hres (hnd i o ho h) i hun
    have h1 := h.2 i hi
    have next : ∀ (a' : Act) (w' : World), AftV P (needV P ops o.op) n (b + i) w S σ H o.dst env (fun x V' H' => anyA P n b ops K fuel (listed.setIfInBounds i true) (setE n env o.dst x) V' H') a' w' → wpAny P .any ops Q fuel (listed.setIfInBounds i true) a' w' := by
      rintro a' w' ⟨x, V', H', S', σ', h1, h2, h3, h4, h5, h6, h7⟩
      refine ih _ _ V' a' w' S' σ' H' h3 h4 h2 (fun hn j hj => ?_) (by omega) hBb (fun a2 w2 S2 σ2 env2 H2 q1 q2 q3 q4 q5 q6 => hQ a2 w2 S2 σ2 env2 H2 q1 q2 q3 (h5.trans q4) (Nat.le_trans h6 q5) (fun j hj => (q6 j hj).trans (h7 j (fun hn => by have := hBb (hnd i o ho hn); omega) (by omega)))) h1
      have hij : i ≠ j := by
        rintro rfl
        rcases Nat.lt_or_ge i listed.size with h' | h'
        · simp [h'] at hj
        · simp [Array.getElem?_eq_none, h'] at hj
      rw [getD_set_ne true hij] at hj
      obtain ⟨g1, g2⟩ := hres hn j hj
      exact ⟨by omega, by rw [h7 _ (fun _ => by omega) g1]; exact g2⟩
    simp only [opV, ho] at h1
    simp only [wpOp, ho]
    unfold stepV at h1
    cases hg : o.guard with
    | none =>
      rw [hg] at h1
      rw [if_pos (by simp [Region.wanted, hg])]
      exact .inl (Oper.wp_mono next (coreV_wp hr hs hle hnc hrc hid h1))
    | some g =>
      obtain ⟨j, want⟩ := g
      rw [hg] at h1
      obtain ⟨c, hc, h1, h2⟩ := h1
      have hy := gv_yield hr hc
      by_cases hcw : c = some want
      · rw [if_pos (by simp [Region.wanted, hg, hy, hcw])]
        exact .inl (Oper.wp_mono next (coreV_wp hr hs hle hnc hrc hid (h1 hcw)))
      · rw [if_neg (by simp [Region.wanted, hg, hy, hcw])]
        exact next _ _ ⟨.tup [], V, H, S, σ, h2 hcw, hle, hr.put _ skip_rp, hs, .refl _ _ _ _, Nat.le_refl _, fun _ _ _ => rfl⟩
end
end Go.Proofs.Ytgkkilbeingleaa
