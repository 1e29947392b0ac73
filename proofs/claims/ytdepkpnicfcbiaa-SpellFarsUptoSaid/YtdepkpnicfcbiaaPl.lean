/- A region that draws its order, and ends in an operation that waits for all the others: that one is set apart. -/
import Derived.Test.YtdepkpnicfcbiaaRo
import Derived.Deep.RegionHeld3
import Derived.BigQuiet
import Derived.StillTailTactics
import Derived.Deep.DeepCutAuto
import Derived.Deep.CutBlock
import Derived.OrdersHeld
import Derived.RegionTactic
namespace Go.Proofs.Ytdepkpnicfcbiaa
open Go

section
variable {P : Program} {ops ops' : Array Oper} {Q : Exit → Act → World → Prop} {md : Region.Mode} {n : Nat}

/-- behind all but the last: the last leads to the post -/
def peelQ (P : Program) (ops : Array Oper) (Q : Exit → Act → World → Prop) (n : Nat) : Exit → Act → World → Prop
  | .normal, a, w => wpOp P ops Q n (Q .normal) a w
  | e, a, w => Q e a w

theorem peelQ_step {o : Oper} {a : Act} {w : World} (ho : ops[n]? = some o)
    (h : ∀ K' : Act → World → Prop, (∀ a w, Q .normal a w → K' a w) → if Region.wanted o (yielded ops a.tmps) = true then Oper.wp P o a w K' Q else K' (a.put o.dst undef) w) : peelQ P ops Q n .normal a w := wpOp_step ho h

theorem oper_peel {o : Oper} {a : Act} {w : World} {K : Act → World → Prop} (h : o.wp P a w K (peelQ P ops Q n)) : o.wp P a w K Q := by
  unfold Oper.wp at *
  generalize (execOp a.eval o).run P w = r at *
  cases r with
  | ok x w' =>
    cases x <;> simp only [Oper.upon] at h ⊢ <;> first | exact h | exact Calls.mono h (fun e w'' he => by cases e <;> exact he)
  | halt x w' => cases x <;> simp only [Oper.upon] at h ⊢ <;> exact h

theorem wpOp_peel {j : Nat} {a : Act} {w : World} {K : Act → World → Prop} (hj : ops'[j]? = ops[j]?) (hg : ∀ o, ops[j]? = some o → o.guard = none) (h : wpOp P ops' (peelQ P ops Q n) j K a w) : wpOp P ops Q j K a w := by
  unfold wpOp at *
  rw [hj] at h
  cases ho : ops[j]? with
  | none => rw [ho] at h; exact h
  | some o =>
    rw [ho] at h
    have hw : ∀ f, Region.wanted o f = true := fun f => by simp [Region.wanted, hg o ho]
    simp only [hw, if_true] at h ⊢
    exact h.imp oper_peel id

structure Peel (md : Region.Mode) (ops ops' : Array Oper) (n : Nat) : Prop where
  size : ops.size = n + 1
  size' : ops'.size = n
  same : ∀ j : Nat, j < n → ops'[j]? = ops[j]?
  plain : ∀ (j : Nat) (o : Oper), ops[j]? = some o → o.guard = none
  back : ∀ (j : Nat) (o : Oper), ops[j]? = some o → ∀ e ∈ o.after, e.on < j
  last : ∀ (o : Oper), ops[n]? = some o → ∀ j, j < n → ∃ e ∈ o.after, Region.binds md e = true ∧ e.on = j

theorem Peel.rest (hp : Peel md ops ops' n) {listed : Array Bool} (hl : listed.size = n) (h : Region.ready md ops' listed = []) : ∀ j, j < n → listed.getD j true = true := by
  intro j
  induction j using Nat.strongRecOn with
  | ind j ih =>
    intro hj
    cases hc : listed.getD j true with
    | true => rfl
    | false =>
      exfalso
      have hs : j < ops'.size := by rw [hp.size']; exact hj
      have : j ∈ Region.ready md ops' listed := mem_ready.2 ⟨hc, ops'[j], Array.getElem?_eq_getElem hs, fun e he hb => by
        have h1 : ops[j]? = some ops'[j] := by rw [← hp.same j hj]; exact Array.getElem?_eq_getElem hs
        have h2 := hp.back j _ h1 e he
        have h3 := ih e.on h2 (by omega)
        have hlt : e.on < listed.size := by omega
        simp [hlt] at h3 ⊢; exact h3⟩
      rw [h] at this; cases this

theorem wpAny_peel (hp : Peel md ops ops' n) : ∀ (fuel : Nat) (listed listed' : Array Bool) (a : Act) (w : World), listed.size = n + 1 → listed'.size = n → (∀ j, j < n → listed.getD j true = listed'.getD j true) → listed.getD n true = false →
    wpAny P md ops' (peelQ P ops Q n) fuel listed' a w → wpAny P md ops Q (fuel + 1) listed a w := by
  have hrd : ∀ (listed listed' : Array Bool), listed.size = n + 1 → listed'.size = n → (∀ j, j < n → listed.getD j true = listed'.getD j true) → ∀ j, j < n → j ∈ Region.ready md ops listed → j ∈ Region.ready md ops' listed' := by
    intro listed listed' hl hl' he j hj hr
    obtain ⟨h0, o, ho, hall⟩ := mem_ready.1 hr
    refine mem_ready.2 ⟨by rw [← he j hj]; exact h0, o, by rw [hp.same j hj]; exact ho, fun e hem hb => ?_⟩
    have h2 := hp.back j o ho e hem
    have h3 := hall e hem hb
    have h4 := he e.on (by omega)
    have hlt : e.on < listed.size := by omega
    have hlt' : e.on < listed'.size := by omega
    simp [hlt, hlt'] at h3 h4 ⊢
    rw [← h4]; exact h3
  have hfull : ∀ (listed listed' : Array Bool), listed.size = n + 1 → listed'.size = n → (∀ j, j < n → listed.getD j true = listed'.getD j true) → (∀ j, j < n → listed'.getD j true = true) → Region.ready md ops (listed.setIfInBounds n true) = [] := by
    intro listed listed' hl hl' he hall
    refine List.eq_nil_iff_forall_not_mem.2 fun j hj => ?_
    obtain ⟨h0, o, ho, _⟩ := mem_ready.1 hj
    have hjs : j < n + 1 := by rw [← hp.size]; exact (Array.getElem?_eq_some_iff.1 ho).1
    by_cases hjn : j = n
    · subst hjn; simp [hl] at h0
    · rw [getD_set_ne true (fun h => hjn h.symm), he j (by omega), hall j (by omega)] at h0; cases h0
  have hlastr : ∀ (listed listed' : Array Bool), listed.size = n + 1 → listed'.size = n → (∀ j, j < n → listed.getD j true = listed'.getD j true) → n ∈ Region.ready md ops listed → ∀ j, j < n → listed'.getD j true = true := by
    intro listed listed' hl hl' he hr j hj
    obtain ⟨h0, o, ho, hall⟩ := mem_ready.1 hr
    obtain ⟨e, hem, hb, heq⟩ := hp.last o ho j hj
    have h3 := hall e hem hb
    rw [heq] at h3
    rw [← he j hj]
    have hlt : j < listed.size := by omega
    simp [hlt] at h3 ⊢; exact h3
  have hnready : ∀ (listed listed' : Array Bool), listed.size = n + 1 → listed'.size = n → (∀ j, j < n → listed.getD j true = listed'.getD j true) → listed.getD n true = false → (∀ j, j < n → listed'.getD j true = true) → n ∈ Region.ready md ops listed := by
    intro listed listed' hl hl' he h0 hall
    have hs : n < ops.size := by rw [hp.size]; omega
    refine mem_ready.2 ⟨h0, ops[n], Array.getElem?_eq_getElem hs, fun e hem hb => ?_⟩
    have h2 := hp.back n _ (Array.getElem?_eq_getElem hs) e hem
    have h3 := hall e.on h2
    rw [← he e.on h2] at h3
    have hlt : e.on < listed.size := by omega
    simp [hlt] at h3 ⊢; exact h3
  intro fuel
  induction fuel with
  | zero =>
    intro listed listed' a w hl hl' he h0 h
    have hall := hp.rest hl' h.1
    refine ⟨fun hr => ?_, fun i hi => ?_⟩
    · have := hnready listed listed' hl hl' he h0 hall
      rw [hr] at this; cases this
    · by_cases hin : i = n
      · subst hin
        exact wpOp_mono (fun a' w' hq => ⟨hfull listed listed' hl hl' he hall, hq⟩) h.2
      · have hlt : i < n := by
          obtain ⟨_, o, ho, _⟩ := mem_ready.1 hi
          have := (Array.getElem?_eq_some_iff.1 ho).1; rw [hp.size] at this; omega
        have := hrd listed listed' hl hl' he i hlt hi
        rw [h.1] at this; cases this
  | succ fuel ih =>
    intro listed listed' a w hl hl' he h0 h
    refine ⟨fun hr => ?_, fun i hi => ?_⟩
    · by_cases hr' : Region.ready md ops' listed' = []
      · have := hnready listed listed' hl hl' he h0 (hp.rest hl' hr')
        rw [hr] at this; cases this
      · exfalso
        obtain ⟨j, hj⟩ := List.exists_mem_of_ne_nil _ hr'
        obtain ⟨g0, o, ho, hall⟩ := mem_ready.1 hj
        have hjn : j < n := by rw [← hp.size']; exact (Array.getElem?_eq_some_iff.1 ho).1
        have : j ∈ Region.ready md ops listed := mem_ready.2 ⟨by rw [he j hjn]; exact g0, o, by rw [← hp.same j hjn]; exact ho, fun e hem hb => by
          have h2 := hp.back j o (by rw [← hp.same j hjn]; exact ho) e hem
          have h3 := hall e hem hb
          have h4 := he e.on (by omega)
          have hlt : e.on < listed.size := by omega
          have hlt' : e.on < listed'.size := by omega
          simp [hlt, hlt'] at h3 h4 ⊢
          rw [h4]; exact h3⟩
        rw [hr] at this; cases this
    · by_cases hin : i = n
      · subst hin
        have hall := hlastr listed listed' hl hl' he hi
        have hr' : Region.ready md ops' listed' = [] := List.eq_nil_iff_forall_not_mem.2 fun j hj => by
          obtain ⟨g0, o, ho, _⟩ := mem_ready.1 hj
          have hjn : j < i := by rw [← hp.size']; exact (Array.getElem?_eq_some_iff.1 ho).1
          rw [hall j hjn] at g0; cases g0
        exact wpOp_mono (fun a' w' hq => ⟨fun _ => hq, by rw [hfull listed listed' hl hl' he hall]; simp⟩) (h.1 hr')
      · have hlt : i < n := by
          obtain ⟨_, o, ho, _⟩ := mem_ready.1 hi
          have := (Array.getElem?_eq_some_iff.1 ho).1; rw [hp.size] at this; omega
        have hi' := hrd listed listed' hl hl' he i hlt hi
        refine wpOp_peel (hp.same i hlt) (fun o ho => hp.plain i o ho) (wpOp_mono (fun a' w' hq => ih _ _ a' w' (by simpa using hl) (by simpa using hl') (fun j hj => ?_) ?_ hq) (h.2 i hi'))
        · by_cases hij : i = j
          · subst hij
            have h1 : i < listed.size := by omega
            have h2 : i < listed'.size := by omega
            simp [h1, h2]
          · rw [getD_set_ne true hij, getD_set_ne true hij]; exact he j hj
        · rw [getD_set_ne true hin]; exact h0

/-- the region, from all but its last operation -/
theorem wp_region_peel {id : Nat} {a : Act} {w : World} (hp : Peel .any ops ops' n) (hm : P.follows .mixedOrders = true) (h : wpAny P .any ops' (peelQ P ops Q n) n (Array.replicate n false) a w.drew) : (Code.region id ops true).wp P Q a w := by
  refine wp_region_any hm ?_
  rw [hp.size]
  exact wpAny_peel hp n _ _ a _ (by simp) (by simp) (fun j hj => by simp [hj, Nat.lt_succ_of_lt hj]) (by simp) h
def peelB (md : Region.Mode) (ops : Array Oper) (n : Nat) : Bool :=
  ops.size == n + 1 && (List.range (n + 1)).all fun j => match ops[j]? with
    | some o => o.guard.isNone && o.after.all (fun e => decide (e.on < j)) && (j != n || (List.range n).all fun i => o.after.any fun e => Region.binds md e && e.on == i)
    | none => false
theorem peel_of {md : Region.Mode} {ops : Array Oper} {n : Nat} (h : peelB md ops n = true) : Peel md ops ops.pop n := by
  unfold peelB at h
  rw [Bool.and_eq_true, List.all_eq_true] at h
  obtain ⟨h1, h2⟩ := h
  have hs : ops.size = n + 1 := by simpa using h1
  have key : ∀ (j : Nat) (o : Oper), ops[j]? = some o → o.guard = none ∧ (∀ e ∈ o.after, e.on < j) ∧ (j = n → ∀ i, i < n → ∃ e ∈ o.after, Region.binds md e = true ∧ e.on = i) := by
    intro j o ho
    have hj : j < n + 1 := by rw [← hs]; exact (Array.getElem?_eq_some_iff.1 ho).1
    have := h2 j (List.mem_range.2 hj)
    rw [ho] at this
    simp only [Bool.and_eq_true, Option.isNone_iff_eq_none, Array.all_eq_true_iff_forall_mem, decide_eq_true_eq, Bool.or_eq_true, bne_iff_ne, ne_eq, List.all_eq_true, List.mem_range] at this
    refine ⟨this.1.1, fun e he => this.1.2 e he, fun hjn i hi => ?_⟩
    rcases this.2 with h | h
    · exact absurd hjn h
    · obtain ⟨m, hm, hx⟩ := Array.any_eq_true.1 (h i hi)
      simp only [Bool.and_eq_true, beq_iff_eq] at hx
      exact ⟨_, Array.getElem_mem hm, hx.1, hx.2⟩
  exact ⟨hs, by simp [hs], fun j hj => by simp [Array.getElem?_pop, hs]; omega, fun j o ho => (key j o ho).1, fun j o ho => (key j o ho).2.1, fun o ho => (key n o ho).2.2 rfl⟩
end
section
variable {P : Program} {ops : Array Oper} {Q : Exit → Act → World → Prop} {md : Region.Mode} {S : World → Prop}
/-- as wpAnyH_take, with the place where the value goes written out -/
theorem takeD {i : Nat} (d : Option Tmp) {oi : Oper} {v : Value} {fuel : Nat} {listed : Array Bool} {a : Act} {w : World} (hi : ops[i]? = some oi) (hd : oi.dst = d)
    (hs : Region.noSelect ops = true) (hf : Region.free md ops listed i = true) (hr : (Region.ready md ops listed).contains i = true)
    (hQ : ∀ c a w, Q (.panic c) (a.put oi.dst v) w → Q (.panic c) a w) (hy : YieldsIf P ops S oi v a) (hS : S w)
    (h : wpAnyH P md ops Q S fuel (listed.setIfInBounds i true) (a.put d v) w) : wpAnyH P md ops Q S (fuel + 1) listed a w := by
  subst hd; exact wpAnyH_take hi hs hf hr hQ hy hS h
end
end Go.Proofs.Ytdepkpnicfcbiaa
