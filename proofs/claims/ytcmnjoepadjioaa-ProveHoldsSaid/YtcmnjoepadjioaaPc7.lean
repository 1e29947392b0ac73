/- A copy of a slice of numbers. -/
import Derived.Test.YtcmnjoepadjioaaPc6
namespace Go.Proofs.Ytcmnjoepadjioaa
open Go.RowKit Go.Maps
section
variable {P : Program}
/-- an empty slice, told by its value -/
theorem tri_empty {f : FuncId} {ps : List AV} {H : AH} {Q : AV → AH → Prop} (i sz : Nat) (hi : ps[i]? = some (.dsl sz [])) (h : ∀ A c, c ≤ maxLen → Tri P f (ps.set i (.p (.slice A 0 c))) H Q) : Tri P f ps H Q := fun w S σ us hs hr => by
  obtain ⟨v, hv, hrv⟩ := hr.at_ hi
  obtain ⟨A, c, z, rfl, h1, h2, _⟩ := hrv.dsl_inv.dsl_inv
  refine h A c (by omega) w S σ us hs ⟨by rw [List.length_set]; exact hr.1, fun j b u hb hu => ?_⟩
  by_cases e : i = j
  · subst e
    rw [List.getElem?_set_self (List.getElem?_eq_some_iff.1 hi).1] at hb
    injection hb with hb; subst hb
    rw [hv] at hu; injection hu with hu; subst hu
    exact .data _ _ (.p _ rfl)
  · rw [List.getElem?_set_ne e] at hb; exact hr.2 j b u hb hu
end
def intE (l : List Int) : List (List AV) := l.map fun i => [iv i]
theorem dt_ints (l : List Int) : DtR (intE l) := fun e he x hx => by
  obtain ⟨i, _, rfl⟩ := List.mem_map.1 he
  simp only [List.mem_singleton] at hx
  subst hx; exact Dt.p _
theorem c_Clone {H : AH} (l : List Int) (hb : l.length * 8 ≤ 140737488355328) : Tri Try.prog 43 [.dsl 1 (intE l)] H (fun v H' => Grows 3 1 H H' v (intE l) ∧ H.le H' ∧ H.nx ≤ H'.nx) := tri_wf fun hw => by
  have hml : maxLen = 9223372036854775807 := by decide
  have hu : ∃ e, Try.prog.underlying 22 = some (.slice e) := ⟨3, by kernel_rfl⟩
  cases l with
  | nil =>
    refine tri_empty 0 1 rfl fun A c hc => tri_slices_Clone_s_int_int ?_
    unfold S_slices_Clone_s_int_int
    cases A with
    | none =>
      simp [hu]
      exact rt_refl ⟨.nil _ _ _ _, .refl _, Nat.le_refl _⟩ (Nat.le_refl _)
    | some b =>
      simp [hu]
      exact rt_refl ⟨.row (by first | omega | (simp only [up_nx, put_nx, kill_nx]; done) | (simp only [up_nx, put_nx, kill_nx]; omega)) (by first | omega | (simp only [up_nx, put_nx, kill_nx]; done) | (simp only [up_nx, put_nx, kill_nx]; omega)) (put_get _ _) (fun e he => by cases he) rfl, (by repeat (first | exact AH.le.refl _ | assumption | apply AH.le.up | apply AH.le.put hw (by first | omega | (simp only [up_nx, put_nx, kill_nx]; done) | (simp only [up_nx, put_nx, kill_nx]; omega)) | apply AH.le.kill hw (by first | omega | (simp only [up_nx, put_nx, kill_nx]; done) | (simp only [up_nx, put_nx, kill_nx]; omega)))), (by first | omega | (simp only [up_nx, put_nx, kill_nx]; done) | (simp only [up_nx, put_nx, kill_nx]; omega))⟩ (by first | omega | (simp only [up_nx, put_nx, kill_nx]; done) | (simp only [up_nx, put_nx, kill_nx]; omega))
  | cons x xs =>
    refine tri_slices_Clone_s_int_int ?_
    unfold S_slices_Clone_s_int_int
    have hpos : 0 < (intE (x :: xs)).length := by simp [intE]
    have hlen : (intE (x :: xs)).length = (x :: xs).length := by simp [intE]
    have hdt := dt_ints (x :: xs)
    generalize intE (x :: xs) = ys at *
    simp [hu]
    exact ⟨hpos, by omega, by omega, rt_refl ⟨.row (by first | omega | (simp only [up_nx, put_nx, kill_nx]; done) | (simp only [up_nx, put_nx, kill_nx]; omega)) (by first | omega | (simp only [up_nx, put_nx, kill_nx]; done) | (simp only [up_nx, put_nx, kill_nx]; omega)) (put_get _ _) hdt rfl, (by repeat (first | exact AH.le.refl _ | assumption | apply AH.le.up | apply AH.le.put hw (by first | omega | (simp only [up_nx, put_nx, kill_nx]; done) | (simp only [up_nx, put_nx, kill_nx]; omega)) | apply AH.le.kill hw (by first | omega | (simp only [up_nx, put_nx, kill_nx]; done) | (simp only [up_nx, put_nx, kill_nx]; omega)))), (by first | omega | (simp only [up_nx, put_nx, kill_nx]; done) | (simp only [up_nx, put_nx, kill_nx]; omega))⟩ (by first | omega | (simp only [up_nx, put_nx, kill_nx]; done) | (simp only [up_nx, put_nx, kill_nx]; omega))⟩
end Go.Proofs.Ytcmnjoepadjioaa
