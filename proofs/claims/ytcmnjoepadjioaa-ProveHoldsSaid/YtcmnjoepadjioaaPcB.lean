/- The law ProveHolds, walked. -/
import Derived.Test.YtcmnjoepadjioaaPcA
import Derived.Test.YtcmnjoepadjioaaPl
import Derived.Test.YtcmnjoepadjioaaAwM
namespace Go.Proofs.Ytcmnjoepadjioaa
open Go.RowKit Go.Maps
def begP : List Clm := [⟨false, 1, 2⟩, ⟨true, 3, 1⟩]
def begC : Clm := ⟨true, 3, 2⟩
theorem beg_ok : okP begP [begC] = 0 := by decide
theorem beg_no : agB begP begC = false := by decide
theorem c_begun : PF Try.prog 10 [] (bv true) := fun H => tri_wf fun hw => tri_wordhoardlaw_proveBegun (by
  unfold S_wordhoardlaw_proveBegun
  simp (disch := first | omega | simp) [put_get_ne]
  refine ca_row (ps := []) (qs := [begC.av]) (es := begP.map Clm.cs) (by kernel_rfl) (put_get _ _) (dt_cs begP) rfl (c_Argue begP begC _) ?_
  rintro r H1 ⟨rfl, h⟩
  rcases h with ⟨h, _⟩ | ⟨_, _, out, rfl, _, _, hl, init, y, he, _⟩ | ⟨_, h, _⟩
  · exact absurd beg_ok h
  · have : 0 < out.length := by rw [he]; simp
    have h0 : (0 : Int) < (out.length : Int) := by omega
    simp (disch := first | omega | simp) [bv, iv, h0]
    exact rt_one hw (by repeat (first | exact AH.le.refl _ | assumption | apply AH.le.up | apply AH.le.put hw (by first | omega | (simp only [up_nx, put_nx, kill_nx]; done) | (simp only [up_nx, put_nx, kill_nx]; omega)) | apply AH.le.kill hw (by first | omega | (simp only [up_nx, put_nx, kill_nx]; done) | (simp only [up_nx, put_nx, kill_nx]; omega)))) (by repeat (first | exact Cl.p _ | exact Cl.dsl _ _ | exact Cl.any | refine Cl.tup ?_ | refine Cl.agg ?_ | exact Clo.nil | refine Clo.cons ?_ ?_)) ⟨rfl, by simp; omega⟩
  · rw [beg_no] at h; cases h)
theorem okW_in {xs : List Int} (h : okW xs = 0) : ∀ x ∈ xs, inWd x := by
  unfold okW at h
  split at h
  · cases h
  · split at h
    · rename_i h2; intro x hx; simpa using (List.all_eq_true.1 h2) x hx
    · cases h
theorem c_ProveHolds (xs : List Int) (c : Clm) (H : AH) : Tri Try.prog 3 [wE xs, c.av] H (fun r _ => r = .p (.bool true)) := tri_wf fun hw => tri_wordhoardlaw_ProveHolds (by
  unfold S_wordhoardlaw_ProveHolds
  simp (disch := first | omega | simp) [put_get_ne, Clm.av, Clm.cs]
  refine ca_pure (by kernel_rfl) (c_Holds xs c _) ?_
  simp
  refine ca_pure (by kernel_rfl) (c_RCheckWorld xs _) ?_
  refine cut_st (fun e : Int => [iv e]) (fun e H' => e = (if okW xs = 0 then (if c.ok then 0 else 3) else okW xs) ∧ H'.get H.nx = some (.box 24 c.cs)) (fun k hk => ?_) ?_
  · by_cases h0 : okW xs = 0
    · simp (disch := first | omega | simp) [iv, h0, Clm.cs]
      refine ca_pure (by kernel_rfl) (c_RCheckClaim c _) ?_
      exact hk _ _ _ _ (.refl (by first | omega | (simp only [up_nx, put_nx, kill_nx]; done) | (simp only [up_nx, put_nx, kill_nx]; omega))) ⟨by rw [if_pos h0], by rw [put_get]; rfl⟩
    · simp (disch := first | omega | simp) [iv, h0, Clm.cs]
      exact hk _ _ _ _ (.refl (by first | omega | (simp only [up_nx, put_nx, kill_nx]; done) | (simp only [up_nx, put_nx, kill_nx]; omega))) ⟨by rw [if_neg h0], by rw [put_get]; rfl⟩
  · rintro e H1 hn ⟨rfl, hb⟩
    simp only [up_nx, put_nx] at hn
    unfold Clm.cs at hb
    simp
    refine cav_pure (by kernel_rfl) (fun H2 _ => c_begun H2) ?_
    simp (disch := first | omega | simp) [bv, hb]
    refine cav_pure (by kernel_rfl) (fun H2 _ => c_Check c H2) ?_
    simp (disch := first | omega | simp) [bv, hb]
    refine cav_pure (by kernel_rfl) (fun H2 _ => c_RCheckClaim c H2) ?_
    by_cases h0 : okW xs = 0
    · by_cases h1 : c.ok
      · simp (disch := first | omega | simp) [bv, iv, hb, h0, h1]
        refine cav_pure (by kernel_rfl) (fun H2 _ => c_RHoldsIn (okW_in h0) h1 H2) ?_
        simp (disch := first | omega | simp) [bv, iv]
        exact rt_refl rfl (by first | omega | (simp only [up_nx, put_nx, kill_nx]; done) | (simp only [up_nx, put_nx, kill_nx]; omega))
      · simp (disch := first | omega | simp) [bv, iv, hb, h0, h1]
        exact rt_refl rfl (by first | omega | (simp only [up_nx, put_nx, kill_nx]; done) | (simp only [up_nx, put_nx, kill_nx]; omega))
    · simp (disch := first | omega | simp) [bv, iv, hb, h0]
      exact rt_refl rfl (by first | omega | (simp only [up_nx, put_nx, kill_nx]; done) | (simp only [up_nx, put_nx, kill_nx]; omega)))
end Go.Proofs.Ytcmnjoepadjioaa
