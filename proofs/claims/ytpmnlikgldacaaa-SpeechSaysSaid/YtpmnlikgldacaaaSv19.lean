/- The law SpeechSays holds: whatever comes in, the call returns true and its arguments read as they did. No condition. -/
import Derived.Test.YtpmnlikgldacaaaSv18
import Derived.JoinedOf
import Derived.JoinedAt

/- Which parts words must be: the statement's walk. -/
namespace Go.Proofs.Ytpmnlikgldacaaa
open Go.RowKit Go.Maps
theorem nI_at {l : List Int} {i : Nat} {x : Int} (h : l[i]? = some x) : (nI l)[i]? = some [iv x] := by rw [nI, List.getElem?_map, h]; rfl
theorem nI_acc {H : AH} {a : AV} {l : List Int} (h : elF H 1 a = some (nI l)) {i : Nat} {x : Int} (hx : l[i]? = some x) : ∃ q : Nat → AV, (∀ (P : Program) (kd : IntKind) (k : AV → AH → Prop) (H' : AH), Pu P (.idx 1) [a, .p (.int kd (i : Int))] k H' = k (q 0) H') ∧ atF H (q 0) = some [iv x] := by
  obtain ⟨q, q1, q2, q3⟩ := elF_acc (by decide) h (nI_at hx)
  exact ⟨q, q1, q3 0⟩
theorem c_SameI {H : AH} {a b : AV} (l : List Int) (ha : elF H 1 a = some (nI l)) (hb : elF H 1 b = some (nI l)) (hl : l.length ≤ 1000000000) : Tri Try.prog 18 [a, b] H (fun v H' => H' = H ∧ v = bv true) := tri_wf fun hw => tri_wordhoardref_Same (by
  have la : ∀ (k : AV → AH → Prop) (H' : AH), Pu Try.prog .len [a] k H' = k (.p (.int .i64 (l.length : Int))) H' := fun k H' => by rw [elF_len ha, nI, List.length_map]
  have lb : ∀ (k : AV → AH → Prop) (H' : AH), Pu Try.prog .len [b] k H' = k (.p (.int .i64 (l.length : Int))) H' := fun k H' => by rw [elF_len hb, nI, List.length_map]
  unfold S_wordhoardref_Same
  simp [la, lb, iv]
  refine loop_st (fun i : Nat => [iv i]) (fun i H' => H = H' ∧ i ≤ l.length) (fun i => l.length - i) 0 (.refl (Nat.le_refl _)) ⟨rfl, Nat.zero_le _⟩ ?_
  rintro i _ hn ⟨rfl, hi⟩ k hk
  unfold S_wordhoardref_Same_L1
  by_cases hil : i < l.length
  · obtain ⟨x, hx⟩ : ∃ x, l[i]? = some x := ⟨_, List.getElem?_eq_getElem hil⟩
    obtain ⟨q, q1, q3⟩ := nI_acc ha hx
    obtain ⟨z, z1, z3⟩ := nI_acc hb hx
    have hiv := ivn (i := i) (by omega)
    simp (disch := first | omega | simp) [la, iv, hil, q1, q3, z1, z3, hiv]
    exact hk (i + 1) _ _ _ (.refl (Nat.le_refl _)) ⟨rfl, hil⟩ (by omega)
  · have : i = l.length := by omega
    subst this
    simp (disch := first | omega | simp) [la, iv]
    exact rt_refl ⟨rfl, rfl⟩ (Nat.le_refl _))
set_option maxHeartbeats 1000000 in
theorem w_SpeechSays (ws : List (List Ty)) (g : Ty) : PF Try.prog 4 [.dsl 1 (wE ws), g.av] (bv true) := fun H => tri_wf fun hw => tri_wordhoardlaw_SpeechSays (by
  have hgav : g.av = .agg g.cs := rfl
  unfold S_wordhoardlaw_SpeechSays
  rw [hgav]
  simp (disch := first | omega | simp) [Ty.cs_len, Ty.cs_take, put_get_ne]
  refine ca_pure (by kernel_rfl) (c_Says ws g _) ?_
  by_cases h0 : asksW ws g = 0
  · have ok := asksW_ok h0
    have hv : saysR ws g = .tup [tryR [] (sayP ws g ws.length []), bv (sayP ws g ws.length []).isSome, iv 0] := by unfold saysR; rw [if_pos h0]
    rw [hv]
    simp (disch := first | omega | simp) [Ty.cs_len, Ty.cs_take, put_get_ne]
    refine ca_pure (by kernel_rfl) (c_RAsksWords ws g _) ?_
    rw [h0]
    simp (disch := first | omega | simp) [iv, Ty.cs_len, Ty.cs_take, put_get_ne]
    refine ca_wf (by kernel_rfl) (Tri.args (.cons (.refl _) (.cons (.refl _) (.cons (Sub.nil 3 0 (Nat.zero_le _)) .nil))) (c_RSays ok ws.length [] _ (.nil ws) (by simp))) fun v H4 hw4 hq => ?_
    obtain ⟨hl4, hn4, hm⟩ := hq
    refine ca_pure (by kernel_rfl) (c_begun _) ?_
    have hl : H.le H4 := AH.le.trans (by repeat (first | with_reducible assumption | with_reducible exact AH.le.refl _ | with_reducible apply AH.le.up | (with_reducible refine AH.le.put hw ?_ ?_; · first | omega | (simp only [up_nx, put_nx, kill_nx]; done) | (simp only [up_nx, put_nx, kill_nx]; omega)) | (with_reducible refine AH.le.kill hw ?_ ?_; · first | omega | (simp only [up_nx, put_nx, kill_nx]; done) | (simp only [up_nx, put_nx, kill_nx]; omega)))) hl4
    cases hsy : sayP ws g ws.length [] with
    | none =>
      rw [hsy] at hm
      have hm : v = .p (.slice none 0 0) := hm
      subst hm
      simp (disch := first | omega | simp) [bv, iv, tryR]
      refine ca_of (by kernel_rfl) (c_SameI [] (by simp [nI]) (by simp [nI]) (by simp)) ?_
      rintro _ _ ⟨rfl, rfl⟩
      simp (disch := first | omega | simp) [bv]
      exact rt_one hw hl (by repeat (first | exact Cl.p _ | exact Cl.dsl _ _ | exact Cl.any | refine Cl.tup ?_ | refine Cl.agg ?_ | exact Clo.nil | refine Clo.cons ?_ ?_)) ⟨rfl, rfl⟩
    | some r =>
      have hrl := sayP_len ws g _ _ _ hsy
      have hlen := ok.len
      cases r with
      | nil => simp at hrl; omega
      | cons x r =>
        rw [hsy] at hm
        have hm : Grows 3 1 _ H4 v (nI (x :: r)) := hm
        have hnl : (nI (x :: r)).length = r.length + 1 := by unfold nI; rw [List.length_map, List.length_cons]
        obtain ⟨q, xs, hsh, _⟩ := hm.at_ (by omega)
        have hne : ∀ (k : AV → AH → Prop) (H' : AH), Pu Try.prog (.bin .neq 37) [v, .p (.slice none 0 0)] k H' = k (bv true) H' := fun k H' => by rw [hsh]; simp [bv, hnl]
        simp (disch := first | omega | simp) [bv, iv, tryR, hne]
        refine ca_of (by kernel_rfl) (c_SameI (x :: r) (elF_dsl _ _) hm.el (by omega)) ?_
        rintro _ _ ⟨rfl, rfl⟩
        simp (disch := first | omega | simp) [bv]
        exact rt_one hw hl (by repeat (first | exact Cl.p _ | exact Cl.dsl _ _ | exact Cl.any | refine Cl.tup ?_ | refine Cl.agg ?_ | exact Clo.nil | refine Clo.cons ?_ ?_)) ⟨rfl, rfl⟩
  · have hv := saysR_no rfl h0
    rw [hv]
    simp (disch := first | omega | simp) [Ty.cs_len, Ty.cs_take, put_get_ne]
    refine ca_pure (by kernel_rfl) (c_RAsksWords ws g _) ?_
    simp (disch := first | omega | simp) [iv, h0]
    refine ca_pure (by kernel_rfl) (c_begun _) ?_
    simp (disch := first | omega | simp) [bv, iv]
    refine ca_of (by kernel_rfl) (c_SameI [] (by simp [nI]) (by simp [nI]) (by simp)) ?_
    rintro _ _ ⟨rfl, rfl⟩
    simp (disch := first | omega | simp) [bv]
    exact rt_one hw (by repeat (first | with_reducible assumption | with_reducible exact AH.le.refl _ | with_reducible apply AH.le.up | (with_reducible refine AH.le.put hw ?_ ?_; · first | omega | (simp only [up_nx, put_nx, kill_nx]; done) | (simp only [up_nx, put_nx, kill_nx]; omega)) | (with_reducible refine AH.le.kill hw ?_ ?_; · first | omega | (simp only [up_nx, put_nx, kill_nx]; done) | (simp only [up_nx, put_nx, kill_nx]; omega)))) (by repeat (first | exact Cl.p _ | exact Cl.dsl _ _ | exact Cl.any | refine Cl.tup ?_ | refine Cl.agg ?_ | exact Clo.nil | refine Clo.cons ?_ ?_)) ⟨rfl, rfl⟩)
theorem avs_parts : AvsG (rList rTy) (List.map id) (fun zs => [.dsl 3 (zs.map Ty.cs)]) (fun zs => ∀ z ∈ zs, True) := avs_ty.list (by decide)
set_option maxRecDepth 100000 in
theorem opens_words : Opens Try.prog 36 (rList (rList rTy)) := opens_slice Try.underlying36 rfl (by decide) opens_parts
end Go.Proofs.Ytpmnlikgldacaaa

namespace Go.Proofs.Ytpmnlikgldacaaa.speechSays
open Go.ChangeShapes Go.WideShapes Go.ChangeAt Go.RowKit
open Go.ChangeMaps (open_string shut_string)

set_option maxRecDepth 100000 in
theorem contract (H : Type) (enc : TypeId × Value → H) (W : World) (base : Nat) (args : Array Value) (ds gs : List (DataW H)) (before : List MemPlace)
    (hval : ∀ (j : Nat) t v, Try.f4.params[j]? = some t → args[j]? = some v → Value.okWide Try.prog W .any base t v)
    (hW : DataW.Whole enc Try.prog Try.f4.params.toList Rows.speechSaysSpec.vars false W args.toList ds gs before) :
    Calls Try.prog 4 args W fun e W' => ∃ v, e = .returned v ∧ Rows.speechSaysSpec.post enc Try.prog Try.f4 false true false false W args v W' := by
  have hW' := hW
  obtain ⟨p, q, hA0, hV, rfl, hfz, hnd⟩ := hW
  have hA : DataW.TrodAll enc Try.prog W 0 (fun _ => true) true Try.f4.params.toList args.toList ds p := hA0
  rw [Try.params4] at hA hval
  obtain ⟨v0, v1, d0, d1, p0, p1, rfl, rfl, rfl, h0, h1⟩ := trodAll_two hA
  obtain ⟨rfl, rfl⟩ := trodVars_none hV
  obtain ⟨A0, c0, x0, rfl, hs0, hb0⟩ := arg_slice opens_words Try.underlying36 (hval 0 36 v0 rfl rfl) h0
  obtain ⟨cs1, x1, rfl, hs1, hb1⟩ := arg_struct opens_ty Try.underlying24 (hval 1 24 v1 rfl rfl) h1
  obtain ⟨k0, r0⟩ := (avs_parts).sl (by decide) (σ' := fun _ => none) hs0
  obtain ⟨k1, r1⟩ := (avs_ty).agg (σ' := fun _ => none) hs1
  refine (law_calls (us := [.slice A0 x0.length c0, .agg cs1]) (law_pf (w_SpeechSays (x0.map (List.map id)) x1)) (.cons r0 (.cons r1 .nil))).mono fun e W' ⟨he, hg⟩ => ?_
  subst he
  exact ⟨_, rfl, post_true rfl Try.underlying4 rfl laidOut (by kernel_rfl) hW' rfl hg⟩

set_option maxRecDepth 100000 in
theorem lifted (os : Os) (started : os.Started) (H : Type) (enc : TypeId × Value → H) :
    ReturnsInHanded {} Try.checked os 4 .any (Rows.speechSaysSpec.pre6 enc Try.prog Try.f4 Rows.speechSaysRow.domain false) (Rows.speechSaysSpec.post enc Try.prog Try.f4 false true false false) := by
  refine returnsInHanded_of_change (C := Try.checked) own started (by kernel_rfl) Try.func4
    (ChangeSpec.witness6 (enc := enc) (C := Try.checked) false ⟨#[], #[.slice none 0 0, .agg #[.int .i64 0,.int .i64 0,.slice none 0 0]], []⟩ 8 (by kernel_rfl) (by kernel_rfl) (by kernel_rfl) (by kernel_rfl)) ?_
  intro W base args ds gs before hval hW _ _
  exact contract H enc W base args ds gs before hval hW

theorem proved : Rows.SpeechSaysSaid :=
  OpenClaim.holds_of_wide 4 Try.f4 rfl rfl rfl rfl rfl rfl rfl ⟨rfl, rfl, rfl, rfl, rfl⟩ rfl rfl rfl rfl rfl (by kernel_rfl) Try.func4 (by kernel_rfl)
    (of_decide_eq_true (by kernel_rfl)) (by unfold Func.isWrapper; first | (rw [if_pos (by decide +kernel)]; kernel_rfl) | (rw [if_neg (by decide +kernel)]; exact ⟨rfl, rfl⟩))
    (fun os started H enc _ => lifted os started H enc)
end Go.Proofs.Ytpmnlikgldacaaa.speechSays
