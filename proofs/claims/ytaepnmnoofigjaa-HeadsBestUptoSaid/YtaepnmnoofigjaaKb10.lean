/- Texts that the proof rests on, part 10: what each holds stands at its head. -/
import Derived.Test.YtaepnmnoofigjaaKb9

/- Abstract walks of functions, written by a program (wip/aw/aw.py): each equation is checked by the kernel. -/
namespace Go.Proofs.Ytaepnmnoofigjaa
open Go.RowKit

/-! wordhoard/wordhoardref.HangWorth -/
def ac_wordhoardref_HangWorth : AC := (.seq (.reg 0) (.seq (.reg 1) (.seq (.seq (.reg 2) (.block 0 (.loop [5, 6] [(7, 25)] (.seq (.seq (.reg 3) (.cond (.tmp 10) .skip (.exit 0))) (.seq (.block 1 (.reg 4)) (.reg 5)))))) (.seq (.reg 6) .ret))))
def S_wordhoardref_HangWorth_L1 (a0 : AV) (a1 : AV) (Q : AV → AH → Prop) (H : AH) (vs : List AV) (k : List AV → AH → Prop) : AH → Prop :=
  Pu Try.prog .len [a1] fun v9 =>
  Pu Try.prog (.bin .lss 3) [(vs.getD 1 .any), v9] fun v10 =>
  CdA v10
    (
    Pu Try.prog (.idx 1) [a1, (vs.getD 1 .any)] fun v17 =>
    RdS Try.prog (.ld 1 false) [v17] fun v18 =>
    Pu Try.prog (.idx 1) [a0, v18] fun v19 =>
    RdS Try.prog (.ld 1 false) [v19] fun v20 =>
    Pu Try.prog (.idx 1) [v20, (vs.getD 1 .any)] fun v22 =>
    RdS Try.prog (.ld 1 false) [v22] fun v23 =>
    Pu Try.prog (.bin .add 3) [(vs.getD 0 .any), v23] fun v24 =>
    Pu Try.prog (.bin .add 3) [(vs.getD 1 .any), (.p (.int .i64 1))] fun v12 =>
    k [v24, v12]
    ) (
    Rt Try.prog H.nx (vs.getD 0 .any) Q
    )
def S_wordhoardref_HangWorth (a0 a1 : AV) (Q : AV → AH → Prop) (H : AH) : Prop := (
    LoopA Try.prog 2 (S_wordhoardref_HangWorth_L1 a0 a1 Q H) [(.p (.int .i64 0)), (.p (.int .i64 0))]
    ) H
theorem eq_wordhoardref_HangWorth (a0 a1 : AV) (Q : AV → AH → Prop) (H : AH) : FnA Try.prog 26 (regsF Try.f10) ac_wordhoardref_HangWorth [.tm 4] [a0, a1] H Q = S_wordhoardref_HangWorth a0 a1 Q H := by kernel_rfl
theorem tri_wordhoardref_HangWorth {a0 a1 : AV} {H : AH} {Q : AV → AH → Prop} (h : S_wordhoardref_HangWorth a0 a1 Q H) : Tri Try.prog 10 [a0, a1] H Q :=
  tri_of (Ms := [#[], #[], #[], #[], #[], #[], #[]]) mixed Try.func10 rfl (by kernel_rfl) (by kernel_rfl) rfl (of_decide_eq_true rfl : 2 ≤ 26) ((eq_wordhoardref_HangWorth a0 a1 Q H).symm ▸ h : FnA Try.prog 26 (regsF Try.f10) ac_wordhoardref_HangWorth [.tm 4] [a0, a1] H Q)

/-! wordhoard/wordhoardref.CheckScore -/
def ac_wordhoardref_CheckScore : AC := (.seq (.reg 0) (.seq (.seq (.reg 1) (.cond (.tmp 13) (.seq (.reg 2) .ret) .skip)) (.seq (.reg 3) (.seq (.seq (.reg 4) (.block 0 (.loop [3, 4] [(2, 3), (5, 6), (14, 59)] (.seq (.seq (.reg 5) (.cond (.tmp 17) .skip (.exit 0))) (.seq (.block 1 (.seq (.seq (.reg 6) (.cond (.tmp 28) (.seq (.reg 7) .ret) .skip)) (.seq (.reg 8) (.block 2 (.loop [3, 5] [(29, 59)] (.seq (.seq (.reg 9) (.cond (.tmp 35) .skip (.exit 2))) (.seq (.block 3 (.reg 10)) (.reg 11)))))))) (.reg 12)))))) (.seq (.seq (.reg 13) (.cond (.tmp 59) (.seq (.reg 14) .ret) .skip)) (.seq (.reg 15) .ret))))))
def S_wordhoardref_CheckScore_C1 (a0 : AV) (vs : List AV) (k_20 : List AV → AH → Prop) (vs_21 : List AV) : AH → Prop :=
  Gd (vs_21.getD 0 .any) false (fun k_27 => k_27 a0) fun v40 =>
  Gd (vs_21.getD 0 .any) false (fun k_29 => k_29 (vs.getD 1 .any)) fun v41 =>
  Gd (vs_21.getD 0 .any) false (fun k_31 => Pu Try.prog (.idx 1) [v40, v41] k_31) fun v42 =>
  Gd (vs_21.getD 0 .any) false (fun k_33 => RdS Try.prog (.ld 1 false) [v42] k_33) fun v43 =>
  Gd (vs_21.getD 0 .any) false (fun k_35 => k_35 (vs_21.getD 1 .any)) fun v44 =>
  Gd (vs_21.getD 0 .any) false (fun k_37 => Pu Try.prog (.idx 1) [v43, v44] k_37) fun v45 =>
  Gd (vs_21.getD 0 .any) false (fun k_39 => RdS Try.prog (.ld 1 false) [v45] k_39) fun v46 =>
  Gd (vs_21.getD 0 .any) false (fun k_41 => Pu Try.prog (.bin .lss 3) [v46, (.p (.int .i64 (-1000000)))] k_41) fun v47 =>
  Pu Try.prog .pick [(vs_21.getD 0 .any), (.p (.bool true)), v47] fun v48 =>
  Gd v48 false (fun k_44 => k_44 a0) fun v50 =>
  Gd v48 false (fun k_46 => k_46 (vs.getD 1 .any)) fun v51 =>
  Gd v48 false (fun k_48 => Pu Try.prog (.idx 1) [v50, v51] k_48) fun v52 =>
  Gd v48 false (fun k_50 => RdS Try.prog (.ld 1 false) [v52] k_50) fun v53 =>
  Gd v48 false (fun k_52 => k_52 (vs_21.getD 1 .any)) fun v54 =>
  Gd v48 false (fun k_54 => Pu Try.prog (.idx 1) [v53, v54] k_54) fun v55 =>
  Gd v48 false (fun k_56 => RdS Try.prog (.ld 1 false) [v55] k_56) fun v56 =>
  Gd v48 false (fun k_58 => Pu Try.prog (.bin .gtr 3) [v56, (.p (.int .i64 1000000))] k_58) fun v57 =>
  Pu Try.prog .pick [v48, (.p (.bool true)), v57] fun v58 =>
  Pu Try.prog (.bin .add 3) [(vs_21.getD 1 .any), (.p (.int .i64 1))] fun v37 =>
  k_20 [v58, v37]
def S_wordhoardref_CheckScore_L2 (a0 : AV) (k_10 : List AV → AH → Prop) (vs : List AV) (vs_21 : List AV) (k_20 : List AV → AH → Prop) : AH → Prop :=
  Pu Try.prog (.idx 1) [a0, (vs.getD 1 .any)] fun v32 =>
  RdS Try.prog (.ld 1 false) [v32] fun v33 =>
  Pu Try.prog .len [v33] fun v34 =>
  Pu Try.prog (.bin .lss 3) [(vs_21.getD 1 .any), v34] fun v35 =>
  CdA v35
    (S_wordhoardref_CheckScore_C1 a0 vs k_20 vs_21) (
    Pu Try.prog (.bin .add 3) [(vs.getD 1 .any), (.p (.int .i64 1))] fun v19 =>
    k_10 [(vs_21.getD 0 .any), v19]
    )
def S_wordhoardref_CheckScore_L3 (a0 : AV) (Q : AV → AH → Prop) (H : AH) (vs : List AV) (k_10 : List AV → AH → Prop) : AH → Prop :=
  Pu Try.prog .len [a0] fun v16 =>
  Pu Try.prog (.bin .lss 3) [(vs.getD 1 .any), v16] fun v17 =>
  CdA v17
    (
    Pu Try.prog (.idx 1) [a0, (vs.getD 1 .any)] fun v22 =>
    RdS Try.prog (.ld 1 false) [v22] fun v23 =>
    Pu Try.prog .len [v23] fun v24 =>
    Pu Try.prog .len [a0] fun v26 =>
    Pu Try.prog (.bin .sub 3) [v26, (.p (.int .i64 1))] fun v27 =>
    Pu Try.prog (.bin .neq 3) [v24, v27] fun v28 =>
    CdA v28
      (
      Rt Try.prog H.nx (.p (.int .i64 1)) Q
      ) (
      LoopA Try.prog 2 (S_wordhoardref_CheckScore_L2 a0 k_10 vs) [(vs.getD 0 .any), (.p (.int .i64 0))]
      )
    ) (
    CdA (vs.getD 0 .any)
      (
      Rt Try.prog H.nx (.p (.int .i64 3)) Q
      ) (
      Rt Try.prog H.nx (.p (.int .i64 0)) Q
      )
    )
def S_wordhoardref_CheckScore (a0 : AV) (Q : AV → AH → Prop) (H : AH) : Prop := (
    Pu Try.prog .len [a0] fun v7 =>
    Pu Try.prog (.bin .lss 3) [v7, (.p (.int .i64 1))] fun v8 =>
    Gd v8 false (fun k => k a0) fun v10 =>
    Gd v8 false (fun k_6 => Pu Try.prog .len [v10] k_6) fun v11 =>
    Gd v8 false (fun k_8 => Pu Try.prog (.bin .gtr 3) [v11, (.p (.int .i64 13))] k_8) fun v12 =>
    Pu Try.prog .pick [v8, (.p (.bool true)), v12] fun v13 =>
    CdA v13
      (
      Rt Try.prog H.nx (.p (.int .i64 7)) Q
      ) (
      LoopA Try.prog 2 (S_wordhoardref_CheckScore_L3 a0 Q H) [(.p (.bool false)), (.p (.int .i64 0))]
      )
    ) H
theorem eq_wordhoardref_CheckScore (a0 : AV) (Q : AV → AH → Prop) (H : AH) : FnA Try.prog 60 (regsF Try.f11) ac_wordhoardref_CheckScore [.tm 2] [a0] H Q = S_wordhoardref_CheckScore a0 Q H := by kernel_rfl
theorem tri_wordhoardref_CheckScore {a0 : AV} {H : AH} {Q : AV → AH → Prop} (h : S_wordhoardref_CheckScore a0 Q H) : Tri Try.prog 11 [a0] H Q :=
  tri_of (Ms := [#[], #[], #[], #[], #[], #[], #[], #[], #[], #[], #[], #[], #[], #[], #[], #[]]) mixed Try.func11 rfl (by kernel_rfl) (by kernel_rfl) rfl (of_decide_eq_true rfl : 1 ≤ 60) ((eq_wordhoardref_CheckScore a0 Q H).symm ▸ h : FnA Try.prog 60 (regsF Try.f11) ac_wordhoardref_CheckScore [.tm 2] [a0] H Q)

/-! wordhoard/wordhoardref.HangTree -/
def ac_wordhoardref_HangTree : AC := (.seq (.reg 0) (.seq (.seq (.reg 1) (.block 0 (.loop [3] [(2, 3), (4, 36)] (.seq (.seq (.reg 2) (.cond (.tmp 9) .skip (.exit 0))) (.seq (.block 1 (.seq (.reg 3) (.seq (.reg 4) (.block 2 (.loop [4, 5] [(2, 3), (13, 36)] (.seq (.seq (.reg 5) (.cond (.tmp 14) .skip (.exit 2))) (.seq (.block 3 (.seq (.seq (.reg 6) (.cond (.tmp 30) (.seq (.reg 7) .ret) .skip)) (.reg 8))) (.reg 9)))))))) (.reg 10)))))) (.seq (.reg 11) .ret)))
def S_wordhoardref_HangTree_L1 (a0 : AV) (Q : AV → AH → Prop) (H : AH) (k : List AV → AH → Prop) (vs : List AV) (vs_6 : List AV) (k_5 : List AV → AH → Prop) : AH → Prop :=
  Pu Try.prog (.bin .neq 3) [(vs_6.getD 0 .any), (.p (.int .i64 0))] fun v14 =>
  CdA v14
    (
    Pu Try.prog (.bin .lss 3) [(vs_6.getD 0 .any), (.p (.int .i64 0))] fun v18 =>
    Gd v18 false (fun k_10 => k_10 (vs_6.getD 0 .any)) fun v20 =>
    Gd v18 false (fun k_12 => k_12 a0) fun v21 =>
    Gd v18 false (fun k_14 => Pu Try.prog .len [v21] k_14) fun v22 =>
    Gd v18 false (fun k_16 => Pu Try.prog (.bin .gtr 3) [v20, v22] k_16) fun v23 =>
    Pu Try.prog .pick [v18, (.p (.bool true)), v23] fun v24 =>
    Gd v24 false (fun k_19 => k_19 (vs_6.getD 1 .any)) fun v26 =>
    Gd v24 false (fun k_21 => k_21 a0) fun v27 =>
    Gd v24 false (fun k_23 => Pu Try.prog .len [v27] k_23) fun v28 =>
    Gd v24 false (fun k_25 => Pu Try.prog (.bin .gtr 3) [v26, v28] k_25) fun v29 =>
    Pu Try.prog .pick [v24, (.p (.bool true)), v29] fun v30 =>
    CdA v30
      (
      Rt Try.prog H.nx (.p (.bool false)) Q
      ) (
      Pu Try.prog (.bin .sub 3) [(vs_6.getD 0 .any), (.p (.int .i64 1))] fun v33 =>
      Pu Try.prog (.idx 1) [a0, v33] fun v34 =>
      RdS Try.prog (.ld 1 false) [v34] fun v35 =>
      Pu Try.prog (.bin .add 3) [(vs_6.getD 1 .any), (.p (.int .i64 1))] fun v16 =>
      k_5 [v35, v16]
      )
    ) (
    Pu Try.prog (.bin .add 3) [(vs.getD 0 .any), (.p (.int .i64 1))] fun v11 =>
    k [v11]
    )
def S_wordhoardref_HangTree_L2 (a0 : AV) (Q : AV → AH → Prop) (H : AH) (vs : List AV) (k : List AV → AH → Prop) : AH → Prop :=
  Pu Try.prog .len [a0] fun v8 =>
  Pu Try.prog (.bin .leq 3) [(vs.getD 0 .any), v8] fun v9 =>
  CdA v9
    (
    LoopA Try.prog 2 (S_wordhoardref_HangTree_L1 a0 Q H k vs) [(vs.getD 0 .any), (.p (.int .i64 0))]
    ) (
    Rt Try.prog H.nx (.p (.bool true)) Q
    )
def S_wordhoardref_HangTree (a0 : AV) (Q : AV → AH → Prop) (H : AH) : Prop := (
    LoopA Try.prog 1 (S_wordhoardref_HangTree_L2 a0 Q H) [(.p (.int .i64 1))]
    ) H
theorem eq_wordhoardref_HangTree (a0 : AV) (Q : AV → AH → Prop) (H : AH) : FnA Try.prog 36 (regsF Try.f14) ac_wordhoardref_HangTree [.tm 2] [a0] H Q = S_wordhoardref_HangTree a0 Q H := by kernel_rfl
theorem tri_wordhoardref_HangTree {a0 : AV} {H : AH} {Q : AV → AH → Prop} (h : S_wordhoardref_HangTree a0 Q H) : Tri Try.prog 14 [a0] H Q :=
  tri_of (Ms := [#[], #[], #[], #[], #[], #[], #[], #[], #[], #[], #[], #[]]) mixed Try.func14 rfl (by kernel_rfl) (by kernel_rfl) rfl (of_decide_eq_true rfl : 1 ≤ 36) ((eq_wordhoardref_HangTree a0 Q H).symm ▸ h : FnA Try.prog 36 (regsF Try.f14) ac_wordhoardref_HangTree [.tm 2] [a0] H Q)

/-! wordhoard/wordhoardref.HangFlat -/
def ac_wordhoardref_HangFlat : AC := (.seq (.reg 0) (.seq (.seq (.reg 1) (.cond (.tmp 8) (.seq (.reg 2) .ret) .skip)) (.seq (.seq (.reg 3) (.block 0 (.loop [3] [(2, 3), (4, 6), (9, 51)] (.seq (.seq (.reg 4) (.cond (.tmp 12) .skip (.exit 0))) (.seq (.block 1 (.seq (.reg 5) (.seq (.reg 6) (.block 2 (.loop [5] [(2, 3), (20, 51)] (.seq (.seq (.reg 7) (.cond (.tmp 23) .skip (.exit 2))) (.seq (.block 3 (.seq (.reg 8) (.cond (.tmp 50) (.seq (.reg 9) .ret) .skip))) (.reg 10)))))))) (.reg 11)))))) (.seq (.reg 12) .ret))))
def S_wordhoardref_HangFlat_C1 (a0 : AV) (Q : AV → AH → Prop) (H : AH) (vs : List AV) (v19 : AV) (k_10 : List AV → AH → Prop) (vs_11 : List AV) : AH → Prop :=
  Pu Try.prog (.bin .gtr 3) [(vs_11.getD 0 .any), (vs.getD 0 .any)] fun v28 =>
  Gd v28 true (fun k_16 => k_16 (vs_11.getD 0 .any)) fun v30 =>
  Gd v28 true (fun k_18 => k_18 v19) fun v31 =>
  Gd v28 true (fun k_20 => Pu Try.prog (.bin .lss 3) [v30, v31] k_20) fun v32 =>
  Pu Try.prog .pick [v28, v32, (.p (.bool false))] fun v33 =>
  Gd v33 false (fun k_23 => k_23 (vs_11.getD 0 .any)) fun v35 =>
  Gd v33 false (fun k_25 => k_25 v19) fun v36 =>
  Gd v33 false (fun k_27 => Pu Try.prog (.bin .gtr 3) [v35, v36] k_27) fun v37 =>
  Gd v33 false (fun k_29 => k_29 v37) fun v38 =>
  Gd v38 true (fun k_31 => k_31 (vs_11.getD 0 .any)) fun v39 =>
  Gd v38 true (fun k_33 => k_33 (vs.getD 0 .any)) fun v40 =>
  Gd v38 true (fun k_35 => Pu Try.prog (.bin .lss 3) [v39, v40] k_35) fun v41 =>
  Gd v33 false (fun k_37 => Pu Try.prog .pick [v38, v41, (.p (.bool false))] k_37) fun v42 =>
  Pu Try.prog .pick [v33, (.p (.bool true)), v42] fun v43 =>
  Gd v43 true (fun k_40 => k_40 a0) fun v45 =>
  Gd v43 true (fun k_42 => k_42 (vs_11.getD 0 .any)) fun v46 =>
  Gd v43 true (fun k_44 => k_44 v19) fun v47 =>
  Gd v43 true (fun k_46 => Ca Try.prog (.fn (.func 30) [] []) [v45, v46, v47] k_46) fun v48 =>
  Gd v43 true (fun k_48 => Pu Try.prog (.un .not) [v48] k_48) fun v49 =>
  Pu Try.prog .pick [v43, v49, (.p (.bool false))] fun v50 =>
  CdA v50
    (
    Rt Try.prog H.nx (.p (.bool false)) Q
    ) (
    Pu Try.prog (.bin .add 3) [(vs_11.getD 0 .any), (.p (.int .i64 1))] fun v25 =>
    k_10 [v25]
    )
def S_wordhoardref_HangFlat_L2 (a0 : AV) (Q : AV → AH → Prop) (H : AH) (k : List AV → AH → Prop) (vs : List AV) (v19 : AV) (vs_11 : List AV) (k_10 : List AV → AH → Prop) : AH → Prop :=
  Pu Try.prog .len [a0] fun v22 =>
  Pu Try.prog (.bin .leq 3) [(vs_11.getD 0 .any), v22] fun v23 =>
  CdA v23
    (S_wordhoardref_HangFlat_C1 a0 Q H vs v19 k_10 vs_11) (
    Pu Try.prog (.bin .add 3) [(vs.getD 0 .any), (.p (.int .i64 1))] fun v14 =>
    k [v14]
    )
def S_wordhoardref_HangFlat_L3 (a0 : AV) (Q : AV → AH → Prop) (H : AH) (vs : List AV) (k : List AV → AH → Prop) : AH → Prop :=
  Pu Try.prog .len [a0] fun v11 =>
  Pu Try.prog (.bin .leq 3) [(vs.getD 0 .any), v11] fun v12 =>
  CdA v12
    (
    Pu Try.prog (.bin .sub 3) [(vs.getD 0 .any), (.p (.int .i64 1))] fun v17 =>
    Pu Try.prog (.idx 1) [a0, v17] fun v18 =>
    RdS Try.prog (.ld 1 false) [v18] fun v19 =>
    LoopA Try.prog 1 (S_wordhoardref_HangFlat_L2 a0 Q H k vs v19) [(.p (.int .i64 1))]
    ) (
    Rt Try.prog H.nx (.p (.bool true)) Q
    )
def S_wordhoardref_HangFlat (a0 : AV) (Q : AV → AH → Prop) (H : AH) : Prop := (
    Ca Try.prog (.fn (.func 14) [] []) [a0] fun v7 =>
    Pu Try.prog (.un .not) [v7] fun v8 =>
    CdA v8
      (
      Rt Try.prog H.nx (.p (.bool false)) Q
      ) (
      LoopA Try.prog 1 (S_wordhoardref_HangFlat_L3 a0 Q H) [(.p (.int .i64 1))]
      )
    ) H
theorem eq_wordhoardref_HangFlat (a0 : AV) (Q : AV → AH → Prop) (H : AH) : FnA Try.prog 51 (regsF Try.f16) ac_wordhoardref_HangFlat [.tm 2] [a0] H Q = S_wordhoardref_HangFlat a0 Q H := by kernel_rfl
theorem tri_wordhoardref_HangFlat {a0 : AV} {H : AH} {Q : AV → AH → Prop} (h : S_wordhoardref_HangFlat a0 Q H) : Tri Try.prog 16 [a0] H Q :=
  tri_of (Ms := [#[], #[], #[], #[], #[], #[], #[], #[], #[], #[], #[], #[], #[]]) mixed Try.func16 rfl (by kernel_rfl) (by kernel_rfl) rfl (of_decide_eq_true rfl : 1 ≤ 51) ((eq_wordhoardref_HangFlat a0 Q H).symm ▸ h : FnA Try.prog 51 (regsF Try.f16) ac_wordhoardref_HangFlat [.tm 2] [a0] H Q)

/-! wordhoard/wordhoardref.Roots -/
def ac_wordhoardref_Roots : AC := (.seq (.reg 0) (.seq (.reg 1) (.seq (.seq (.reg 2) (.block 0 (.loop [3, 4] [(5, 18)] (.seq (.seq (.reg 3) (.cond (.tmp 8) .skip (.exit 0))) (.seq (.block 1 (.seq (.reg 4) (.cond (.tmp 15) (.reg 5) .skip))) (.reg 6)))))) (.seq (.reg 7) .ret))))
def S_wordhoardref_Roots_L1 (a0 : AV) (Q : AV → AH → Prop) (H : AH) (vs : List AV) (k : List AV → AH → Prop) : AH → Prop :=
  Pu Try.prog .len [a0] fun v7 =>
  Pu Try.prog (.bin .lss 3) [(vs.getD 1 .any), v7] fun v8 =>
  CdA v8
    (
    Pu Try.prog (.idx 1) [a0, (vs.getD 1 .any)] fun v13 =>
    RdS Try.prog (.ld 1 false) [v13] fun v14 =>
    Pu Try.prog (.bin .eql 3) [v14, (.p (.int .i64 0))] fun v15 =>
    CdA v15
      (
      Pu Try.prog (.bin .add 3) [(vs.getD 0 .any), (.p (.int .i64 1))] fun v17 =>
      Pu Try.prog (.bin .add 3) [(vs.getD 1 .any), (.p (.int .i64 1))] fun v10 =>
      k [v17, v10]
      ) (
      Pu Try.prog (.bin .add 3) [(vs.getD 1 .any), (.p (.int .i64 1))] fun v10_10 =>
      k [(vs.getD 0 .any), v10_10]
      )
    ) (
    Rt Try.prog H.nx (vs.getD 0 .any) Q
    )
def S_wordhoardref_Roots (a0 : AV) (Q : AV → AH → Prop) (H : AH) : Prop := (
    LoopA Try.prog 2 (S_wordhoardref_Roots_L1 a0 Q H) [(.p (.int .i64 0)), (.p (.int .i64 0))]
    ) H
theorem eq_wordhoardref_Roots (a0 : AV) (Q : AV → AH → Prop) (H : AH) : FnA Try.prog 19 (regsF Try.f17) ac_wordhoardref_Roots [.tm 2] [a0] H Q = S_wordhoardref_Roots a0 Q H := by kernel_rfl
theorem tri_wordhoardref_Roots {a0 : AV} {H : AH} {Q : AV → AH → Prop} (h : S_wordhoardref_Roots a0 Q H) : Tri Try.prog 17 [a0] H Q :=
  tri_of (Ms := [#[], #[], #[], #[], #[], #[], #[], #[]]) mixed Try.func17 rfl (by kernel_rfl) (by kernel_rfl) rfl (of_decide_eq_true rfl : 1 ≤ 19) ((eq_wordhoardref_Roots a0 Q H).symm ▸ h : FnA Try.prog 19 (regsF Try.f17) ac_wordhoardref_Roots [.tm 2] [a0] H Q)

/-! wordhoard/wordhoardref.HangAll -/
def ac_wordhoardref_HangAll : AC := (.seq (.reg 0) (.seq (.reg 1) (.seq (.reg 2) (.seq (.reg 3) (.reg 4)))))
def S_wordhoardref_HangAll (a0 a1 : AV) (Q : AV → AH → Prop) (H : AH) : Prop := (
    Rg 2 fun b =>
    Al (b + 0) (.bx 3) [a0] fun v2 =>
    Al (b + 1) (.bx 34) [a1] fun v3 =>
    Rg 4 fun b_4 =>
    RdS Try.prog (.ld 1 false) [v2] fun v6 =>
    Al (b_4 + 1) (.ms 3 1 8 [.p (.int .i64 0)]) [v6, v6] fun v7 =>
    Al (b_4 + 2) (.nw 24 [.p (.slice none 0 0)]) [] fun v4 =>
    WrS Try.prog (b_4 + 3) (.st 1) [v4, v7] fun _ =>
    Rg 1 fun b_9 =>
    Al (b_9 + 0) (.nw 51 [.p (.nilFunc)]) [] fun v5 =>
    Rg 2 fun b_11 =>
    Pu Try.prog (.mkfn (.func 31) 0) [v2, v4, v3, v5] fun v8 =>
    WrS Try.prog (b_11 + 1) (.st 1) [v5, v8] fun _ =>
    RdS Try.prog (.ld 1 false) [v5] fun v9 =>
    Ca Try.prog v9 [(.p (.int .i64 0))] fun _ =>
    Rt Try.prog H.nx (.tup []) Q
    ) H
theorem eq_wordhoardref_HangAll (a0 a1 : AV) (Q : AV → AH → Prop) (H : AH) : FnA Try.prog 11 (regsF Try.f19) ac_wordhoardref_HangAll [] [a0, a1] H Q = S_wordhoardref_HangAll a0 a1 Q H := by kernel_rfl
theorem tri_wordhoardref_HangAll {a0 a1 : AV} {H : AH} {Q : AV → AH → Prop} (h : S_wordhoardref_HangAll a0 a1 Q H) : Tri Try.prog 19 [a0, a1] H Q :=
  tri_of (Ms := [#[], #[], #[], #[], #[]]) mixed Try.func19 rfl (by kernel_rfl) (by kernel_rfl) rfl (of_decide_eq_true rfl : 2 ≤ 11) ((eq_wordhoardref_HangAll a0 a1 Q H).symm ▸ h : FnA Try.prog 11 (regsF Try.f19) ac_wordhoardref_HangAll [] [a0, a1] H Q)

/-! wordhoard/wordhoardref.Same -/
def ac_wordhoardref_Same : AC := (.seq (.reg 0) (.seq (.seq (.reg 1) (.cond (.tmp 10) (.seq (.reg 2) .ret) .skip)) (.seq (.seq (.reg 3) (.block 0 (.loop [5] [(4, 5), (11, 26)] (.seq (.seq (.reg 4) (.cond (.tmp 14) .skip (.exit 0))) (.seq (.block 1 (.seq (.reg 5) (.cond (.tmp 25) (.seq (.reg 6) .ret) .skip))) (.reg 7)))))) (.seq (.reg 8) .ret))))
def S_wordhoardref_Same_L1 (a0 : AV) (a1 : AV) (Q : AV → AH → Prop) (H : AH) (vs : List AV) (k : List AV → AH → Prop) : AH → Prop :=
  Pu Try.prog .len [a0] fun v13 =>
  Pu Try.prog (.bin .lss 3) [(vs.getD 0 .any), v13] fun v14 =>
  CdA v14
    (
    Vw fun V =>
    Pu Try.prog (.idx 1) [a0, (vs.getD 0 .any)] fun v19 =>
    Rd Try.prog V (.ld 1 false) [v19] fun v20 =>
    Pu Try.prog (.idx 1) [a1, (vs.getD 0 .any)] fun v23 =>
    Rd Try.prog V (.ld 1 false) [v23] fun v24 =>
    Pu Try.prog (.bin .neq 3) [v20, v24] fun v25 =>
    CdA v25
      (
      Rt Try.prog H.nx (.p (.bool false)) Q
      ) (
      Pu Try.prog (.bin .add 3) [(vs.getD 0 .any), (.p (.int .i64 1))] fun v16 =>
      k [v16]
      )
    ) (
    Rt Try.prog H.nx (.p (.bool true)) Q
    )
def S_wordhoardref_Same (a0 a1 : AV) (Q : AV → AH → Prop) (H : AH) : Prop := (
    Pu Try.prog .len [a0] fun v7 =>
    Pu Try.prog .len [a1] fun v9 =>
    Pu Try.prog (.bin .neq 3) [v7, v9] fun v10 =>
    CdA v10
      (
      Rt Try.prog H.nx (.p (.bool false)) Q
      ) (
      LoopA Try.prog 1 (S_wordhoardref_Same_L1 a0 a1 Q H) [(.p (.int .i64 0))]
      )
    ) H
theorem eq_wordhoardref_Same (a0 a1 : AV) (Q : AV → AH → Prop) (H : AH) : FnA Try.prog 26 (regsF Try.f20) ac_wordhoardref_Same [.tm 4] [a0, a1] H Q = S_wordhoardref_Same a0 a1 Q H := by kernel_rfl
theorem tri_wordhoardref_Same {a0 a1 : AV} {H : AH} {Q : AV → AH → Prop} (h : S_wordhoardref_Same a0 a1 Q H) : Tri Try.prog 20 [a0, a1] H Q :=
  tri_of (Ms := [#[], #[], #[], #[], #[], #[0, 0, 3, 7, 0, 0, 48, 112, 255], #[], #[], #[]]) mixed Try.func20 rfl (by kernel_rfl) (by kernel_rfl) rfl (of_decide_eq_true rfl : 2 ≤ 26) ((eq_wordhoardref_Same a0 a1 Q H).symm ▸ h : FnA Try.prog 26 (regsF Try.f20) ac_wordhoardref_Same [.tm 4] [a0, a1] H Q)

/-! wordhoard/wordhoardref.hangs -/
def ac_wordhoardref_hangs : AC := (.seq (.reg 0) (.seq (.block 0 (.loop [1] [(7, 19)] (.seq (.seq (.reg 1) (.cond (.tmp 13) .skip (.exit 0))) (.block 1 (.reg 2))))) (.seq (.reg 3) .ret)))
def S_wordhoardref_hangs_L1 (a0 : AV) (a2 : AV) (Q : AV → AH → Prop) (H : AH) (vs : List AV) (k : List AV → AH → Prop) : AH → Prop :=
  Pu Try.prog (.bin .neq 3) [(vs.getD 0 .any), (.p (.int .i64 0))] fun v8 =>
  Gd v8 true (fun k_5 => k_5 (vs.getD 0 .any)) fun v10 =>
  Gd v8 true (fun k_7 => k_7 a2) fun v11 =>
  Gd v8 true (fun k_9 => Pu Try.prog (.bin .neq 3) [v10, v11] k_9) fun v12 =>
  Pu Try.prog .pick [v8, v12, (.p (.bool false))] fun v13 =>
  CdA v13
    (
    Pu Try.prog (.bin .sub 3) [(vs.getD 0 .any), (.p (.int .i64 1))] fun v16 =>
    Pu Try.prog (.idx 1) [a0, v16] fun v17 =>
    RdS Try.prog (.ld 1 false) [v17] fun v18 =>
    k [v18]
    ) (
    Pu Try.prog (.bin .eql 3) [(vs.getD 0 .any), a2] fun v21 =>
    Rt Try.prog H.nx v21 Q
    )
def S_wordhoardref_hangs (a0 a1 a2 : AV) (Q : AV → AH → Prop) (H : AH) : Prop := (
    LoopA Try.prog 1 (S_wordhoardref_hangs_L1 a0 a2 Q H) [a1]
    ) H
theorem eq_wordhoardref_hangs (a0 a1 a2 : AV) (Q : AV → AH → Prop) (H : AH) : FnA Try.prog 22 (regsF Try.f30) ac_wordhoardref_hangs [.tm 6] [a0, a1, a2] H Q = S_wordhoardref_hangs a0 a1 a2 Q H := by kernel_rfl
theorem tri_wordhoardref_hangs {a0 a1 a2 : AV} {H : AH} {Q : AV → AH → Prop} (h : S_wordhoardref_hangs a0 a1 a2 Q H) : Tri Try.prog 30 [a0, a1, a2] H Q :=
  tri_of (Ms := [#[], #[], #[], #[]]) mixed Try.func30 rfl (by kernel_rfl) (by kernel_rfl) rfl (of_decide_eq_true rfl : 3 ≤ 22) ((eq_wordhoardref_hangs a0 a1 a2 Q H).symm ▸ h : FnA Try.prog 22 (regsF Try.f30) ac_wordhoardref_hangs [.tm 6] [a0, a1, a2] H Q)

/-! wordhoard/wordhoardref.HangAll$1 -/
def ac_wordhoardref_HangAll_fn1 : AC := (.seq (.seq (.reg 0) (.cond (.tmp 9) (.seq (.seq (.reg 1) (.cond (.tmp 11) (.reg 2) .skip)) .ret) .skip)) (.seq (.reg 3) (.block 0 (.loop [6] [(15, 28)] (.seq (.seq (.reg 4) (.cond (.tmp 17) .skip (.exit 0))) (.seq (.block 1 (.seq (.reg 5) (.reg 6))) (.reg 7)))))))
def S_wordhoardref_HangAll_fn1_L1 (a0 : AV) (a1 : AV) (a2 : AV) (a4 : AV) (Q : AV → AH → Prop) (H : AH) (vs : List AV) (k : List AV → AH → Prop) : AH → Prop :=
  RdS Try.prog (.ld 1 false) [a1] fun v16 =>
  Pu Try.prog (.bin .leq 3) [(vs.getD 0 .any), v16] fun v17 =>
  CdA v17
    (
    Rg 5 fun b =>
    RdS Try.prog (.ld 1 false) [a2] fun v20 =>
    Pu Try.prog (.idx 1) [v20, a0] fun v23 =>
    WrS Try.prog (b + 4) (.st 1) [v23, (vs.getD 0 .any)] fun _ =>
    RdS Try.prog (.ld 1 false) [a4] fun v24 =>
    Pu Try.prog (.bin .add 3) [a0, (.p (.int .i64 1))] fun v26 =>
    Ca Try.prog v24 [v26] fun _ =>
    Pu Try.prog (.bin .add 3) [(vs.getD 0 .any), (.p (.int .i64 1))] fun v19 =>
    k [v19]
    ) (
    Rt Try.prog H.nx (.tup []) Q
    )
def S_wordhoardref_HangAll_fn1 (a0 a1 a2 a3 a4 : AV) (Q : AV → AH → Prop) (H : AH) : Prop := (
    RdS Try.prog (.ld 1 false) [a1] fun v8 =>
    Pu Try.prog (.bin .eql 3) [a0, v8] fun v9 =>
    CdA v9
      (
      RdS Try.prog (.ld 1 false) [a2] fun v10 =>
      Ca Try.prog (.fn (.func 14) [] []) [v10] fun v11 =>
      CdA v11
        (
        RdS Try.prog (.ld 1 false) [a3] fun v12 =>
        RdS Try.prog (.ld 1 false) [a2] fun v13 =>
        Ca Try.prog v12 [v13] fun _ =>
        Rt Try.prog H.nx (.tup []) Q
        ) (
        Rt Try.prog H.nx (.tup []) Q
        )
      ) (
      LoopA Try.prog 1 (S_wordhoardref_HangAll_fn1_L1 a0 a1 a2 a4 Q H) [(.p (.int .i64 0))]
      )
    ) H
theorem eq_wordhoardref_HangAll_fn1 (a0 a1 a2 a3 a4 : AV) (Q : AV → AH → Prop) (H : AH) : FnA Try.prog 28 (regsF Try.f31) ac_wordhoardref_HangAll_fn1 [] [a0, a1, a2, a3, a4] H Q = S_wordhoardref_HangAll_fn1 a0 a1 a2 a3 a4 Q H := by kernel_rfl
theorem tri_wordhoardref_HangAll_fn1 {a0 a1 a2 a3 a4 : AV} {H : AH} {Q : AV → AH → Prop} (h : S_wordhoardref_HangAll_fn1 a0 a1 a2 a3 a4 Q H) : Tri Try.prog 31 [a0, a1, a2, a3, a4] H Q :=
  tri_of (Ms := [#[], #[], #[], #[], #[], #[], #[], #[]]) mixed Try.func31 rfl (by kernel_rfl) (by kernel_rfl) rfl (of_decide_eq_true rfl : 5 ≤ 28) ((eq_wordhoardref_HangAll_fn1 a0 a1 a2 a3 a4 Q H).symm ▸ h : FnA Try.prog 28 (regsF Try.f31) ac_wordhoardref_HangAll_fn1 [] [a0, a1, a2, a3, a4] H Q)

/-! wordhoard/wordhoardlaw.HeadsMore -/
def ac_wordhoardlaw_HeadsMore : AC := (.seq (.reg 0) (.seq (.seq (.reg 1) (.cond (.tmp 25) (.seq (.reg 2) .ret) .skip)) (.seq (.reg 3) (.seq (.reg 4) (.seq (.reg 5) (.seq (.seq (.reg 6) (.cond (.tmp 45) (.seq (.reg 7) .ret) .skip)) (.seq (.reg 8) (.seq (.seq (.reg 9) (.cond (.tmp 68) (.seq (.reg 10) .ret) .skip)) (.seq (.reg 11) (.seq (.reg 12) (.seq (.reg 13) (.seq (.seq (.reg 14) (.block 0 (.loop [19, 20] [(6, 7), (21, 22), (90, 118)] (.seq (.seq (.reg 15) (.cond (.tmp 93) .skip (.exit 0))) (.seq (.block 1 (.seq (.reg 16) (.seq (.reg 17) (.seq (.seq (.reg 18) (.cond (.tmp 113) (.seq (.reg 19) .ret) .skip)) (.reg 20))))) (.reg 21)))))) (.seq (.reg 22) (.seq (.seq (.reg 23) (.cond (.tmp 139) (.seq (.reg 24) .ret) .skip)) (.seq (.reg 25) (.seq (.reg 26) (.seq (.reg 27) .ret)))))))))))))))))
def S_wordhoardlaw_HeadsMore_C1 (a0 : AV) (Q : AV → AH → Prop) (H : AH) (v29 : AV) (v30 : AV) (v87 : AV) (v89 : AV) (vs : List AV) : AH → Prop :=
  Ca Try.prog (.fn (.func 6) [] []) [(vs.getD 0 .any)] fun v120 =>
  Pu Try.prog (.ext 0) [v120] fun v121 =>
  Pu Try.prog (.ext 1) [v120] fun v122 =>
  Pu Try.prog (.ext 2) [v120] fun v123 =>
  Pu Try.prog (.bin .neq 25) [v123, (.p (.int .i64 0))] fun v125 =>
  Gd v125 false (fun k_93 => k_93 v122) fun v127 =>
  Gd v125 false (fun k_95 => k_95 v30) fun v128 =>
  Gd v125 false (fun k_97 => k_97 v89) fun v129 =>
  Gd v125 false (fun k_99 => Pu Try.prog (.bin .sub 3) [v128, v129] k_99) fun v130 =>
  Gd v125 false (fun k_101 => Pu Try.prog (.bin .neq 3) [v127, v130] k_101) fun v131 =>
  Pu Try.prog .pick [v125, (.p (.bool true)), v131] fun v132 =>
  Gd v132 false (fun k_104 => k_104 a0) fun v134 =>
  Gd v132 false (fun k_106 => k_106 v121) fun v135 =>
  Gd v132 false (fun k_108 => Ca Try.prog (.fn (.func 10) [] []) [v134, v135] k_108) fun v136 =>
  Gd v132 false (fun k_110 => k_110 v30) fun v137 =>
  Gd v132 false (fun k_112 => Pu Try.prog (.bin .neq 3) [v136, v137] k_112) fun v138 =>
  Pu Try.prog .pick [v132, (.p (.bool true)), v138] fun v139 =>
  CdA v139
    (
    Rt Try.prog H.nx (.p (.bool false)) Q
    ) (
    Rg 14 fun b_114 =>
    Pu Try.prog (.idx 1) [v29, v87] fun v143 =>
    RdS Try.prog (.ld 1 false) [v143] fun v144 =>
    Pu Try.prog (.idx 1) [(vs.getD 0 .any), v144] fun v145 =>
    RdS Try.prog (.ld 1 false) [v145] fun v146 =>
    Pu Try.prog (.idx 1) [v146, v87] fun v148 =>
    RdS Try.prog (.ld 1 false) [v148] fun v149 =>
    Pu Try.prog (.bin .add 3) [v149, v89] fun v151 =>
    Pu Try.prog (.idx 1) [v146, v87] fun v152 =>
    WrS Try.prog (b_114 + 13) (.st 1) [v152, v151] fun _ =>
    Ca Try.prog (.fn (.func 6) [] []) [(vs.getD 0 .any)] fun v155 =>
    Pu Try.prog (.ext 0) [v155] fun _ =>
    Pu Try.prog (.ext 1) [v155] fun v157 =>
    Pu Try.prog (.ext 2) [v155] fun v158 =>
    Pu Try.prog (.bin .eql 25) [v158, (.p (.int .i64 0))] fun v160 =>
    Gd v160 true (fun k_130 => k_130 v157) fun v162 =>
    Gd v160 true (fun k_132 => k_132 v30) fun v163 =>
    Gd v160 true (fun k_134 => Pu Try.prog (.bin .eql 3) [v162, v163] k_134) fun v164 =>
    Pu Try.prog .pick [v160, v164, (.p (.bool false))] fun v165 =>
    Rt Try.prog H.nx v165 Q
    )
def S_wordhoardlaw_HeadsMore_L2 (a0 : AV) (Q : AV → AH → Prop) (H : AH) (v29 : AV) (v30 : AV) (v87 : AV) (v89 : AV) (vs : List AV) (k_65 : List AV → AH → Prop) : AH → Prop :=
  Pu Try.prog .len [a0] fun v92 =>
  Pu Try.prog (.bin .lss 3) [(vs.getD 1 .any), v92] fun v93 =>
  CdA v93
    (
    Rg 7 fun b =>
    Al (b + 0) (.bs 3 1 0 [.p (.int .i64 0)] []) [] fun v96 =>
    Pu Try.prog (.idx 1) [a0, (vs.getD 1 .any)] fun v99 =>
    RdS Try.prog (.ld 1 false) [v99] fun v100 =>
    WrS Try.prog (b + 5) (.app 3 1 8) [v96, v100] fun v101 =>
    Rg 8 fun b_74 =>
    Pu Try.prog (.idx 1) [v101, v87] fun v104 =>
    RdS Try.prog (.ld 1 false) [v104] fun v105 =>
    Pu Try.prog (.bin .sub 3) [v105, v89] fun v107 =>
    Pu Try.prog (.idx 1) [v101, v87] fun v108 =>
    WrS Try.prog (b_74 + 7) (.st 1) [v108, v107] fun _ =>
    Pu Try.prog (.idx 1) [v101, v87] fun v111 =>
    RdS Try.prog (.ld 1 false) [v111] fun v112 =>
    Pu Try.prog (.bin .lss 3) [v112, (.p (.int .i64 (-1000000)))] fun v113 =>
    CdA v113
      (
      Rt Try.prog H.nx (.p (.bool true)) Q
      ) (
      Rg 5 fun b_83 =>
      Al (b_83 + 2) (.bs 24 1 1 [.p (.slice none 0 0)] [(0, 1)]) [v101] fun v116 =>
      WrS Try.prog (b_83 + 3) (.app 24 1 24) [(vs.getD 0 .any), v116] fun v117 =>
      Pu Try.prog (.bin .add 3) [(vs.getD 1 .any), (.p (.int .i64 1))] fun v95 =>
      k_65 [v117, v95]
      )
    ) (S_wordhoardlaw_HeadsMore_C1 a0 Q H v29 v30 v87 v89 vs)
def S_wordhoardlaw_HeadsMore_C3 (a0 : AV) (a1 : AV) (a2 : AV) (Q : AV → AH → Prop) (H : AH) (v29 : AV) (v30 : AV) (v36 : AV) (v37 : AV) (v42 : AV) (v43 : AV) : AH → Prop :=
  Pu Try.prog .len [a0] fun v47 =>
  Pu Try.prog (.bin .sub 3) [v47, (.p (.int .i64 1))] fun v48 =>
  Pu Try.prog (.bin .neq 25) [v37, (.p (.int .i64 0))] fun v50 =>
  Gd v50 false (fun k => k v43) fun v52 =>
  Gd v50 false (fun k_22 => Pu Try.prog (.bin .neq 25) [v52, (.p (.int .i64 0))] k_22) fun v53 =>
  Pu Try.prog .pick [v50, (.p (.bool true)), v53] fun v54 =>
  Gd v54 false (fun k_25 => k_25 v36) fun v56 =>
  Gd v54 false (fun k_27 => k_27 v30) fun v57 =>
  Gd v54 false (fun k_29 => Pu Try.prog (.bin .gtr 3) [v56, v57] k_29) fun v58 =>
  Pu Try.prog .pick [v54, (.p (.bool true)), v58] fun v59 =>
  Gd v59 false (fun k_32 => k_32 v42) fun v61 =>
  Gd v59 false (fun k_34 => k_34 v30) fun v62 =>
  Gd v59 false (fun k_36 => Pu Try.prog (.bin .gtr 3) [v61, v62] k_36) fun v63 =>
  Pu Try.prog .pick [v59, (.p (.bool true)), v63] fun v64 =>
  Gd v64 false (fun k_39 => k_39 v48) fun v66 =>
  Gd v64 false (fun k_41 => Pu Try.prog (.bin .eql 3) [v66, (.p (.int .i64 0))] k_41) fun v67 =>
  Pu Try.prog .pick [v64, (.p (.bool true)), v67] fun v68 =>
  CdA v68
    (
    Pu Try.prog (.bin .eql 25) [v37, (.p (.int .i64 0))] fun v70 =>
    Gd v70 true (fun k_45 => k_45 v43) fun v72 =>
    Gd v70 true (fun k_47 => Pu Try.prog (.bin .eql 25) [v72, (.p (.int .i64 0))] k_47) fun v73 =>
    Pu Try.prog .pick [v70, v73, (.p (.bool false))] fun v74 =>
    Gd v74 true (fun k_50 => k_50 v36) fun v76 =>
    Gd v74 true (fun k_52 => k_52 v30) fun v77 =>
    Gd v74 true (fun k_54 => Pu Try.prog (.bin .leq 3) [v76, v77] k_54) fun v78 =>
    Pu Try.prog .pick [v74, v78, (.p (.bool false))] fun v79 =>
    Gd v79 true (fun k_57 => k_57 v42) fun v81 =>
    Gd v79 true (fun k_59 => k_59 v30) fun v82 =>
    Gd v79 true (fun k_61 => Pu Try.prog (.bin .leq 3) [v81, v82] k_61) fun v83 =>
    Pu Try.prog .pick [v79, v83, (.p (.bool false))] fun v84 =>
    Rt Try.prog H.nx v84 Q
    ) (
    Ca Try.prog (.fn (.func 9) [] []) [a1, v48] fun v87 =>
    Ca Try.prog (.fn (.func 9) [] []) [a2, (.p (.int .i64 1000))] fun v89 =>
    LoopA Try.prog 2 (S_wordhoardlaw_HeadsMore_L2 a0 Q H v29 v30 v87 v89) [(.p (.slice none 0 0)), (.p (.int .i64 0))]
    )
def S_wordhoardlaw_HeadsMore (a0 a1 a2 : AV) (Q : AV → AH → Prop) (H : AH) : Prop := (
    Ca Try.prog (.fn (.func 5) [] []) [] fun v24 =>
    Pu Try.prog (.un .not) [v24] fun v25 =>
    CdA v25
      (
      Rt Try.prog H.nx (.p (.bool false)) Q
      ) (
      Ca Try.prog (.fn (.func 6) [] []) [a0] fun v28 =>
      Pu Try.prog (.ext 0) [v28] fun v29 =>
      Pu Try.prog (.ext 1) [v28] fun v30 =>
      Pu Try.prog (.ext 2) [v28] fun v31 =>
      Ca Try.prog (.fn (.func 7) [] []) [a0] fun v34 =>
      Pu Try.prog (.ext 0) [v34] fun _ =>
      Pu Try.prog (.ext 1) [v34] fun v36 =>
      Pu Try.prog (.ext 2) [v34] fun v37 =>
      Ca Try.prog (.fn (.func 8) [] []) [a0] fun v40 =>
      Pu Try.prog (.ext 0) [v40] fun _ =>
      Pu Try.prog (.ext 1) [v40] fun v42 =>
      Pu Try.prog (.ext 2) [v40] fun v43 =>
      Pu Try.prog (.bin .neq 25) [v31, (.p (.int .i64 0))] fun v45 =>
      CdA v45
        (
        Rt Try.prog H.nx (.p (.bool true)) Q
        ) (S_wordhoardlaw_HeadsMore_C3 a0 a1 a2 Q H v29 v30 v36 v37 v42 v43)
      )
    ) H
theorem eq_wordhoardlaw_HeadsMore (a0 a1 a2 : AV) (Q : AV → AH → Prop) (H : AH) : FnA Try.prog 166 (regsF Try.f3) ac_wordhoardlaw_HeadsMore [.tm 6] [a0, a1, a2] H Q = S_wordhoardlaw_HeadsMore a0 a1 a2 Q H := by kernel_rfl
theorem tri_wordhoardlaw_HeadsMore {a0 a1 a2 : AV} {H : AH} {Q : AV → AH → Prop} (h : S_wordhoardlaw_HeadsMore a0 a1 a2 Q H) : Tri Try.prog 3 [a0, a1, a2] H Q :=
  tri_of (Ms := [#[], #[], #[], #[], #[], #[], #[], #[], #[], #[], #[], #[], #[], #[], #[], #[], #[], #[], #[], #[], #[], #[], #[], #[], #[], #[], #[], #[]]) mixed Try.func3 rfl (by kernel_rfl) (by kernel_rfl) rfl (of_decide_eq_true rfl : 3 ≤ 166) ((eq_wordhoardlaw_HeadsMore a0 a1 a2 Q H).symm ▸ h : FnA Try.prog 166 (regsF Try.f3) ac_wordhoardlaw_HeadsMore [.tm 6] [a0, a1, a2] H Q)

/-! wordhoard/wordhoardlaw.HeadsBest -/
def ac_wordhoardlaw_HeadsBest : AC := (.seq (.reg 0) (.seq (.seq (.reg 1) (.cond (.tmp 21) (.seq (.reg 2) .ret) .skip)) (.seq (.reg 3) (.seq (.reg 4) (.seq (.reg 5) (.seq (.reg 6) (.seq (.seq (.reg 7) (.cond (.tmp 60) (.seq (.reg 8) .ret) .skip)) (.seq (.seq (.reg 9) (.block 0 (.loop [15] [(4, 5), (61, 91)] (.seq (.seq (.reg 10) (.cond (.tmp 64) .skip (.exit 0))) (.seq (.block 1 (.seq (.reg 11) (.cond (.tmp 90) (.seq (.reg 12) .ret) .skip))) (.reg 13)))))) (.seq (.seq (.reg 14) (.cond (.tmp 92) (.seq (.reg 15) .ret) .skip)) (.seq (.reg 16) (.seq (.seq (.reg 17) (.cond (.tmp 156) (.seq (.reg 18) .ret) .skip)) (.seq (.seq (.reg 19) (.cond (.tmp 175) (.seq (.reg 20) .ret) .skip)) (.seq (.reg 21) (.seq (.reg 22) (.seq (.seq (.reg 23) (.cond (.tmp 178) (.seq (.reg 24) (.seq (.reg 25) .ret)) .skip)) (.seq (.seq (.reg 26) (.block 2 (.loop [19] [(183, 209)] (.seq (.seq (.reg 27) (.cond (.tmp 186) .skip (.exit 2))) (.seq (.block 3 (.seq (.reg 28) (.cond (.tmp 202) (.reg 29) .skip))) (.reg 30)))))) (.seq (.reg 31) .ret)))))))))))))))))
def S_wordhoardlaw_HeadsBest_C1 (a1 : AV) (Q : AV → AH → Prop) (H : AH) (k_55 : List AV → AH → Prop) (vs : List AV) : AH → Prop :=
  Vw fun V =>
  Pu Try.prog (.idx 1) [a1, (vs.getD 0 .any)] fun v69 =>
  Rd Try.prog V (.ld 1 false) [v69] fun v70 =>
  CaV Try.prog V (.fn (.func 13) [] []) [v70] fun v71 =>
  Pu Try.prog (.idx 1) [a1, (vs.getD 0 .any)] fun v74 =>
  Rd Try.prog V (.ld 1 false) [v74] fun v75 =>
  CaV Try.prog V (.fn (.func 14) [] []) [v75] fun v76 =>
  Pu Try.prog (.bin .neq 4) [v71, v76] fun v77 =>
  GdV v77 false (fun k_68 => k_68 a1 V) V fun v79 V_69 =>
  GdV v77 false (fun k_71 => k_71 (vs.getD 0 .any) V_69) V_69 fun v80 V_72 =>
  GdV v77 false (fun k_74 => Pu Try.prog (.idx 1) [v79, v80] (fun a => k_74 a V_72)) V_72 fun v81 V_75 =>
  GdV v77 false (fun k_77 => Rd Try.prog V_75 (.ld 1 false) [v81] (fun a => k_77 a V_75)) V_75 fun v82 V_78 =>
  GdV v77 false (fun k_80 => CaV Try.prog V_78 (.fn (.func 15) [] []) [v82] (fun a => k_80 a V_78)) V_78 fun v83 V_81 =>
  GdV v77 false (fun k_83 => k_83 a1 V_81) V_81 fun v84 V_84 =>
  GdV v77 false (fun k_86 => k_86 (vs.getD 0 .any) V_84) V_84 fun v85 V_87 =>
  GdV v77 false (fun k_89 => Pu Try.prog (.idx 1) [v84, v85] (fun a => k_89 a V_87)) V_87 fun v86 V_90 =>
  GdV v77 false (fun k_92 => Rd Try.prog V_90 (.ld 1 false) [v86] (fun a => k_92 a V_90)) V_90 fun v87 V_93 =>
  GdV v77 false (fun k_95 => CaV Try.prog V_93 (.fn (.func 16) [] []) [v87] (fun a => k_95 a V_93)) V_93 fun v88 V_96 =>
  GdV v77 false (fun k_98 => Pu Try.prog (.bin .neq 4) [v83, v88] (fun a => k_98 a V_96)) V_96 fun v89 _ =>
  Pu Try.prog .pick [v77, (.p (.bool true)), v89] fun v90 =>
  CdA v90
    (
    Rt Try.prog H.nx (.p (.bool false)) Q
    ) (
    Pu Try.prog (.bin .add 3) [(vs.getD 0 .any), (.p (.int .i64 1))] fun v66 =>
    k_55 [v66]
    )
def S_wordhoardlaw_HeadsBest_L2 (a1 : AV) (Q : AV → AH → Prop) (H : AH) (v116 : AV) (v17 : AV) (v176 : AV) (vs_228 : List AV) (k_227 : List AV → AH → Prop) : AH → Prop :=
  Pu Try.prog .len [a1] fun v185 =>
  Pu Try.prog (.bin .lss 3) [(vs_228.getD 0 .any), v185] fun v186 =>
  CdA v186
    (
    Pu Try.prog (.idx 1) [a1, (vs_228.getD 0 .any)] fun v191 =>
    RdS Try.prog (.ld 1 false) [v191] fun v192 =>
    Pu Try.prog .len [v192] fun v193 =>
    Pu Try.prog (.bin .eql 3) [v193, v116] fun v195 =>
    Gd v195 true (fun k_236 => k_236 a1) fun v197 =>
    Gd v195 true (fun k_238 => k_238 (vs_228.getD 0 .any)) fun v198 =>
    Gd v195 true (fun k_240 => Pu Try.prog (.idx 1) [v197, v198] k_240) fun v199 =>
    Gd v195 true (fun k_242 => RdS Try.prog (.ld 1 false) [v199] k_242) fun v200 =>
    Gd v195 true (fun k_244 => Ca Try.prog (.fn (.func 14) [] []) [v200] k_244) fun v201 =>
    Pu Try.prog .pick [v195, v201, (.p (.bool false))] fun v202 =>
    CdA v202
      (
      Pu Try.prog (.idx 1) [a1, (vs_228.getD 0 .any)] fun v206 =>
      RdS Try.prog (.ld 1 false) [v206] fun v207 =>
      Ca Try.prog v176 [v207] fun _ =>
      Pu Try.prog (.bin .add 3) [(vs_228.getD 0 .any), (.p (.int .i64 1))] fun v188 =>
      k_227 [v188]
      ) (
      Pu Try.prog (.bin .add 3) [(vs_228.getD 0 .any), (.p (.int .i64 1))] fun v188_250 =>
      k_227 [v188_250]
      )
    ) (
    RdS Try.prog (.ld 1 false) [v17] fun v209 =>
    Rt Try.prog H.nx v209 Q
    )
def S_wordhoardlaw_HeadsBest_C3 (a1 : AV) (Q : AV → AH → Prop) (H : AH) (v2 : AV) (v27 : AV) (v7 : AV) (v33 : AV) (v10 : AV) (v39 : AV) (v13 : AV) (v116 : AV) : AH → Prop :=
  Vw fun V_183 =>
  Rd Try.prog V_183 (.ld 1 false) [v2] fun v157 =>
  CaV Try.prog V_183 (.fn (.func 10) [] []) [v157, v27] fun v159 =>
  Rd Try.prog V_183 (.ld 1 false) [v7] fun v160 =>
  Pu Try.prog (.bin .neq 3) [v159, v160] fun v161 =>
  GdV v161 false (fun k_189 => Rd Try.prog V_183 (.ld 1 false) [v2] (fun a => k_189 a V_183)) V_183 fun v163 V_190 =>
  GdV v161 false (fun k_192 => k_192 v33 V_190) V_190 fun v164 V_193 =>
  GdV v161 false (fun k_195 => CaV Try.prog V_193 (.fn (.func 10) [] []) [v163, v164] (fun a => k_195 a V_193)) V_193 fun v165 V_196 =>
  GdV v161 false (fun k_198 => Rd Try.prog V_196 (.ld 1 false) [v10] (fun a => k_198 a V_196)) V_196 fun v166 V_199 =>
  GdV v161 false (fun k_201 => Pu Try.prog (.bin .neq 3) [v165, v166] (fun a => k_201 a V_199)) V_199 fun v167 V_202 =>
  Pu Try.prog .pick [v161, (.p (.bool true)), v167] fun v168 =>
  GdV v168 false (fun k_205 => Rd Try.prog V_202 (.ld 1 false) [v2] (fun a => k_205 a V_202)) V_202 fun v170 V_206 =>
  GdV v168 false (fun k_208 => k_208 v39 V_206) V_206 fun v171 V_209 =>
  GdV v168 false (fun k_211 => CaV Try.prog V_209 (.fn (.func 10) [] []) [v170, v171] (fun a => k_211 a V_209)) V_209 fun v172 V_212 =>
  GdV v168 false (fun k_214 => Rd Try.prog V_212 (.ld 1 false) [v13] (fun a => k_214 a V_212)) V_212 fun v173 V_215 =>
  GdV v168 false (fun k_217 => Pu Try.prog (.bin .neq 3) [v172, v173] (fun a => k_217 a V_215)) V_215 fun v174 _ =>
  Pu Try.prog .pick [v168, (.p (.bool true)), v174] fun v175 =>
  CdA v175
    (
    Rt Try.prog H.nx (.p (.bool false)) Q
    ) (
    Rg 2 fun b_220 =>
    Al (b_220 + 0) (.nw 4 [.p (.bool false)]) [] fun v17 =>
    WrS Try.prog (b_220 + 1) (.st 1) [v17, (.p (.bool true))] fun _ =>
    Pu Try.prog (.mkfn (.func 18) 0) [v2, v17, v7, v10, v13] fun v176 =>
    Pu Try.prog (.bin .leq 3) [v116, (.p (.int .i64 5))] fun v178 =>
    CdA v178
      (
      Ca Try.prog (.fn (.func 19) [] []) [v116, v176] fun _ =>
      RdS Try.prog (.ld 1 false) [v17] fun v182 =>
      Rt Try.prog H.nx v182 Q
      ) (
      LoopA Try.prog 1 (S_wordhoardlaw_HeadsBest_L2 a1 Q H v116 v17 v176) [(.p (.int .i64 0))]
      )
    )
def S_wordhoardlaw_HeadsBest_C4 (a1 : AV) (Q : AV → AH → Prop) (H : AH) (v2 : AV) (v27 : AV) (v7 : AV) (v33 : AV) (v10 : AV) (v39 : AV) (v13 : AV) : AH → Prop :=
  RdS Try.prog (.ld 1 false) [v2] fun v114 =>
  Pu Try.prog .len [v114] fun v115 =>
  Pu Try.prog (.bin .sub 3) [v115, (.p (.int .i64 1))] fun v116 =>
  Pu Try.prog .len [v27] fun v118 =>
  Pu Try.prog (.bin .neq 3) [v118, v116] fun v120 =>
  Gd v120 false (fun k_130 => k_130 v33) fun v122 =>
  Gd v120 false (fun k_132 => Pu Try.prog .len [v122] k_132) fun v123 =>
  Gd v120 false (fun k_134 => k_134 v116) fun v124 =>
  Gd v120 false (fun k_136 => Pu Try.prog (.bin .neq 3) [v123, v124] k_136) fun v125 =>
  Pu Try.prog .pick [v120, (.p (.bool true)), v125] fun v126 =>
  Gd v126 false (fun k_139 => k_139 v39) fun v128 =>
  Gd v126 false (fun k_141 => Pu Try.prog .len [v128] k_141) fun v129 =>
  Gd v126 false (fun k_143 => k_143 v116) fun v130 =>
  Gd v126 false (fun k_145 => Pu Try.prog (.bin .neq 3) [v129, v130] k_145) fun v131 =>
  Pu Try.prog .pick [v126, (.p (.bool true)), v131] fun v132 =>
  Gd v132 false (fun k_148 => k_148 v27) fun v134 =>
  Gd v132 false (fun k_150 => Ca Try.prog (.fn (.func 14) [] []) [v134] k_150) fun v135 =>
  Gd v132 false (fun k_152 => Pu Try.prog (.un .not) [v135] k_152) fun v136 =>
  Pu Try.prog .pick [v132, (.p (.bool true)), v136] fun v137 =>
  Gd v137 false (fun k_155 => k_155 v33) fun v139 =>
  Gd v137 false (fun k_157 => Ca Try.prog (.fn (.func 16) [] []) [v139] k_157) fun v140 =>
  Gd v137 false (fun k_159 => Pu Try.prog (.un .not) [v140] k_159) fun v141 =>
  Pu Try.prog .pick [v137, (.p (.bool true)), v141] fun v142 =>
  Gd v142 false (fun k_162 => k_162 v39) fun v144 =>
  Gd v142 false (fun k_164 => Ca Try.prog (.fn (.func 14) [] []) [v144] k_164) fun v145 =>
  Gd v142 false (fun k_166 => Pu Try.prog (.un .not) [v145] k_166) fun v146 =>
  Pu Try.prog .pick [v142, (.p (.bool true)), v146] fun v147 =>
  Gd v147 false (fun k_169 => k_169 v116) fun v149 =>
  Gd v147 false (fun k_171 => Pu Try.prog (.bin .gtr 3) [v149, (.p (.int .i64 0))] k_171) fun v150 =>
  Gd v147 false (fun k_173 => k_173 v150) fun v151 =>
  Gd v151 true (fun k_175 => k_175 v39) fun v152 =>
  Gd v151 true (fun k_177 => Ca Try.prog (.fn (.func 17) [] []) [v152] k_177) fun v153 =>
  Gd v151 true (fun k_179 => Pu Try.prog (.bin .neq 3) [v153, (.p (.int .i64 1))] k_179) fun v154 =>
  Gd v147 false (fun k_181 => Pu Try.prog .pick [v151, v154, (.p (.bool false))] k_181) fun v155 =>
  Pu Try.prog .pick [v147, (.p (.bool true)), v155] fun v156 =>
  CdA v156
    (
    Rt Try.prog H.nx (.p (.bool false)) Q
    ) (S_wordhoardlaw_HeadsBest_C3 a1 Q H v2 v27 v7 v33 v10 v39 v13 v116)
def S_wordhoardlaw_HeadsBest_C5 (a1 : AV) (Q : AV → AH → Prop) (H : AH) (v2 : AV) (v23 : AV) (v27 : AV) (v7 : AV) (v33 : AV) (v10 : AV) (v39 : AV) (v13 : AV) : AH → Prop :=
  Pu Try.prog (.bin .neq 25) [v23, (.p (.int .i64 0))] fun v92 =>
  CdA v92
    (
    Pu Try.prog .len [v27] fun v94 =>
    Pu Try.prog .len [v33] fun v96 =>
    Pu Try.prog (.bin .add 3) [v94, v96] fun v97 =>
    Pu Try.prog .len [v39] fun v99 =>
    Pu Try.prog (.bin .add 3) [v97, v99] fun v100 =>
    Pu Try.prog (.bin .eql 3) [v100, (.p (.int .i64 0))] fun v101 =>
    Gd v101 true (fun k_110 => RdS Try.prog (.ld 1 false) [v7] k_110) fun v103 =>
    Gd v101 true (fun k_112 => Pu Try.prog (.bin .eql 3) [v103, (.p (.int .i64 0))] k_112) fun v104 =>
    Pu Try.prog .pick [v101, v104, (.p (.bool false))] fun v105 =>
    Gd v105 true (fun k_115 => RdS Try.prog (.ld 1 false) [v10] k_115) fun v107 =>
    Gd v105 true (fun k_117 => Pu Try.prog (.bin .eql 3) [v107, (.p (.int .i64 0))] k_117) fun v108 =>
    Pu Try.prog .pick [v105, v108, (.p (.bool false))] fun v109 =>
    Gd v109 true (fun k_120 => RdS Try.prog (.ld 1 false) [v13] k_120) fun v111 =>
    Gd v109 true (fun k_122 => Pu Try.prog (.bin .eql 3) [v111, (.p (.int .i64 0))] k_122) fun v112 =>
    Pu Try.prog .pick [v109, v112, (.p (.bool false))] fun v113 =>
    Rt Try.prog H.nx v113 Q
    ) (S_wordhoardlaw_HeadsBest_C4 a1 Q H v2 v27 v7 v33 v10 v39 v13)
def S_wordhoardlaw_HeadsBest_L6 (a1 : AV) (Q : AV → AH → Prop) (H : AH) (v2 : AV) (v23 : AV) (v27 : AV) (v7 : AV) (v33 : AV) (v10 : AV) (v39 : AV) (v13 : AV) (vs : List AV) (k_55 : List AV → AH → Prop) : AH → Prop :=
  Pu Try.prog .len [a1] fun v63 =>
  Pu Try.prog (.bin .lss 3) [(vs.getD 0 .any), v63] fun v64 =>
  CdA v64
    (S_wordhoardlaw_HeadsBest_C1 a1 Q H k_55 vs) (S_wordhoardlaw_HeadsBest_C5 a1 Q H v2 v23 v27 v7 v33 v10 v39 v13)
def S_wordhoardlaw_HeadsBest_C7 (a1 : AV) (Q : AV → AH → Prop) (H : AH) (v2 : AV) : AH → Prop :=
  RdS Try.prog (.ld 1 false) [v2] fun v22 =>
  Ca Try.prog (.fn (.func 11) [] []) [v22] fun v23 =>
  Rg 10 fun b_7 =>
  RdS Try.prog (.ld 1 false) [v2] fun v25 =>
  Ca Try.prog (.fn (.func 6) [] []) [v25] fun v26 =>
  Pu Try.prog (.ext 0) [v26] fun v27 =>
  Pu Try.prog (.ext 1) [v26] fun v28 =>
  Pu Try.prog (.ext 2) [v26] fun v29 =>
  Al (b_7 + 6) (.nw 3 [.p (.int .i64 0)]) [] fun v7 =>
  WrS Try.prog (b_7 + 8) (.st 1) [v7, v28] fun _ =>
  Rg 10 fun b_15 =>
  RdS Try.prog (.ld 1 false) [v2] fun v31 =>
  Ca Try.prog (.fn (.func 7) [] []) [v31] fun v32 =>
  Pu Try.prog (.ext 0) [v32] fun v33 =>
  Pu Try.prog (.ext 1) [v32] fun v34 =>
  Pu Try.prog (.ext 2) [v32] fun v35 =>
  Al (b_15 + 6) (.nw 3 [.p (.int .i64 0)]) [] fun v10 =>
  WrS Try.prog (b_15 + 8) (.st 1) [v10, v34] fun _ =>
  Rg 10 fun b_23 =>
  RdS Try.prog (.ld 1 false) [v2] fun v37 =>
  Ca Try.prog (.fn (.func 8) [] []) [v37] fun v38 =>
  Pu Try.prog (.ext 0) [v38] fun v39 =>
  Pu Try.prog (.ext 1) [v38] fun v40 =>
  Pu Try.prog (.ext 2) [v38] fun v41 =>
  Al (b_23 + 6) (.nw 3 [.p (.int .i64 0)]) [] fun v13 =>
  WrS Try.prog (b_23 + 8) (.st 1) [v13, v40] fun _ =>
  RdS Try.prog (.ld 1 false) [v2] fun v42 =>
  Ca Try.prog (.fn (.func 12) [] []) [v42] fun v43 =>
  Pu Try.prog (.bin .neq 25) [v43, v23] fun v45 =>
  Gd v45 false (fun k => k v29) fun v47 =>
  Gd v45 false (fun k_37 => k_37 v23) fun v48 =>
  Gd v45 false (fun k_39 => Pu Try.prog (.bin .neq 25) [v47, v48] k_39) fun v49 =>
  Pu Try.prog .pick [v45, (.p (.bool true)), v49] fun v50 =>
  Gd v50 false (fun k_42 => k_42 v35) fun v52 =>
  Gd v50 false (fun k_44 => k_44 v23) fun v53 =>
  Gd v50 false (fun k_46 => Pu Try.prog (.bin .neq 25) [v52, v53] k_46) fun v54 =>
  Pu Try.prog .pick [v50, (.p (.bool true)), v54] fun v55 =>
  Gd v55 false (fun k_49 => k_49 v41) fun v57 =>
  Gd v55 false (fun k_51 => k_51 v23) fun v58 =>
  Gd v55 false (fun k_53 => Pu Try.prog (.bin .neq 25) [v57, v58] k_53) fun v59 =>
  Pu Try.prog .pick [v55, (.p (.bool true)), v59] fun v60 =>
  CdA v60
    (
    Rt Try.prog H.nx (.p (.bool false)) Q
    ) (
    LoopA Try.prog 1 (S_wordhoardlaw_HeadsBest_L6 a1 Q H v2 v23 v27 v7 v33 v10 v39 v13) [(.p (.int .i64 0))]
    )
def S_wordhoardlaw_HeadsBest (a0 a1 : AV) (Q : AV → AH → Prop) (H : AH) : Prop := (
    Rg 2 fun b =>
    Al (b + 0) (.bx 22) [a0] fun v2 =>
    Ca Try.prog (.fn (.func 5) [] []) [] fun v20 =>
    Pu Try.prog (.un .not) [v20] fun v21 =>
    CdA v21
      (
      Rt Try.prog H.nx (.p (.bool false)) Q
      ) (S_wordhoardlaw_HeadsBest_C7 a1 Q H v2)
    ) H
theorem eq_wordhoardlaw_HeadsBest (a0 a1 : AV) (Q : AV → AH → Prop) (H : AH) : FnA Try.prog 210 (regsF Try.f4) ac_wordhoardlaw_HeadsBest [.tm 4] [a0, a1] H Q = S_wordhoardlaw_HeadsBest a0 a1 Q H := by kernel_rfl
theorem tri_wordhoardlaw_HeadsBest {a0 a1 : AV} {H : AH} {Q : AV → AH → Prop} (h : S_wordhoardlaw_HeadsBest a0 a1 Q H) : Tri Try.prog 4 [a0, a1] H Q :=
  tri_of (Ms := [#[], #[], #[], #[], #[], #[], #[], #[], #[], #[], #[], #[0, 0, 3, 7, 15, 0, 0, 96, 224, 511, 1023, 2047, 4095, 4095, 16383, 32767, 65535, 4095, 4095, 397311, 921599, 2097151, 4194303, 8388607], #[], #[], #[], #[], #[], #[], #[], #[0, 0, 3, 0, 15, 31, 63, 63, 255, 63, 1023, 2047, 4095, 8191, 8191, 32767, 8191, 131071, 262143], #[], #[], #[], #[], #[], #[], #[], #[], #[], #[], #[], #[]]) mixed Try.func4 rfl (by kernel_rfl) (by kernel_rfl) rfl (of_decide_eq_true rfl : 2 ≤ 210) ((eq_wordhoardlaw_HeadsBest a0 a1 Q H).symm ▸ h : FnA Try.prog 210 (regsF Try.f4) ac_wordhoardlaw_HeadsBest [.tm 4] [a0, a1] H Q)

/-! wordhoard/wordhoardlaw.headsBegun -/
def ac_wordhoardlaw_headsBegun : AC := (.seq (.reg 0) (.seq (.reg 1) (.seq (.reg 2) .ret)))
def S_wordhoardlaw_headsBegun (Q : AV → AH → Prop) (H : AH) : Prop := (
    Rg 12 fun b =>
    Al (b + 0) (.bs 3 1 2 [.p (.int .i64 0)] [(0, 1), (1, 1)]) [(.p (.int .i64 1)), (.p (.int .i64 5))] fun v5 =>
    Al (b + 1) (.bs 3 1 2 [.p (.int .i64 0)] [(0, 1), (1, 1)]) [(.p (.int .i64 0)), (.p (.int .i64 9))] fun v6 =>
    Al (b + 2) (.bs 3 1 2 [.p (.int .i64 0)] [(0, 1), (1, 1)]) [(.p (.int .i64 3)), (.p (.int .i64 0))] fun v7 =>
    Al (b + 3) (.bs 24 1 3 [.p (.slice none 0 0)] [(0, 1), (1, 1), (2, 1)]) [v5, v6, v7] fun v8 =>
    Ca Try.prog (.fn (.func 6) [] []) [v8] fun v9 =>
    Pu Try.prog (.ext 0) [v9] fun v10 =>
    Pu Try.prog (.ext 1) [v9] fun v11 =>
    Pu Try.prog (.ext 2) [v9] fun v12 =>
    Rg 12 fun b_10 =>
    Pu Try.prog (.bin .eql 25) [v12, (.p (.int .i64 0))] fun v14 =>
    Gd v14 true (fun k => k v11) fun v16 =>
    Gd v14 true (fun k_15 => Pu Try.prog (.bin .eql 3) [v16, (.p (.int .i64 10))] k_15) fun v17 =>
    Pu Try.prog .pick [v14, v17, (.p (.bool false))] fun v18 =>
    Gd v18 true (fun k_18 => k_18 v10) fun v20 =>
    Gd v18 true (fun k_20 => Al (b_10 + 8) (.bs 3 1 2 [.p (.int .i64 0)] [(0, 1), (1, 1)]) [(.p (.int .i64 0)), (.p (.int .i64 1))] k_20) fun v21 =>
    Gd v18 true (fun k_22 => Ca Try.prog (.fn (.func 20) [] []) [v20, v21] k_22) fun v22 =>
    Pu Try.prog .pick [v18, v22, (.p (.bool false))] fun v23 =>
    Rt Try.prog H.nx v23 Q
    ) H
theorem eq_wordhoardlaw_headsBegun (Q : AV → AH → Prop) (H : AH) : FnA Try.prog 24 (regsF Try.f5) ac_wordhoardlaw_headsBegun [.tm 0] [] H Q = S_wordhoardlaw_headsBegun Q H := by kernel_rfl
theorem tri_wordhoardlaw_headsBegun {H : AH} {Q : AV → AH → Prop} (h : S_wordhoardlaw_headsBegun Q H) : Tri Try.prog 5 [] H Q :=
  tri_of (Ms := [#[], #[], #[]]) mixed Try.func5 rfl (by kernel_rfl) (by kernel_rfl) rfl (of_decide_eq_true rfl : 0 ≤ 24) ((eq_wordhoardlaw_headsBegun Q H).symm ▸ h : FnA Try.prog 24 (regsF Try.f5) ac_wordhoardlaw_headsBegun [.tm 0] [] H Q)

/-! wordhoard/wordhoardlaw.choose -/
def ac_wordhoardlaw_choose : AC := (.seq (.reg 0) (.seq (.seq (.reg 1) (.cond (.tmp 6) (.reg 2) .skip)) (.seq (.reg 3) .ret)))
def S_wordhoardlaw_choose (a0 a1 : AV) (Q : AV → AH → Prop) (H : AH) : Prop := (
    Pu Try.prog (.bin .lss 3) [a0, (.p (.int .i64 0))] fun v6 =>
    CdA v6
      (
      Pu Try.prog (.bin .add 3) [a0, (.p (.int .i64 1))] fun v8 =>
      Pu Try.prog (.un .neg) [v8] fun v9 =>
      Pu Try.prog (.bin .rem 3) [v9, a1] fun v12 =>
      Rt Try.prog H.nx v12 Q
      ) (
      Pu Try.prog (.bin .rem 3) [a0, a1] fun v12_5 =>
      Rt Try.prog H.nx v12_5 Q
      )
    ) H
theorem eq_wordhoardlaw_choose (a0 a1 : AV) (Q : AV → AH → Prop) (H : AH) : FnA Try.prog 13 (regsF Try.f9) ac_wordhoardlaw_choose [.tm 4] [a0, a1] H Q = S_wordhoardlaw_choose a0 a1 Q H := by kernel_rfl
theorem tri_wordhoardlaw_choose {a0 a1 : AV} {H : AH} {Q : AV → AH → Prop} (h : S_wordhoardlaw_choose a0 a1 Q H) : Tri Try.prog 9 [a0, a1] H Q :=
  tri_of (Ms := [#[], #[], #[], #[]]) mixed Try.func9 rfl (by kernel_rfl) (by kernel_rfl) rfl (of_decide_eq_true rfl : 2 ≤ 13) ((eq_wordhoardlaw_choose a0 a1 Q H).symm ▸ h : FnA Try.prog 13 (regsF Try.f9) ac_wordhoardlaw_choose [.tm 4] [a0, a1] H Q)

/-! wordhoard/wordhoardlaw.HeadsBest$1 -/
def ac_wordhoardlaw_HeadsBest_fn1 : AC := (.seq (.reg 0) (.reg 1))
def S_wordhoardlaw_HeadsBest_fn1 (a0 a1 a2 a3 a4 a5 : AV) (Q : AV → AH → Prop) (H : AH) : Prop := (
    RdS Try.prog (.ld 1 false) [a1] fun v8 =>
    Ca Try.prog (.fn (.func 10) [] []) [v8, a0] fun v10 =>
    Rg 27 fun b =>
    RdS Try.prog (.ld 1 false) [a2] fun v11 =>
    Gd v11 true (fun k => k v10) fun v13 =>
    Gd v11 true (fun k_8 => RdS Try.prog (.ld 1 false) [a3] k_8) fun v14 =>
    Gd v11 true (fun k_10 => Pu Try.prog (.bin .leq 3) [v13, v14] k_10) fun v15 =>
    Pu Try.prog .pick [v11, v15, (.p (.bool false))] fun v16 =>
    Gd v16 true (fun k_13 => k_13 v10) fun v18 =>
    Gd v16 true (fun k_15 => RdS Try.prog (.ld 1 false) [a4] k_15) fun v19 =>
    Gd v16 true (fun k_17 => Pu Try.prog (.bin .leq 3) [v18, v19] k_17) fun v20 =>
    Gd v16 true (fun k_19 => k_19 v20) fun v21 =>
    Gd v21 false (fun k_21 => k_21 a0) fun v22 =>
    Gd v21 false (fun k_23 => Ca Try.prog (.fn (.func 16) [] []) [v22] k_23) fun v23 =>
    Gd v21 false (fun k_25 => Pu Try.prog (.un .not) [v23] k_25) fun v24 =>
    Gd v16 true (fun k_27 => Pu Try.prog .pick [v21, (.p (.bool true)), v24] k_27) fun v25 =>
    Pu Try.prog .pick [v16, v25, (.p (.bool false))] fun v26 =>
    Gd v26 true (fun k_30 => k_30 v10) fun v28 =>
    Gd v26 true (fun k_32 => RdS Try.prog (.ld 1 false) [a5] k_32) fun v29 =>
    Gd v26 true (fun k_34 => Pu Try.prog (.bin .leq 3) [v28, v29] k_34) fun v30 =>
    Gd v26 true (fun k_36 => k_36 v30) fun v31 =>
    Gd v31 false (fun k_38 => k_38 a0) fun v32 =>
    Gd v31 false (fun k_40 => Ca Try.prog (.fn (.func 17) [] []) [v32] k_40) fun v33 =>
    Gd v31 false (fun k_42 => Pu Try.prog (.bin .neq 3) [v33, (.p (.int .i64 1))] k_42) fun v34 =>
    Gd v26 true (fun k_44 => Pu Try.prog .pick [v31, (.p (.bool true)), v34] k_44) fun v35 =>
    Pu Try.prog .pick [v26, v35, (.p (.bool false))] fun v36 =>
    WrS Try.prog (b + 26) (.st 1) [a2, v36] fun _ =>
    Rt Try.prog H.nx (.tup []) Q
    ) H
theorem eq_wordhoardlaw_HeadsBest_fn1 (a0 a1 a2 a3 a4 a5 : AV) (Q : AV → AH → Prop) (H : AH) : FnA Try.prog 37 (regsF Try.f18) ac_wordhoardlaw_HeadsBest_fn1 [] [a0, a1, a2, a3, a4, a5] H Q = S_wordhoardlaw_HeadsBest_fn1 a0 a1 a2 a3 a4 a5 Q H := by kernel_rfl
theorem tri_wordhoardlaw_HeadsBest_fn1 {a0 a1 a2 a3 a4 a5 : AV} {H : AH} {Q : AV → AH → Prop} (h : S_wordhoardlaw_HeadsBest_fn1 a0 a1 a2 a3 a4 a5 Q H) : Tri Try.prog 18 [a0, a1, a2, a3, a4, a5] H Q :=
  tri_of (Ms := [#[], #[]]) mixed Try.func18 rfl (by kernel_rfl) (by kernel_rfl) rfl (of_decide_eq_true rfl : 6 ≤ 37) ((eq_wordhoardlaw_HeadsBest_fn1 a0 a1 a2 a3 a4 a5 Q H).symm ▸ h : FnA Try.prog 37 (regsF Try.f18) ac_wordhoardlaw_HeadsBest_fn1 [] [a0, a1, a2, a3, a4, a5] H Q)
end Go.Proofs.Ytaepnmnoofigjaa

/- Abstract walks of functions, written by a program (wip/aw/aw.py): each equation is checked by the kernel. -/
namespace Go.Proofs.Ytaepnmnoofigjaa
open Go.RowKit

/-! wordhoard/heads.grown -/
def ac_heads_grown : AC := (.seq (.reg 0) (.seq (.reg 1) (.seq (.seq (.reg 2) (.block 0 (.loop [32] [(6, 7), (33, 39)] (.seq (.reg 3) (.seq (.cond (.tmp 33) .skip (.exit 0)) (.seq (.block 1 (.seq (.reg 4) (.reg 5))) (.reg 6))))))) (.seq (.seq (.reg 7) (.block 2 (.loop [41] [(7, 9), (42, 84)] (.seq (.reg 8) (.seq (.cond (.tmp 42) .skip (.exit 2)) (.seq (.block 3 (.seq (.reg 9) (.seq (.reg 10) (.cond (.tmp 77) (.reg 11) .skip)))) (.reg 12))))))) (.seq (.reg 13) (.seq (.seq (.reg 14) (.cond (.tmp 89) (.seq (.reg 15) (.seq (.seq (.reg 16) (.block 4 (.loop [10, 11] [(90, 106)] (.seq (.seq (.reg 17) (.cond (.tmp 92) .skip (.exit 4))) (.seq (.block 5 (.reg 18)) (.reg 19)))))) (.seq (.reg 20) .ret))) .skip)) (.seq (.reg 21) (.seq (.reg 22) (.seq (.seq (.reg 23) (.block 6 (.loop [13, 110] [(14, 15), (111, 130)] (.seq (.reg 24) (.seq (.cond (.tmp 111) .skip (.exit 6)) (.seq (.block 7 (.seq (.reg 25) (.seq (.seq (.reg 26) (.cond (.tmp 115) (.seq (.reg 27) (.exit 7)) .skip)) (.seq (.reg 28) (.reg 29))))) (.reg 30))))))) (.seq (.reg 31) (.seq (.reg 32) (.seq (.seq (.reg 33) (.block 8 (.loop [16, 136] [(17, 22), (137, 179)] (.seq (.reg 34) (.seq (.cond (.tmp 137) .skip (.exit 8)) (.seq (.block 9 (.seq (.reg 35) (.seq (.reg 36) (.seq (.seq (.reg 37) (.cond (.tmp 153) (.exit 9) .skip)) (.seq (.reg 38) (.seq (.seq (.reg 39) (.cond (.tmp 158) (.reg 40) .skip)) (.reg 41))))))) (.reg 42))))))) (.seq (.reg 43) (.seq (.reg 44) (.seq (.seq (.reg 45) (.block 10 (.loop [22, 23, 184] [(25, 26), (185, 212)] (.seq (.reg 46) (.seq (.cond (.tmp 185) .skip (.exit 10)) (.seq (.block 11 (.seq (.reg 47) (.seq (.reg 48) (.seq (.reg 49) (.cond (.tmp 205) (.reg 50) .skip))))) (.reg 51))))))) (.seq (.seq (.reg 52) (.block 12 (.loop [22, 214] [(27, 28), (215, 233)] (.seq (.reg 53) (.seq (.cond (.tmp 215) .skip (.exit 12)) (.seq (.block 13 (.seq (.reg 54) (.seq (.reg 55) (.cond (.tmp 220) (.reg 56) .skip)))) (.reg 57))))))) (.seq (.reg 58) .ret)))))))))))))))))
def S_heads_grown_C1 (a1 : AV) (v29 : AV) (k_12 : List AV → AH → Prop) (vs_13 : List AV) : AH → Prop :=
  Rg 6 fun b_15 =>
  Pu Try.prog (.idx 4) [a1, (vs_13.getD 0 .any)] fun v44 =>
  RdS Try.prog (.ld 4 true) [v44] fun v45 =>
  Al (b_15 + 3) (.nw 54 [.p (.int .i64 0), .p (.int .i64 0), .p (.int .i64 0), .p (.int .i64 0)]) [] fun v8 =>
  WrS Try.prog (b_15 + 5) (.st 4) [v8, v45] fun _ =>
  Vw fun V =>
  Pu Try.prog (.addOff 1) [v8] fun v46 =>
  Rd Try.prog V (.ld 1 false) [v46] fun v47 =>
  Pu Try.prog (.bin .neq 3) [v47, (.p (.int .i64 0))] fun v48 =>
  GdV v48 true (fun k_25 => Pu Try.prog (.addOff 0) [v8] (fun a => k_25 a V)) V fun v50 V_26 =>
  GdV v48 true (fun k_28 => Rd Try.prog V_26 (.ld 1 false) [v50] (fun a => k_28 a V_26)) V_26 fun v51 V_29 =>
  GdV v48 true (fun k_31 => Pu Try.prog (.addOff 1) [v8] (fun a => k_31 a V_29)) V_29 fun v52 V_32 =>
  GdV v48 true (fun k_34 => Rd Try.prog V_32 (.ld 1 false) [v52] (fun a => k_34 a V_32)) V_32 fun v53 V_35 =>
  GdV v48 true (fun k_37 => Pu Try.prog (.bin .neq 3) [v51, v53] (fun a => k_37 a V_35)) V_35 fun v54 V_38 =>
  Pu Try.prog .pick [v48, v54, (.p (.bool false))] fun v55 =>
  GdV v55 true (fun k_41 => k_41 v29 V_38) V_38 fun v57 V_42 =>
  GdV v55 true (fun k_44 => Pu Try.prog (.addOff 1) [v8] (fun a => k_44 a V_42)) V_42 fun v58 V_45 =>
  GdV v55 true (fun k_47 => Rd Try.prog V_45 (.ld 1 false) [v58] (fun a => k_47 a V_45)) V_45 fun v59 V_48 =>
  GdV v55 true (fun k_50 => Pu Try.prog (.idx 1) [v57, v59] (fun a => k_50 a V_48)) V_48 fun v60 V_51 =>
  GdV v55 true (fun k_53 => Rd Try.prog V_51 (.ld 1 false) [v60] (fun a => k_53 a V_51)) V_51 fun v61 V_54 =>
  GdV v55 true (fun k_56 => Pu Try.prog (.bin .lss 3) [v61, (.p (.int .i64 0))] (fun a => k_56 a V_54)) V_54 fun v62 V_57 =>
  GdV v55 true (fun k_59 => k_59 v62 V_57) V_57 fun v63 V_60 =>
  GdV v63 false (fun k_62 => Pu Try.prog (.addOff 2) [v8] (fun a => k_62 a V_60)) V_60 fun v64 V_63 =>
  GdV v63 false (fun k_65 => Rd Try.prog V_63 (.ld 1 false) [v64] (fun a => k_65 a V_63)) V_63 fun v65 V_66 =>
  GdV v63 false (fun k_68 => k_68 a1 V_66) V_66 fun v66 V_69 =>
  GdV v63 false (fun k_71 => k_71 v29 V_69) V_69 fun v67 V_72 =>
  GdV v63 false (fun k_74 => Pu Try.prog (.addOff 1) [v8] (fun a => k_74 a V_72)) V_72 fun v68 V_75 =>
  GdV v63 false (fun k_77 => Rd Try.prog V_75 (.ld 1 false) [v68] (fun a => k_77 a V_75)) V_75 fun v69 V_78 =>
  GdV v63 false (fun k_80 => Pu Try.prog (.idx 1) [v67, v69] (fun a => k_80 a V_78)) V_78 fun v70 V_81 =>
  GdV v63 false (fun k_83 => Rd Try.prog V_81 (.ld 1 false) [v70] (fun a => k_83 a V_81)) V_81 fun v71 V_84 =>
  GdV v63 false (fun k_86 => Pu Try.prog (.idx 4) [v66, v71] (fun a => k_86 a V_84)) V_84 fun v72 V_87 =>
  GdV v63 false (fun k_89 => Pu Try.prog (.addOff 2) [v72] (fun a => k_89 a V_87)) V_87 fun v73 V_90 =>
  GdV v63 false (fun k_92 => Rd Try.prog V_90 (.ld 1 false) [v73] (fun a => k_92 a V_90)) V_90 fun v74 V_93 =>
  GdV v63 false (fun k_95 => Pu Try.prog (.bin .gtr 3) [v65, v74] (fun a => k_95 a V_93)) V_93 fun v75 V_96 =>
  GdV v55 true (fun k_98 => Pu Try.prog .pick [v63, (.p (.bool true)), v75] (fun a => k_98 a V_96)) V_96 fun v76 _ =>
  Pu Try.prog .pick [v55, v76, (.p (.bool false))] fun v77 =>
  CdA v77
    (
    Rg 6 fun b_101 =>
    Pu Try.prog (.addOff 1) [v8] fun v79 =>
    RdS Try.prog (.ld 1 false) [v79] fun v80 =>
    Pu Try.prog (.idx 1) [v29, v80] fun v82 =>
    WrS Try.prog (b_101 + 5) (.st 1) [v82, (vs_13.getD 0 .any)] fun _ =>
    Pu Try.prog (.bin .add 3) [(vs_13.getD 0 .any), (.p (.int .i64 1))] fun v83 =>
    k_12 [v83]
    ) (
    Pu Try.prog (.bin .add 3) [(vs_13.getD 0 .any), (.p (.int .i64 1))] fun v83_107 =>
    k_12 [v83_107]
    )
def S_heads_grown_L2 (a0 : AV) (a1 : AV) (Q : AV → AH → Prop) (H : AH) (v29 : AV) (vs_111 : List AV) (k_110 : List AV → AH → Prop) : AH → Prop :=
  Pu Try.prog (.bin .lss 3) [(vs_111.getD 1 .any), a0] fun v92 =>
  CdA v92
    (
    Rg 12 fun b_113 =>
    Pu Try.prog (.idx 1) [v29, (vs_111.getD 1 .any)] fun v99 =>
    RdS Try.prog (.ld 1 false) [v99] fun v100 =>
    Pu Try.prog (.idx 4) [a1, v100] fun v101 =>
    Pu Try.prog (.addOff 3) [v101] fun v102 =>
    RdS Try.prog (.ld 1 false) [v102] fun v103 =>
    Al (b_113 + 9) (.bs 3 1 1 [.p (.int .i64 0)] [(0, 1)]) [v103] fun v104 =>
    WrS Try.prog (b_113 + 10) (.app 3 1 8) [(vs_111.getD 0 .any), v104] fun v105 =>
    Pu Try.prog (.bin .add 3) [(vs_111.getD 1 .any), (.p (.int .i64 1))] fun v94 =>
    k_110 [v105, v94]
    ) (
    Rt Try.prog H.nx (vs_111.getD 0 .any) Q
    )
def S_heads_grown_C3 (a1 : AV) (v29 : AV) (v133 : AV) (k_142 : List AV → AH → Prop) (vs_143 : List AV) (v18 : AV) (v145 : AV) (v150 : AV) : AH → Prop :=
  Pu Try.prog (.addOff 2) [v18] fun v154 =>
  RdS Try.prog (.ld 1 false) [v154] fun v155 =>
  Pu Try.prog (.bin .eql 3) [v150, v133] fun v158 =>
  CdA v158
    (
    Pu Try.prog (.addOff 1) [v18] fun v162 =>
    RdS Try.prog (.ld 1 false) [v162] fun v163 =>
    Pu Try.prog (.idx 1) [v29, v163] fun v164 =>
    RdS Try.prog (.ld 1 false) [v164] fun v165 =>
    Pu Try.prog (.idx 4) [a1, v165] fun v166 =>
    Pu Try.prog (.addOff 2) [v166] fun v167 =>
    RdS Try.prog (.ld 1 false) [v167] fun v168 =>
    Pu Try.prog (.bin .sub 3) [v155, v168] fun v169 =>
    Rg 9 fun b_172 =>
    Pu Try.prog (.bld [.p (.int .i64 0), .p (.int .i64 0), .p (.int .i64 0), .p (.int .i64 0)] [(0, 1), (1, 1), (2, 1), (3, 1)]) [v145, v150, v169, (vs_143.getD 1 .any)] fun v175 =>
    Al (b_172 + 6) (.bs 54 4 1 [.p (.int .i64 0), .p (.int .i64 0), .p (.int .i64 0), .p (.int .i64 0)] [(0, 4)]) [v175] fun v176 =>
    WrS Try.prog (b_172 + 7) (.app 54 4 32) [(vs_143.getD 0 .any), v176] fun v177 =>
    Pu Try.prog (.bin .add 3) [(vs_143.getD 1 .any), (.p (.int .i64 1))] fun v178_176 =>
    k_142 [v177, v178_176]
    ) (
    Rg 9 fun b_177 =>
    Pu Try.prog (.bld [.p (.int .i64 0), .p (.int .i64 0), .p (.int .i64 0), .p (.int .i64 0)] [(0, 1), (1, 1), (2, 1), (3, 1)]) [v145, v150, v155, (vs_143.getD 1 .any)] fun v175_178 =>
    Al (b_177 + 6) (.bs 54 4 1 [.p (.int .i64 0), .p (.int .i64 0), .p (.int .i64 0), .p (.int .i64 0)] [(0, 4)]) [v175_178] fun v176_179 =>
    WrS Try.prog (b_177 + 7) (.app 54 4 32) [(vs_143.getD 0 .any), v176_179] fun v177_180 =>
    Pu Try.prog (.bin .add 3) [(vs_143.getD 1 .any), (.p (.int .i64 1))] fun v178_181 =>
    k_142 [v177_180, v178_181]
    )
def S_heads_grown_L4 (a1 : AV) (Q : AV → AH → Prop) (H : AH) (v29 : AV) (v87 : AV) (vs_186 : List AV) (v213 : AV) (vs_209 : List AV) (k_208 : List AV → AH → Prop) : AH → Prop :=
  Pu Try.prog (.bin .lss 3) [(vs_209.getD 1 .any), v213] fun v215 =>
  CdA v215
    (
    Pu Try.prog (.idx 1) [v87, (vs_209.getD 1 .any)] fun v216 =>
    RdS Try.prog (.ld 1 false) [v216] fun v217 =>
    Pu Try.prog (.bin .neq 3) [v217, (vs_186.getD 1 .any)] fun v220 =>
    CdA v220
      (
      Rg 12 fun b_214 =>
      Pu Try.prog (.idx 1) [v29, v217] fun v225 =>
      RdS Try.prog (.ld 1 false) [v225] fun v226 =>
      Pu Try.prog (.idx 4) [a1, v226] fun v227 =>
      Pu Try.prog (.addOff 3) [v227] fun v228 =>
      RdS Try.prog (.ld 1 false) [v228] fun v229 =>
      Al (b_214 + 9) (.bs 3 1 1 [.p (.int .i64 0)] [(0, 1)]) [v229] fun v230 =>
      WrS Try.prog (b_214 + 10) (.app 3 1 8) [(vs_209.getD 0 .any), v230] fun v231 =>
      Pu Try.prog (.bin .add 3) [(vs_209.getD 1 .any), (.p (.int .i64 1))] fun v232 =>
      k_208 [v231, v232]
      ) (
      Pu Try.prog (.bin .add 3) [(vs_209.getD 1 .any), (.p (.int .i64 1))] fun v232_223 =>
      k_208 [(vs_209.getD 0 .any), v232_223]
      )
    ) (
    Rt Try.prog H.nx (vs_209.getD 0 .any) Q
    )
def S_heads_grown_L5 (a1 : AV) (Q : AV → AH → Prop) (H : AH) (v29 : AV) (v87 : AV) (v108 : AV) (v133 : AV) (v182 : AV) (v183 : AV) (vs_186 : List AV) (k_185 : List AV → AH → Prop) : AH → Prop :=
  Pu Try.prog (.bin .lss 3) [(vs_186.getD 2 .any), v183] fun v185 =>
  CdA v185
    (
    Pu Try.prog (.idx 1) [v182, (vs_186.getD 2 .any)] fun v186 =>
    RdS Try.prog (.ld 1 false) [v186] fun v187 =>
    Rg 9 fun b_190 =>
    Pu Try.prog (.idx 4) [a1, v187] fun v191 =>
    Pu Try.prog (.addOff 3) [v191] fun v192 =>
    RdS Try.prog (.ld 1 false) [v192] fun v193 =>
    Al (b_190 + 6) (.bs 3 1 1 [.p (.int .i64 0)] [(0, 1)]) [v193] fun v194 =>
    WrS Try.prog (b_190 + 7) (.app 3 1 8) [(vs_186.getD 0 .any), v194] fun v195 =>
    Pu Try.prog (.idx 4) [a1, v187] fun v199 =>
    Pu Try.prog (.addOff 1) [v199] fun v200 =>
    RdS Try.prog (.ld 1 false) [v200] fun v201 =>
    Pu Try.prog (.idx 1) [v108, v201] fun v202 =>
    RdS Try.prog (.ld 1 false) [v202] fun v203 =>
    Pu Try.prog (.bin .eql 3) [v203, v133] fun v205 =>
    CdA v205
      (
      Pu Try.prog (.idx 4) [a1, v187] fun v208 =>
      Pu Try.prog (.addOff 1) [v208] fun v209 =>
      RdS Try.prog (.ld 1 false) [v209] fun v210 =>
      Pu Try.prog (.bin .add 3) [(vs_186.getD 2 .any), (.p (.int .i64 1))] fun v211 =>
      k_185 [v195, v210, v211]
      ) (
      Pu Try.prog (.bin .add 3) [(vs_186.getD 2 .any), (.p (.int .i64 1))] fun v211_206 =>
      k_185 [v195, (vs_186.getD 1 .any), v211_206]
      )
    ) (
    Pu Try.prog .len [v87] fun v213 =>
    LoopA Try.prog 2 (S_heads_grown_L4 a1 Q H v29 v87 vs_186 v213) [(vs_186.getD 0 .any), (.p (.int .i64 0))]
    )
def S_heads_grown_L6 (a1 : AV) (Q : AV → AH → Prop) (H : AH) (v29 : AV) (v87 : AV) (v108 : AV) (v133 : AV) (v135 : AV) (vs_143 : List AV) (k_142 : List AV → AH → Prop) : AH → Prop :=
  Pu Try.prog (.bin .lss 3) [(vs_143.getD 1 .any), v135] fun v137 =>
  CdA v137
    (
    Rg 6 fun b_145 =>
    Pu Try.prog (.idx 4) [a1, (vs_143.getD 1 .any)] fun v139 =>
    RdS Try.prog (.ld 4 true) [v139] fun v140 =>
    Al (b_145 + 3) (.nw 54 [.p (.int .i64 0), .p (.int .i64 0), .p (.int .i64 0), .p (.int .i64 0)]) [] fun v18 =>
    WrS Try.prog (b_145 + 5) (.st 4) [v18, v140] fun _ =>
    Vw fun V_150 =>
    Pu Try.prog (.addOff 0) [v18] fun v142 =>
    Rd Try.prog V_150 (.ld 1 false) [v142] fun v143 =>
    Pu Try.prog (.idx 1) [v108, v143] fun v144 =>
    Rd Try.prog V_150 (.ld 1 false) [v144] fun v145 =>
    Pu Try.prog (.addOff 1) [v18] fun v147 =>
    Rd Try.prog V_150 (.ld 1 false) [v147] fun v148 =>
    Pu Try.prog (.idx 1) [v108, v148] fun v149 =>
    Rd Try.prog V_150 (.ld 1 false) [v149] fun v150 =>
    Pu Try.prog (.bin .eql 3) [v145, v150] fun v153 =>
    CdA v153
      (
      Pu Try.prog (.bin .add 3) [(vs_143.getD 1 .any), (.p (.int .i64 1))] fun v178 =>
      k_142 [(vs_143.getD 0 .any), v178]
      ) (S_heads_grown_C3 a1 v29 v133 k_142 vs_143 v18 v145 v150)
    ) (
    Pu Try.prog (.bin .add 3) [v133, (.p (.int .i64 1))] fun v180 =>
    Ca Try.prog (.fn (.func 32) [] []) [v180, (vs_143.getD 0 .any)] fun v182 =>
    Pu Try.prog .len [v182] fun v183 =>
    LoopA Try.prog 3 (S_heads_grown_L5 a1 Q H v29 v87 v108 v133 v182 v183) [(.p (.slice none 0 0)), (.p (.int .i64 (-1))), (.p (.int .i64 0))]
    )
def S_heads_grown_L7 (a0 : AV) (a1 : AV) (Q : AV → AH → Prop) (H : AH) (v29 : AV) (v87 : AV) (v108 : AV) (vs_125 : List AV) (k_124 : List AV → AH → Prop) : AH → Prop :=
  Pu Try.prog (.bin .lss 3) [(vs_125.getD 1 .any), a0] fun v111 =>
  CdA v111
    (
    Ca Try.prog (.fn (.func 35) [] []) [v87, (vs_125.getD 1 .any)] fun v115 =>
    CdA v115
      (
      Rg 8 fun b_128 =>
      Pu Try.prog .len [v87] fun v120 =>
      Pu Try.prog (.bin .sub 3) [a0, v120] fun v121 =>
      Pu Try.prog (.idx 1) [v108, (vs_125.getD 1 .any)] fun v122 =>
      WrS Try.prog (b_128 + 7) (.st 1) [v122, v121] fun _ =>
      Pu Try.prog (.bin .add 3) [(vs_125.getD 1 .any), (.p (.int .i64 1))] fun v129 =>
      k_124 [(vs_125.getD 0 .any), v129]
      ) (
      Rg 5 fun b_134 =>
      Pu Try.prog (.idx 1) [v108, (vs_125.getD 1 .any)] fun v126 =>
      WrS Try.prog (b_134 + 4) (.st 1) [v126, (vs_125.getD 0 .any)] fun _ =>
      Pu Try.prog (.bin .add 3) [(vs_125.getD 0 .any), (.p (.int .i64 1))] fun v128 =>
      Pu Try.prog (.bin .add 3) [(vs_125.getD 1 .any), (.p (.int .i64 1))] fun v129_138 =>
      k_124 [v128, v129_138]
      )
    ) (
    Pu Try.prog .len [v87] fun v132 =>
    Pu Try.prog (.bin .sub 3) [a0, v132] fun v133 =>
    Pu Try.prog .len [a1] fun v135 =>
    LoopA Try.prog 2 (S_heads_grown_L6 a1 Q H v29 v87 v108 v133 v135) [(.p (.slice none 0 0)), (.p (.int .i64 0))]
    )
def S_heads_grown_L8 (a0 : AV) (a1 : AV) (Q : AV → AH → Prop) (H : AH) (v29 : AV) (v40 : AV) (vs_13 : List AV) (k_12 : List AV → AH → Prop) : AH → Prop :=
  Pu Try.prog (.bin .lss 3) [(vs_13.getD 0 .any), v40] fun v42 =>
  CdA v42
    (S_heads_grown_C1 a1 v29 k_12 vs_13) (
    Ca Try.prog (.fn (.func 34) [] []) [a0, a1, v29] fun v87 =>
    Pu Try.prog (.bin .eql 24) [v87, (.p (.slice none 0 0))] fun v89 =>
    CdA v89
      (
      LoopA Try.prog 2 (S_heads_grown_L2 a0 a1 Q H v29) [(.p (.slice none 0 0)), (.p (.int .i64 1))]
      ) (
      Rg 3 fun b_122 =>
      Al (b_122 + 1) (.ms 3 1 8 [.p (.int .i64 0)]) [a0, a0] fun v108 =>
      LoopA Try.prog 2 (S_heads_grown_L7 a0 a1 Q H v29 v87 v108) [(.p (.int .i64 0)), (.p (.int .i64 0))]
      )
    )
def S_heads_grown_L9 (a0 : AV) (a1 : AV) (Q : AV → AH → Prop) (H : AH) (v29 : AV) (v31 : AV) (vs : List AV) (k : List AV → AH → Prop) : AH → Prop :=
  Pu Try.prog (.bin .lss 3) [(vs.getD 0 .any), v31] fun v33 =>
  CdA v33
    (
    Rg 4 fun b_7 =>
    Pu Try.prog (.idx 1) [v29, (vs.getD 0 .any)] fun v37 =>
    WrS Try.prog (b_7 + 3) (.st 1) [v37, (.p (.int .i64 (-1)))] fun _ =>
    Pu Try.prog (.bin .add 3) [(vs.getD 0 .any), (.p (.int .i64 1))] fun v38 =>
    k [v38]
    ) (
    Pu Try.prog .len [a1] fun v40 =>
    LoopA Try.prog 1 (S_heads_grown_L8 a0 a1 Q H v29 v40) [(.p (.int .i64 0))]
    )
def S_heads_grown (a0 a1 : AV) (Q : AV → AH → Prop) (H : AH) : Prop := (
    Rg 3 fun b =>
    Al (b + 1) (.ms 3 1 8 [.p (.int .i64 0)]) [a0, a0] fun v29 =>
    Pu Try.prog .len [v29] fun v31 =>
    LoopA Try.prog 1 (S_heads_grown_L9 a0 a1 Q H v29 v31) [(.p (.int .i64 0))]
    ) H
set_option maxHeartbeats 20000000 in
theorem eq_heads_grown (a0 a1 : AV) (Q : AV → AH → Prop) (H : AH) : FnA Try.prog 234 (regsF Try.f32) ac_heads_grown [.tm 4] [a0, a1] H Q = S_heads_grown a0 a1 Q H := by kernel_rfl
theorem tri_heads_grown {a0 a1 : AV} {H : AH} {Q : AV → AH → Prop} (h : S_heads_grown a0 a1 Q H) : Tri Try.prog 32 [a0, a1] H Q :=
  tri_of (Ms := [#[], #[], #[], #[], #[], #[], #[], #[], #[], #[], #[0, 1, 3, 7, 15, 31, 15, 79, 255, 511, 1023, 2047, 2047, 6143, 16383, 32767, 65535, 131071, 262143, 524287, 262143, 262143, 262143, 4456447, 14942207, 31719423, 66322431, 133431295, 267649023, 536870911, 1073741823, 2147483647], #[], #[], #[], #[], #[], #[], #[], #[], #[], #[], #[], #[], #[], #[], #[], #[], #[], #[], #[], #[], #[], #[], #[], #[], #[], #[0, 0, 2, 7, 15, 0, 0, 64, 224, 480, 31, 2047], #[], #[], #[], #[], #[], #[], #[], #[], #[], #[], #[], #[], #[], #[], #[], #[], #[], #[], #[], #[], #[], #[]]) mixed Try.func32 rfl (by kernel_rfl) (by kernel_rfl) rfl (of_decide_eq_true rfl : 2 ≤ 234) ((eq_heads_grown a0 a1 Q H).symm ▸ h : FnA Try.prog 234 (regsF Try.f32) ac_heads_grown [.tm 4] [a0, a1] H Q)
end Go.Proofs.Ytaepnmnoofigjaa
