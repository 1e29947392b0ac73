/- Abstract walks of functions, written by a program (wip/aw/aw.py): each equation is checked by the kernel. -/
import Derived.Test.YtcmnjoepadjioaaAwG
namespace Go.Proofs.Ytcmnjoepadjioaa
open Go.RowKit

/-! slices.ContainsFunc[[]int,int] -/
def ac_slices_ContainsFunc_s_int_int : AC := (.seq (.reg 0) (.seq (.reg 1) .ret))
def S_slices_ContainsFunc_s_int_int (a0 a1 : AV) (Q : AV → AH → Prop) (H : AH) : Prop := (
    Ca Try.prog (.fn (.func 37) [] []) [a0, a1] fun v7 =>
    Pu Try.prog (.bin .geq 3) [v7, (.p (.int .i64 0))] fun v8 =>
    Rt Try.prog H.nx v8 Q
    ) H
theorem eq_slices_ContainsFunc_s_int_int (a0 a1 : AV) (Q : AV → AH → Prop) (H : AH) : FnA Try.prog 9 (regsF Try.f19) ac_slices_ContainsFunc_s_int_int [.tm 4] [a0, a1] H Q = S_slices_ContainsFunc_s_int_int a0 a1 Q H := by kernel_rfl
theorem tri_slices_ContainsFunc_s_int_int {a0 a1 : AV} {H : AH} {Q : AV → AH → Prop} (h : S_slices_ContainsFunc_s_int_int a0 a1 Q H) : Tri Try.prog 19 [a0, a1] H Q :=
  tri_of (Ms := [#[], #[]]) mixed Try.func19 rfl (by kernel_rfl) (by kernel_rfl) rfl (of_decide_eq_true rfl : 2 ≤ 9) ((eq_slices_ContainsFunc_s_int_int a0 a1 Q H).symm ▸ h : FnA Try.prog 9 (regsF Try.f19) ac_slices_ContainsFunc_s_int_int [.tm 4] [a0, a1] H Q)

/-! slices.ContainsFunc[[]wordhoard/api.Claim,wordhoard/api.Claim] -/
def ac_slices_ContainsFunc_s_api_Claim_api_Claim : AC := (.seq (.reg 0) (.seq (.reg 1) .ret))
def S_slices_ContainsFunc_s_api_Claim_api_Claim (a0 a1 : AV) (Q : AV → AH → Prop) (H : AH) : Prop := (
    Ca Try.prog (.fn (.func 44) [] []) [a0, a1] fun v7 =>
    Pu Try.prog (.bin .geq 3) [v7, (.p (.int .i64 0))] fun v8 =>
    Rt Try.prog H.nx v8 Q
    ) H
theorem eq_slices_ContainsFunc_s_api_Claim_api_Claim (a0 a1 : AV) (Q : AV → AH → Prop) (H : AH) : FnA Try.prog 9 (regsF Try.f31) ac_slices_ContainsFunc_s_api_Claim_api_Claim [.tm 4] [a0, a1] H Q = S_slices_ContainsFunc_s_api_Claim_api_Claim a0 a1 Q H := by kernel_rfl
theorem tri_slices_ContainsFunc_s_api_Claim_api_Claim {a0 a1 : AV} {H : AH} {Q : AV → AH → Prop} (h : S_slices_ContainsFunc_s_api_Claim_api_Claim a0 a1 Q H) : Tri Try.prog 31 [a0, a1] H Q :=
  tri_of (Ms := [#[], #[]]) mixed Try.func31 rfl (by kernel_rfl) (by kernel_rfl) rfl (of_decide_eq_true rfl : 2 ≤ 9) ((eq_slices_ContainsFunc_s_api_Claim_api_Claim a0 a1 Q H).symm ▸ h : FnA Try.prog 9 (regsF Try.f31) ac_slices_ContainsFunc_s_api_Claim_api_Claim [.tm 4] [a0, a1] H Q)

/-! slices.DeleteFunc[[]int,int] -/
def ac_slices_DeleteFunc_s_int_int : AC := (.seq (.reg 0) (.seq (.reg 1) (.seq (.seq (.reg 2) (.cond (.tmp 12) (.seq (.reg 3) .ret) .skip)) (.seq (.seq (.reg 4) (.block 0 (.loop [5, 6] [(7, 8), (16, 36)] (.seq (.seq (.reg 5) (.cond (.tmp 19) .skip (.exit 0))) (.seq (.block 1 (.seq (.reg 6) (.seq (.reg 7) (.cond (.tmp 29) (.seq (.reg 8) (.reg 9)) .skip)))) (.reg 10)))))) (.seq (.reg 11) (.seq (.reg 12) .ret))))))
def S_slices_DeleteFunc_s_int_int (a0 a1 : AV) (Q : AV → AH → Prop) (H : AH) : Prop := (
    Ca Try.prog (.fn (.func 37) [] []) [a0, a1] fun v10 =>
    Pu Try.prog (.bin .eql 3) [v10, (.p (.int .i64 (-1)))] fun v12 =>
    CdA v12
      (
      Rt Try.prog H.nx a0 Q
      ) (
      Pu Try.prog (.bin .add 3) [v10, (.p (.int .i64 1))] fun v15 =>
      LoopA Try.prog 2 (fun vs k =>
        Pu Try.prog .len [a0] fun v18 =>
        Pu Try.prog (.bin .lss 3) [(vs.getD 1 .any), v18] fun v19 =>
        CdA v19
          (
          Pu Try.prog (.idx 1) [a0, (vs.getD 1 .any)] fun v24 =>
          RdS Try.prog (.ld 1 false) [v24] fun v25 =>
          Ca Try.prog a1 [v25] fun v28 =>
          Pu Try.prog (.un .not) [v28] fun v29 =>
          CdA v29
            (
            Rg 5 fun b =>
            Pu Try.prog (.idx 1) [a0, (vs.getD 0 .any)] fun v33 =>
            WrS Try.prog (b + 4) (.st 1) [v33, v25] fun vn =>
            Pu Try.prog (.bin .add 3) [(vs.getD 0 .any), (.p (.int .i64 1))] fun v35 =>
            Pu Try.prog (.bin .add 3) [(vs.getD 1 .any), (.p (.int .i64 1))] fun v21 =>
            k [v35, v21]
            ) (
            Pu Try.prog (.bin .add 3) [(vs.getD 1 .any), (.p (.int .i64 1))] fun v21_17 =>
            k [(vs.getD 0 .any), v21_17]
            )
          ) (
          Rg 4 fun b_18 =>
          Pu Try.prog (.slc 1 true false) [a0, (vs.getD 0 .any)] fun v38 =>
          WrS Try.prog (b_18 + 3) (.clr 1 [.p (.int .i64 0)]) [v38] fun vn_20 =>
          Pu Try.prog (.slc 1 false true) [a0, (vs.getD 0 .any)] fun v41 =>
          Rt Try.prog H.nx v41 Q
          )
        ) [v10, v15]
      )
    ) H
theorem eq_slices_DeleteFunc_s_int_int (a0 a1 : AV) (Q : AV → AH → Prop) (H : AH) : FnA Try.prog 42 (regsF Try.f33) ac_slices_DeleteFunc_s_int_int [.tm 4] [a0, a1] H Q = S_slices_DeleteFunc_s_int_int a0 a1 Q H := by kernel_rfl
theorem tri_slices_DeleteFunc_s_int_int {a0 a1 : AV} {H : AH} {Q : AV → AH → Prop} (h : S_slices_DeleteFunc_s_int_int a0 a1 Q H) : Tri Try.prog 33 [a0, a1] H Q :=
  tri_of (Ms := [#[], #[], #[], #[], #[], #[], #[], #[], #[], #[], #[], #[], #[]]) mixed Try.func33 rfl (by kernel_rfl) (by kernel_rfl) rfl (of_decide_eq_true rfl : 2 ≤ 42) ((eq_slices_DeleteFunc_s_int_int a0 a1 Q H).symm ▸ h : FnA Try.prog 42 (regsF Try.f33) ac_slices_DeleteFunc_s_int_int [.tm 4] [a0, a1] H Q)

/-! slices.IndexFunc[[]int,int] -/
def ac_slices_IndexFunc_s_int_int : AC := (.seq (.reg 0) (.seq (.seq (.reg 1) (.block 0 (.loop [8] [(4, 6), (9, 19)] (.seq (.reg 2) (.seq (.cond (.tmp 9) .skip (.exit 0)) (.seq (.block 1 (.seq (.reg 3) (.seq (.reg 4) (.cond (.tmp 16) (.seq (.reg 5) .ret) .skip)))) (.reg 6))))))) (.seq (.reg 7) .ret)))
def S_slices_IndexFunc_s_int_int (a0 a1 : AV) (Q : AV → AH → Prop) (H : AH) : Prop := (
    Pu Try.prog .len [a0] fun v7 =>
    LoopA Try.prog 1 (fun vs k =>
      Pu Try.prog (.bin .lss 3) [(vs.getD 0 .any), v7] fun v9 =>
      CdA v9
        (
        Pu Try.prog (.idx 1) [a0, (vs.getD 0 .any)] fun v14 =>
        RdS Try.prog (.ld 1 false) [v14] fun v15 =>
        Ca Try.prog a1 [v15] fun v16 =>
        CdA v16
          (
          Rt Try.prog H.nx (vs.getD 0 .any) Q
          ) (
          Pu Try.prog (.bin .add 3) [(vs.getD 0 .any), (.p (.int .i64 1))] fun v18 =>
          k [v18]
          )
        ) (
        Rt Try.prog H.nx (.p (.int .i64 (-1))) Q
        )
      ) [(.p (.int .i64 0))]
    ) H
theorem eq_slices_IndexFunc_s_int_int (a0 a1 : AV) (Q : AV → AH → Prop) (H : AH) : FnA Try.prog 19 (regsF Try.f37) ac_slices_IndexFunc_s_int_int [.tm 4] [a0, a1] H Q = S_slices_IndexFunc_s_int_int a0 a1 Q H := by kernel_rfl
theorem tri_slices_IndexFunc_s_int_int {a0 a1 : AV} {H : AH} {Q : AV → AH → Prop} (h : S_slices_IndexFunc_s_int_int a0 a1 Q H) : Tri Try.prog 37 [a0, a1] H Q :=
  tri_of (Ms := [#[], #[], #[], #[], #[], #[], #[], #[]]) mixed Try.func37 rfl (by kernel_rfl) (by kernel_rfl) rfl (of_decide_eq_true rfl : 2 ≤ 19) ((eq_slices_IndexFunc_s_int_int a0 a1 Q H).symm ▸ h : FnA Try.prog 19 (regsF Try.f37) ac_slices_IndexFunc_s_int_int [.tm 4] [a0, a1] H Q)

/-! slices.Concat[[]wordhoard/api.Claim,wordhoard/api.Claim] NOT TOLD: "slices.go:496" makeInterface; "slices.go:496" panic -/
def ac_slices_Concat_s_api_Claim_api_Claim : AC := (.seq (.reg 0) (.seq (.reg 1) (.seq (.seq (.reg 2) (.block 0 (.loop [3, 11] [(5, 6), (12, 23)] (.seq (.reg 3) (.seq (.cond (.tmp 12) .skip (.exit 0)) (.seq (.block 1 (.seq (.reg 4) (.seq (.reg 5) (.seq (.reg 6) (.cond (.tmp 20) (.reg 7) .skip))))) (.reg 8))))))) (.seq (.reg 9) (.seq (.seq (.reg 10) (.block 2 (.loop [6, 27] [(8, 9), (28, 35)] (.seq (.reg 11) (.seq (.cond (.tmp 28) .skip (.exit 2)) (.seq (.block 3 (.seq (.reg 12) (.reg 13))) (.reg 14))))))) (.seq (.reg 15) .ret))))))
def S_slices_Concat_s_api_Claim_api_Claim (a0 : AV) (Q : AV → AH → Prop) (H : AH) : Prop := (
    Pu Try.prog .len [a0] fun v10 =>
    LoopA Try.prog 2 (fun vs k =>
      Pu Try.prog (.bin .lss 3) [(vs.getD 1 .any), v10] fun v12 =>
      CdA v12
        (
        Pu Try.prog (.idx 1) [a0, (vs.getD 1 .any)] fun v13 =>
        RdS Try.prog (.ld 1 false) [v13] fun v14 =>
        Pu Try.prog .len [v14] fun v17 =>
        Pu Try.prog (.bin .add 3) [(vs.getD 0 .any), v17] fun v18 =>
        Pu Try.prog (.bin .lss 3) [v18, (.p (.int .i64 0))] fun v20 =>
        CdA v20
          (
          fun _ => False
          ) (
          Pu Try.prog (.bin .add 3) [(vs.getD 1 .any), (.p (.int .i64 1))] fun v22 =>
          k [v18, v22]
          )
        ) (
        Ca Try.prog (.fn (.func 45) [] []) [(.p (.slice none 0 0)), (vs.getD 0 .any)] fun v24 =>
        Pu Try.prog .len [a0] fun v26 =>
        LoopA Try.prog 2 (fun vs_15 k_14 =>
          Pu Try.prog (.bin .lss 3) [(vs_15.getD 1 .any), v26] fun v28 =>
          CdA v28
            (
            Pu Try.prog (.idx 1) [a0, (vs_15.getD 1 .any)] fun v29 =>
            RdS Try.prog (.ld 1 false) [v29] fun v30 =>
            Rg 4 fun b =>
            WrS Try.prog (b + 2) (.app 24 3 24) [(vs_15.getD 0 .any), v30] fun v33 =>
            Pu Try.prog (.bin .add 3) [(vs_15.getD 1 .any), (.p (.int .i64 1))] fun v34 =>
            k_14 [v33, v34]
            ) (
            Rt Try.prog H.nx (vs_15.getD 0 .any) Q
            )
          ) [v24, (.p (.int .i64 0))]
        )
      ) [(.p (.int .i64 0)), (.p (.int .i64 0))]
    ) H
theorem eq_slices_Concat_s_api_Claim_api_Claim (a0 : AV) (Q : AV → AH → Prop) (H : AH) : FnA Try.prog 36 (regsF Try.f40) ac_slices_Concat_s_api_Claim_api_Claim [.tm 2] [a0] H Q = S_slices_Concat_s_api_Claim_api_Claim a0 Q H := by kernel_rfl
theorem tri_slices_Concat_s_api_Claim_api_Claim {a0 : AV} {H : AH} {Q : AV → AH → Prop} (h : S_slices_Concat_s_api_Claim_api_Claim a0 Q H) : Tri Try.prog 40 [a0] H Q :=
  tri_of (Ms := [#[], #[], #[], #[], #[], #[], #[], #[], #[], #[], #[], #[], #[], #[], #[], #[]]) mixed Try.func40 rfl (by kernel_rfl) (by kernel_rfl) rfl (of_decide_eq_true rfl : 1 ≤ 36) ((eq_slices_Concat_s_api_Claim_api_Claim a0 Q H).symm ▸ h : FnA Try.prog 36 (regsF Try.f40) ac_slices_Concat_s_api_Claim_api_Claim [.tm 2] [a0] H Q)

/-! slices.Clone[[]int,int] -/
def ac_slices_Clone_s_int_int : AC := (.seq (.reg 0) (.seq (.seq (.reg 1) (.cond (.tmp 4) (.seq (.reg 2) .ret) .skip)) (.seq (.reg 3) .ret)))
def S_slices_Clone_s_int_int (a0 : AV) (Q : AV → AH → Prop) (H : AH) : Prop := (
    Pu Try.prog (.bin .eql 22) [a0, (.p (.slice none 0 0))] fun v4 =>
    CdA v4
      (
      Rt Try.prog H.nx (.p (.slice none 0 0)) Q
      ) (
      Rg 4 fun b =>
      Al (b + 0) (.bs 3 1 0 [.p (.int .i64 0)] []) [] fun v5 =>
      WrS Try.prog (b + 2) (.app 3 1 8) [v5, a0] fun v7 =>
      Rt Try.prog H.nx v7 Q
      )
    ) H
theorem eq_slices_Clone_s_int_int (a0 : AV) (Q : AV → AH → Prop) (H : AH) : FnA Try.prog 8 (regsF Try.f43) ac_slices_Clone_s_int_int [.tm 2] [a0] H Q = S_slices_Clone_s_int_int a0 Q H := by kernel_rfl
theorem tri_slices_Clone_s_int_int {a0 : AV} {H : AH} {Q : AV → AH → Prop} (h : S_slices_Clone_s_int_int a0 Q H) : Tri Try.prog 43 [a0] H Q :=
  tri_of (Ms := [#[], #[], #[], #[]]) mixed Try.func43 rfl (by kernel_rfl) (by kernel_rfl) rfl (of_decide_eq_true rfl : 1 ≤ 8) ((eq_slices_Clone_s_int_int a0 Q H).symm ▸ h : FnA Try.prog 8 (regsF Try.f43) ac_slices_Clone_s_int_int [.tm 2] [a0] H Q)

/-! slices.IndexFunc[[]wordhoard/api.Claim,wordhoard/api.Claim] -/
def ac_slices_IndexFunc_s_api_Claim_api_Claim : AC := (.seq (.reg 0) (.seq (.seq (.reg 1) (.block 0 (.loop [8] [(4, 6), (9, 19)] (.seq (.reg 2) (.seq (.cond (.tmp 9) .skip (.exit 0)) (.seq (.block 1 (.seq (.reg 3) (.seq (.reg 4) (.cond (.tmp 16) (.seq (.reg 5) .ret) .skip)))) (.reg 6))))))) (.seq (.reg 7) .ret)))
def S_slices_IndexFunc_s_api_Claim_api_Claim (a0 a1 : AV) (Q : AV → AH → Prop) (H : AH) : Prop := (
    Pu Try.prog .len [a0] fun v7 =>
    LoopA Try.prog 1 (fun vs k =>
      Pu Try.prog (.bin .lss 3) [(vs.getD 0 .any), v7] fun v9 =>
      CdA v9
        (
        Pu Try.prog (.idx 3) [a0, (vs.getD 0 .any)] fun v14 =>
        RdS Try.prog (.ld 3 true) [v14] fun v15 =>
        Ca Try.prog a1 [v15] fun v16 =>
        CdA v16
          (
          Rt Try.prog H.nx (vs.getD 0 .any) Q
          ) (
          Pu Try.prog (.bin .add 3) [(vs.getD 0 .any), (.p (.int .i64 1))] fun v18 =>
          k [v18]
          )
        ) (
        Rt Try.prog H.nx (.p (.int .i64 (-1))) Q
        )
      ) [(.p (.int .i64 0))]
    ) H
theorem eq_slices_IndexFunc_s_api_Claim_api_Claim (a0 a1 : AV) (Q : AV → AH → Prop) (H : AH) : FnA Try.prog 19 (regsF Try.f44) ac_slices_IndexFunc_s_api_Claim_api_Claim [.tm 4] [a0, a1] H Q = S_slices_IndexFunc_s_api_Claim_api_Claim a0 a1 Q H := by kernel_rfl
theorem tri_slices_IndexFunc_s_api_Claim_api_Claim {a0 a1 : AV} {H : AH} {Q : AV → AH → Prop} (h : S_slices_IndexFunc_s_api_Claim_api_Claim a0 a1 Q H) : Tri Try.prog 44 [a0, a1] H Q :=
  tri_of (Ms := [#[], #[], #[], #[], #[], #[], #[], #[]]) mixed Try.func44 rfl (by kernel_rfl) (by kernel_rfl) rfl (of_decide_eq_true rfl : 2 ≤ 19) ((eq_slices_IndexFunc_s_api_Claim_api_Claim a0 a1 Q H).symm ▸ h : FnA Try.prog 19 (regsF Try.f44) ac_slices_IndexFunc_s_api_Claim_api_Claim [.tm 4] [a0, a1] H Q)

/-! slices.Grow[[]wordhoard/api.Claim,wordhoard/api.Claim] NOT TOLD: "slices.go:424" makeInterface; "slices.go:424" panic -/
def ac_slices_Grow_s_api_Claim_api_Claim : AC := (.seq (.reg 0) (.cut [] [(5, 8)] (.seq (.reg 1) (.cond (.tmp 6) (.reg 2) .skip)) (.seq (.seq (.reg 3) (.seq (.reg 4) (.cond (.tmp 16) (.reg 5) .skip))) (.seq (.reg 6) .ret))))
def S_slices_Grow_s_api_Claim_api_Claim (a0 a1 : AV) (Q : AV → AH → Prop) (H : AH) : Prop := (
    CutA Try.prog 0 (fun k =>
      Pu Try.prog (.bin .lss 3) [a1, (.p (.int .i64 0))] fun v6 =>
      CdA v6
        (
        fun _ => False
        ) (
        k []
        )
      ) fun vs =>
    Pu Try.prog .cap [a0] fun v10 =>
    Pu Try.prog .len [a0] fun v12 =>
    Pu Try.prog (.bin .sub 3) [v10, v12] fun v13 =>
    Pu Try.prog (.bin .sub 3) [a1, v13] fun v14 =>
    Pu Try.prog (.bin .gtr 3) [v14, (.p (.int .i64 0))] fun v16 =>
    CdA v16
      (
      Rg 10 fun b =>
      Pu Try.prog .cap [a0] fun v19 =>
      Pu Try.prog (.slc 3 false true) [a0, v19] fun v20 =>
      WrS Try.prog (b + 5) (.apz 24 3 24 [.p (.bool false), .p (.int .i64 0), .p (.int .i64 0)]) [v20, v14] fun v22 =>
      Pu Try.prog .len [a0] fun v24 =>
      Pu Try.prog (.slc 3 false true) [v22, v24] fun v25 =>
      Rt Try.prog H.nx v25 Q
      ) (
      Rt Try.prog H.nx a0 Q
      )
    ) H
theorem eq_slices_Grow_s_api_Claim_api_Claim (a0 a1 : AV) (Q : AV → AH → Prop) (H : AH) : FnA Try.prog 27 (regsF Try.f45) ac_slices_Grow_s_api_Claim_api_Claim [.tm 4] [a0, a1] H Q = S_slices_Grow_s_api_Claim_api_Claim a0 a1 Q H := by kernel_rfl
theorem tri_slices_Grow_s_api_Claim_api_Claim {a0 a1 : AV} {H : AH} {Q : AV → AH → Prop} (h : S_slices_Grow_s_api_Claim_api_Claim a0 a1 Q H) : Tri Try.prog 45 [a0, a1] H Q :=
  tri_of (Ms := [#[], #[], #[], #[], #[], #[], #[]]) mixed Try.func45 rfl (by kernel_rfl) (by kernel_rfl) rfl (of_decide_eq_true rfl : 2 ≤ 27) ((eq_slices_Grow_s_api_Claim_api_Claim a0 a1 Q H).symm ▸ h : FnA Try.prog 27 (regsF Try.f45) ac_slices_Grow_s_api_Claim_api_Claim [.tm 4] [a0, a1] H Q)

/-! wordhoard/prove.Holds -/
def ac_prove_Holds : AC := (.seq (.reg 0) (.seq (.seq (.reg 1) (.cond (.tmp 9) (.seq (.reg 2) .ret) .skip)) (.seq (.seq (.reg 3) (.cond (.tmp 11) (.seq (.reg 4) .ret) .skip)) (.seq (.seq (.reg 5) (.seq (.reg 6) (.cond (.tmp 15) (.seq (.reg 7) .ret) .skip))) (.seq (.reg 8) .ret)))))
def S_prove_Holds (a0 a1 : AV) (Q : AV → AH → Prop) (H : AH) : Prop := (
    Rg 3 fun b =>
    Al (b + 0) (.bx 24) [a1] fun v3 =>
    Pu Try.prog .len [a0] fun v8 =>
    Pu Try.prog (.bin .gtr 3) [v8, (.p (.int .i64 64))] fun v9 =>
    CdA v9
      (
      Rt Try.prog H.nx (.tup [(.p (.bool false)), (.p (.int .i64 7))]) Q
      ) (
      Ca Try.prog (.fn (.func 19) [] []) [a0, (.fn (.func 20) [] [])] fun v11 =>
      CdA v11
        (
        Rt Try.prog H.nx (.tup [(.p (.bool false)), (.p (.int .i64 3))]) Q
        ) (
        RdS Try.prog (.ld 3 true) [v3] fun v12 =>
        Ca Try.prog (.fn (.func 11) [] []) [v12] fun v13 =>
        Pu Try.prog (.bin .neq 25) [v13, (.p (.int .i64 0))] fun v15 =>
        CdA v15
          (
          Rt Try.prog H.nx (.tup [(.p (.bool false)), v13]) Q
          ) (
          RdS Try.prog (.ld 3 true) [v3] fun v18 =>
          Ca Try.prog (.fn (.func 21) [] []) [a0, v18] fun v19 =>
          Rt Try.prog H.nx (.tup [v19, (.p (.int .i64 0))]) Q
          )
        )
      )
    ) H
theorem eq_prove_Holds (a0 a1 : AV) (Q : AV → AH → Prop) (H : AH) : FnA Try.prog 20 (regsF Try.f7) ac_prove_Holds [.tm 4, .tm 5] [a0, a1] H Q = S_prove_Holds a0 a1 Q H := by kernel_rfl
theorem tri_prove_Holds {a0 a1 : AV} {H : AH} {Q : AV → AH → Prop} (h : S_prove_Holds a0 a1 Q H) : Tri Try.prog 7 [a0, a1] H Q :=
  tri_of (Ms := [#[], #[], #[], #[], #[], #[], #[], #[], #[]]) mixed Try.func7 rfl (by kernel_rfl) (by kernel_rfl) rfl (of_decide_eq_true rfl : 2 ≤ 20) ((eq_prove_Holds a0 a1 Q H).symm ▸ h : FnA Try.prog 20 (regsF Try.f7) ac_prove_Holds [.tm 4, .tm 5] [a0, a1] H Q)

/-! wordhoard/prove.Check -/
def ac_prove_Check : AC := (.seq (.reg 0) (.seq (.seq (.reg 1) (.cond (.tmp 12) (.seq (.reg 2) .ret) .skip)) (.seq (.reg 3) .ret)))
def S_prove_Check (a0 : AV) (Q : AV → AH → Prop) (H : AH) : Prop := (
    Rg 2 fun b =>
    Al (b + 0) (.bx 24) [a0] fun v1 =>
    Pu Try.prog (.addOff 1) [v1] fun v3 =>
    RdS Try.prog (.ld 1 false) [v3] fun v4 =>
    Ca Try.prog (.fn (.func 22) [] []) [v4] fun v5 =>
    Pu Try.prog (.un .not) [v5] fun v6 =>
    Gd v6 false (fun k => Pu Try.prog (.addOff 2) [v1] k) fun v8 =>
    Gd v6 false (fun k_10 => RdS Try.prog (.ld 1 false) [v8] k_10) fun v9 =>
    Gd v6 false (fun k_12 => Ca Try.prog (.fn (.func 22) [] []) [v9] k_12) fun v10 =>
    Gd v6 false (fun k_14 => Pu Try.prog (.un .not) [v10] k_14) fun v11 =>
    Pu Try.prog .pick [v6, (.p (.bool true)), v11] fun v12 =>
    CdA v12
      (
      Rt Try.prog H.nx (.p (.int .i64 3)) Q
      ) (
      Rt Try.prog H.nx (.p (.int .i64 0)) Q
      )
    ) H
theorem eq_prove_Check (a0 : AV) (Q : AV → AH → Prop) (H : AH) : FnA Try.prog 13 (regsF Try.f11) ac_prove_Check [.tm 2] [a0] H Q = S_prove_Check a0 Q H := by kernel_rfl
theorem tri_prove_Check {a0 : AV} {H : AH} {Q : AV → AH → Prop} (h : S_prove_Check a0 Q H) : Tri Try.prog 11 [a0] H Q :=
  tri_of (Ms := [#[], #[], #[], #[]]) mixed Try.func11 rfl (by kernel_rfl) (by kernel_rfl) rfl (of_decide_eq_true rfl : 1 ≤ 13) ((eq_prove_Check a0 Q H).symm ▸ h : FnA Try.prog 13 (regsF Try.f11) ac_prove_Check [.tm 2] [a0] H Q)

/-! wordhoard/prove.Against -/
def ac_prove_Against : AC := (.seq (.reg 0) (.seq (.seq (.reg 1) (.seq (.reg 2) (.cond (.tmp 15) (.seq (.reg 3) .ret) .skip))) (.seq (.reg 4) (.seq (.seq (.reg 5) (.block 0 (.loop [17] [(9, 10), (18, 29)] (.seq (.reg 6) (.seq (.cond (.tmp 18) .skip (.exit 0)) (.seq (.block 1 (.seq (.reg 7) (.seq (.reg 8) (.cond (.tmp 23) (.reg 9) .skip)))) (.reg 10))))))) (.seq (.seq (.reg 11) (.cond (.tmp 30) (.reg 12) (.seq (.reg 13) (.cond (.tmp 37) (.seq (.reg 14) .ret) .skip)))) (.seq (.seq (.reg 15) (.cond (.tmp 40) (.seq (.reg 16) .ret) .skip)) (.seq (.reg 17) .ret)))))))
def S_prove_Against (a0 a1 : AV) (Q : AV → AH → Prop) (H : AH) : Prop := (
    Rg 4 fun b =>
    Al (b + 0) (.bx 24) [a1] fun v3 =>
    Rg 5 fun b_3 =>
    RdS Try.prog (.ld 3 true) [v3] fun v11 =>
    Al (b_3 + 2) (.bs 24 3 1 [.p (.bool false), .p (.int .i64 0), .p (.int .i64 0)] [(0, 3)]) [v11] fun v12 =>
    Ca Try.prog (.fn (.func 24) [] []) [a0, v12] fun v13 =>
    Pu Try.prog (.bin .neq 25) [v13, (.p (.int .i64 0))] fun v15 =>
    CdA v15
      (
      Rt Try.prog H.nx (.tup [(.p (.slice none 0 0)), (.p (.bool false)), v13]) Q
      ) (
      Rg 1 fun b_8 =>
      Al (b_8 + 0) (.nw 22 [.p (.slice none 0 0)]) [] fun v8 =>
      LoopA Try.prog 1 (fun vs k =>
        Pu Try.prog (.bin .lss 3) [(vs.getD 0 .any), (.p (.int .i64 64))] fun v18 =>
        CdA v18
          (
          Rg 3 fun b_13 =>
          Al (b_13 + 1) (.nw 3 [.p (.int .i64 0)]) [] fun v9 =>
          WrS Try.prog (b_13 + 2) (.st 1) [v9, (vs.getD 0 .any)] fun vn =>
          Pu Try.prog (.mkfn (.func 32) 0) [v9] fun v21 =>
          Ca Try.prog (.fn (.func 31) [] []) [a0, v21] fun v22 =>
          Pu Try.prog (.un .not) [v22] fun v23 =>
          CdA v23
            (
            Rg 5 fun b_19 =>
            RdS Try.prog (.ld 1 false) [v8] fun v24 =>
            RdS Try.prog (.ld 1 false) [v9] fun v25 =>
            Al (b_19 + 2) (.bs 3 1 1 [.p (.int .i64 0)] [(0, 1)]) [v25] fun v26 =>
            WrS Try.prog (b_19 + 3) (.app 3 1 8) [v24, v26] fun v27 =>
            WrS Try.prog (b_19 + 4) (.st 1) [v8, v27] fun vn_24 =>
            Pu Try.prog (.bin .add 3) [(vs.getD 0 .any), (.p (.int .i64 1))] fun v28 =>
            k [v28]
            ) (
            Pu Try.prog (.bin .add 3) [(vs.getD 0 .any), (.p (.int .i64 1))] fun v28_26 =>
            k [v28_26]
            )
          ) (
          Pu Try.prog (.addOff 0) [v3] fun v29 =>
          RdS Try.prog (.ld 1 false) [v29] fun v30 =>
          CdA v30
            (
            Rg 4 fun b_29 =>
            RdS Try.prog (.ld 1 false) [v8] fun v31 =>
            Pu Try.prog (.mkfn (.func 34) 0) [v3] fun v32 =>
            Ca Try.prog (.fn (.func 33) [] []) [v31, v32] fun v33 =>
            WrS Try.prog (b_29 + 3) (.st 1) [v8, v33] fun vn_33 =>
            Pu Try.prog (.mkfn (.func 36) 0) [v8] fun v39 =>
            Ca Try.prog (.fn (.func 31) [] []) [a0, v39] fun v40 =>
            CdA v40
              (
              Rt Try.prog H.nx (.tup [(.p (.slice none 0 0)), (.p (.bool false)), (.p (.int .i64 0))]) Q
              ) (
              RdS Try.prog (.ld 1 false) [v8] fun v41 =>
              Rt Try.prog H.nx (.tup [v41, (.p (.bool true)), (.p (.int .i64 0))]) Q
              )
            ) (
            RdS Try.prog (.ld 1 false) [v8] fun v34 =>
            Pu Try.prog (.mkfn (.func 35) 0) [v3] fun v35 =>
            Ca Try.prog (.fn (.func 19) [] []) [v34, v35] fun v36 =>
            Pu Try.prog (.un .not) [v36] fun v37 =>
            CdA v37
              (
              Rt Try.prog H.nx (.tup [(.p (.slice none 0 0)), (.p (.bool false)), (.p (.int .i64 0))]) Q
              ) (
              Pu Try.prog (.mkfn (.func 36) 0) [v8] fun v39_41 =>
              Ca Try.prog (.fn (.func 31) [] []) [a0, v39_41] fun v40_42 =>
              CdA v40_42
                (
                Rt Try.prog H.nx (.tup [(.p (.slice none 0 0)), (.p (.bool false)), (.p (.int .i64 0))]) Q
                ) (
                RdS Try.prog (.ld 1 false) [v8] fun v41_43 =>
                Rt Try.prog H.nx (.tup [v41_43, (.p (.bool true)), (.p (.int .i64 0))]) Q
                )
              )
            )
          )
        ) [(.p (.int .i64 0))]
      )
    ) H
theorem eq_prove_Against (a0 a1 : AV) (Q : AV → AH → Prop) (H : AH) : FnA Try.prog 42 (regsF Try.f17) ac_prove_Against [.tm 4, .tm 5, .tm 6] [a0, a1] H Q = S_prove_Against a0 a1 Q H := by kernel_rfl
theorem tri_prove_Against {a0 a1 : AV} {H : AH} {Q : AV → AH → Prop} (h : S_prove_Against a0 a1 Q H) : Tri Try.prog 17 [a0, a1] H Q :=
  tri_of (Ms := [#[], #[], #[], #[], #[], #[], #[], #[], #[], #[], #[], #[], #[], #[], #[], #[], #[], #[]]) mixed Try.func17 rfl (by kernel_rfl) (by kernel_rfl) rfl (of_decide_eq_true rfl : 2 ≤ 42) ((eq_prove_Against a0 a1 Q H).symm ▸ h : FnA Try.prog 42 (regsF Try.f17) ac_prove_Against [.tm 4, .tm 5, .tm 6] [a0, a1] H Q)

/-! wordhoard/prove.Holds$1 -/
def ac_prove_Holds_fn1 : AC := (.seq (.reg 0) (.seq (.reg 1) .ret))
def S_prove_Holds_fn1 (a0 : AV) (Q : AV → AH → Prop) (H : AH) : Prop := (
    Pu Try.prog (.bin .lss 3) [a0, (.p (.int .i64 0))] fun v4 =>
    Gd v4 false (fun k => k a0) fun v6 =>
    Gd v4 false (fun k_5 => Pu Try.prog (.bin .geq 3) [v6, (.p (.int .i64 64))] k_5) fun v7 =>
    Pu Try.prog .pick [v4, (.p (.bool true)), v7] fun v8 =>
    Rt Try.prog H.nx v8 Q
    ) H
theorem eq_prove_Holds_fn1 (a0 : AV) (Q : AV → AH → Prop) (H : AH) : FnA Try.prog 9 (regsF Try.f20) ac_prove_Holds_fn1 [.tm 2] [a0] H Q = S_prove_Holds_fn1 a0 Q H := by kernel_rfl
theorem tri_prove_Holds_fn1 {a0 : AV} {H : AH} {Q : AV → AH → Prop} (h : S_prove_Holds_fn1 a0 Q H) : Tri Try.prog 20 [a0] H Q :=
  tri_of (Ms := [#[], #[]]) mixed Try.func20 rfl (by kernel_rfl) (by kernel_rfl) rfl (of_decide_eq_true rfl : 1 ≤ 9) ((eq_prove_Holds_fn1 a0 Q H).symm ▸ h : FnA Try.prog 9 (regsF Try.f20) ac_prove_Holds_fn1 [.tm 2] [a0] H Q)

/-! wordhoard/prove.holds -/
def ac_prove_holds : AC := (.seq (.reg 0) (.seq (.reg 1) (.seq (.reg 2) .ret)))
def S_prove_holds (a0 a1 : AV) (Q : AV → AH → Prop) (H : AH) : Prop := (
    Rg 2 fun b =>
    Al (b + 0) (.bx 24) [a1] fun v3 =>
    Pu Try.prog (.mkfn (.func 38) 0) [v3] fun v7 =>
    Ca Try.prog (.fn (.func 19) [] []) [a0, v7] fun v8 =>
    Pu Try.prog (.addOff 0) [v3] fun v10 =>
    RdS Try.prog (.ld 1 false) [v10] fun v11 =>
    Pu Try.prog (.bin .eql 4) [v8, v11] fun v12 =>
    Rt Try.prog H.nx v12 Q
    ) H
theorem eq_prove_holds (a0 a1 : AV) (Q : AV → AH → Prop) (H : AH) : FnA Try.prog 13 (regsF Try.f21) ac_prove_holds [.tm 4] [a0, a1] H Q = S_prove_holds a0 a1 Q H := by kernel_rfl
theorem tri_prove_holds {a0 a1 : AV} {H : AH} {Q : AV → AH → Prop} (h : S_prove_holds a0 a1 Q H) : Tri Try.prog 21 [a0, a1] H Q :=
  tri_of (Ms := [#[], #[], #[]]) mixed Try.func21 rfl (by kernel_rfl) (by kernel_rfl) rfl (of_decide_eq_true rfl : 2 ≤ 13) ((eq_prove_holds a0 a1 Q H).symm ▸ h : FnA Try.prog 13 (regsF Try.f21) ac_prove_holds [.tm 4] [a0, a1] H Q)

/-! wordhoard/prove.literal -/
def ac_prove_literal : AC := (.seq (.reg 0) (.seq (.reg 1) .ret))
def S_prove_literal (a0 : AV) (Q : AV → AH → Prop) (H : AH) : Prop := (
    Pu Try.prog (.bin .neq 3) [a0, (.p (.int .i64 0))] fun v4 =>
    Gd v4 true (fun k => k a0) fun v6 =>
    Gd v4 true (fun k_5 => Pu Try.prog (.bin .geq 3) [v6, (.p (.int .i64 (-6)))] k_5) fun v7 =>
    Pu Try.prog .pick [v4, v7, (.p (.bool false))] fun v8 =>
    Gd v8 true (fun k_8 => k_8 a0) fun v10 =>
    Gd v8 true (fun k_10 => Pu Try.prog (.bin .leq 3) [v10, (.p (.int .i64 6))] k_10) fun v11 =>
    Pu Try.prog .pick [v8, v11, (.p (.bool false))] fun v12 =>
    Rt Try.prog H.nx v12 Q
    ) H
theorem eq_prove_literal (a0 : AV) (Q : AV → AH → Prop) (H : AH) : FnA Try.prog 13 (regsF Try.f22) ac_prove_literal [.tm 2] [a0] H Q = S_prove_literal a0 Q H := by kernel_rfl
theorem tri_prove_literal {a0 : AV} {H : AH} {Q : AV → AH → Prop} (h : S_prove_literal a0 Q H) : Tri Try.prog 22 [a0] H Q :=
  tri_of (Ms := [#[], #[]]) mixed Try.func22 rfl (by kernel_rfl) (by kernel_rfl) rfl (of_decide_eq_true rfl : 1 ≤ 13) ((eq_prove_literal a0 Q H).symm ▸ h : FnA Try.prog 13 (regsF Try.f22) ac_prove_literal [.tm 2] [a0] H Q)

/-! wordhoard/prove.checkAll -/
def ac_prove_checkAll : AC := (.seq (.reg 0) (.seq (.seq (.reg 1) (.cond (.tmp 10) (.seq (.reg 2) .ret) .skip)) (.seq (.seq (.reg 3) (.block 0 (.loop [16] [(4, 5), (6, 8), (17, 26)] (.seq (.reg 4) (.seq (.cond (.tmp 17) .skip (.exit 0)) (.seq (.block 1 (.seq (.reg 5) (.seq (.reg 6) (.seq (.reg 7) (.cond (.tmp 23) (.seq (.reg 8) .ret) .skip))))) (.reg 9))))))) (.seq (.reg 10) .ret))))
def S_prove_checkAll (a0 a1 : AV) (Q : AV → AH → Prop) (H : AH) : Prop := (
    Pu Try.prog .len [a0] fun v9 =>
    Pu Try.prog (.bin .gtr 3) [v9, (.p (.int .i64 20))] fun v10 =>
    CdA v10
      (
      Rt Try.prog H.nx (.p (.int .i64 7)) Q
      ) (
      Rg 6 fun b =>
      Al (b + 2) (.bs 32 1 2 [.p (.slice none 0 0)] [(0, 1), (1, 1)]) [a0, a1] fun v13 =>
      Ca Try.prog (.fn (.func 40) [] []) [v13] fun v14 =>
      Pu Try.prog .len [v14] fun v15 =>
      LoopA Try.prog 1 (fun vs k =>
        Pu Try.prog (.bin .lss 3) [(vs.getD 0 .any), v15] fun v17 =>
        CdA v17
          (
          Rg 4 fun b_10 =>
          Pu Try.prog (.idx 3) [v14, (vs.getD 0 .any)] fun v18 =>
          RdS Try.prog (.ld 3 true) [v18] fun v19 =>
          Al (b_10 + 2) (.nw 24 [.p (.bool false), .p (.int .i64 0), .p (.int .i64 0)]) [] fun v6 =>
          WrS Try.prog (b_10 + 3) (.st 3) [v6, v19] fun vn =>
          RdS Try.prog (.ld 3 true) [v6] fun v20 =>
          Ca Try.prog (.fn (.func 11) [] []) [v20] fun v21 =>
          Pu Try.prog (.bin .neq 25) [v21, (.p (.int .i64 0))] fun v23 =>
          CdA v23
            (
            Rt Try.prog H.nx v21 Q
            ) (
            Pu Try.prog (.bin .add 3) [(vs.getD 0 .any), (.p (.int .i64 1))] fun v25 =>
            k [v25]
            )
          ) (
          Rt Try.prog H.nx (.p (.int .i64 0)) Q
          )
        ) [(.p (.int .i64 0))]
      )
    ) H
theorem eq_prove_checkAll (a0 a1 : AV) (Q : AV → AH → Prop) (H : AH) : FnA Try.prog 26 (regsF Try.f24) ac_prove_checkAll [.tm 4] [a0, a1] H Q = S_prove_checkAll a0 a1 Q H := by kernel_rfl
theorem tri_prove_checkAll {a0 a1 : AV} {H : AH} {Q : AV → AH → Prop} (h : S_prove_checkAll a0 a1 Q H) : Tri Try.prog 24 [a0, a1] H Q :=
  tri_of (Ms := [#[], #[], #[], #[], #[], #[], #[], #[], #[], #[], #[]]) mixed Try.func24 rfl (by kernel_rfl) (by kernel_rfl) rfl (of_decide_eq_true rfl : 2 ≤ 26) ((eq_prove_checkAll a0 a1 Q H).symm ▸ h : FnA Try.prog 26 (regsF Try.f24) ac_prove_checkAll [.tm 4] [a0, a1] H Q)

/-! wordhoard/prove.Against$1 -/
def ac_prove_Against_fn1 : AC := (.seq (.reg 0) (.seq (.reg 1) .ret))
def S_prove_Against_fn1 (a0 a1 : AV) (Q : AV → AH → Prop) (H : AH) : Prop := (
    Rg 2 fun b =>
    Al (b + 0) (.bx 24) [a0] fun v2 =>
    Rg 11 fun b_3 =>
    Pu Try.prog (.addOff 0) [v2] fun v4 =>
    RdS Try.prog (.ld 1 false) [v4] fun v5 =>
    Pu Try.prog (.un .not) [v5] fun v6 =>
    Gd v6 true (fun k => RdS Try.prog (.ld 1 false) [a1] k) fun v8 =>
    Gd v6 true (fun k_10 => Al (b_3 + 5) (.bs 3 1 1 [.p (.int .i64 0)] [(0, 1)]) [v8] k_10) fun v9 =>
    Gd v6 true (fun k_12 => RdS Try.prog (.ld 3 true) [v2] k_12) fun v10 =>
    Gd v6 true (fun k_14 => Ca Try.prog (.fn (.func 21) [] []) [v9, v10] k_14) fun v11 =>
    Gd v6 true (fun k_16 => Pu Try.prog (.un .not) [v11] k_16) fun v12 =>
    Pu Try.prog .pick [v6, v12, (.p (.bool false))] fun v13 =>
    Rt Try.prog H.nx v13 Q
    ) H
theorem eq_prove_Against_fn1 (a0 a1 : AV) (Q : AV → AH → Prop) (H : AH) : FnA Try.prog 14 (regsF Try.f32) ac_prove_Against_fn1 [.tm 3] [a0, a1] H Q = S_prove_Against_fn1 a0 a1 Q H := by kernel_rfl
theorem tri_prove_Against_fn1 {a0 a1 : AV} {H : AH} {Q : AV → AH → Prop} (h : S_prove_Against_fn1 a0 a1 Q H) : Tri Try.prog 32 [a0, a1] H Q :=
  tri_of (Ms := [#[], #[]]) mixed Try.func32 rfl (by kernel_rfl) (by kernel_rfl) rfl (of_decide_eq_true rfl : 2 ≤ 14) ((eq_prove_Against_fn1 a0 a1 Q H).symm ▸ h : FnA Try.prog 14 (regsF Try.f32) ac_prove_Against_fn1 [.tm 3] [a0, a1] H Q)

/-! wordhoard/prove.Against$2 -/
def ac_prove_Against_fn2 : AC := (.seq (.reg 0) (.seq (.reg 1) .ret))
def S_prove_Against_fn2 (a0 a1 : AV) (Q : AV → AH → Prop) (H : AH) : Prop := (
    Rg 5 fun b =>
    Al (b + 1) (.bs 3 1 1 [.p (.int .i64 0)] [(0, 1)]) [a0] fun v5 =>
    RdS Try.prog (.ld 3 true) [a1] fun v6 =>
    Ca Try.prog (.fn (.func 21) [] []) [v5, v6] fun v7 =>
    Rt Try.prog H.nx v7 Q
    ) H
theorem eq_prove_Against_fn2 (a0 a1 : AV) (Q : AV → AH → Prop) (H : AH) : FnA Try.prog 8 (regsF Try.f34) ac_prove_Against_fn2 [.tm 3] [a0, a1] H Q = S_prove_Against_fn2 a0 a1 Q H := by kernel_rfl
theorem tri_prove_Against_fn2 {a0 a1 : AV} {H : AH} {Q : AV → AH → Prop} (h : S_prove_Against_fn2 a0 a1 Q H) : Tri Try.prog 34 [a0, a1] H Q :=
  tri_of (Ms := [#[], #[]]) mixed Try.func34 rfl (by kernel_rfl) (by kernel_rfl) rfl (of_decide_eq_true rfl : 2 ≤ 8) ((eq_prove_Against_fn2 a0 a1 Q H).symm ▸ h : FnA Try.prog 8 (regsF Try.f34) ac_prove_Against_fn2 [.tm 3] [a0, a1] H Q)

/-! wordhoard/prove.Against$3 -/
def ac_prove_Against_fn3 : AC := (.seq (.reg 0) (.seq (.reg 1) .ret))
def S_prove_Against_fn3 (a0 a1 : AV) (Q : AV → AH → Prop) (H : AH) : Prop := (
    Rg 6 fun b =>
    Al (b + 1) (.bs 3 1 1 [.p (.int .i64 0)] [(0, 1)]) [a0] fun v5 =>
    RdS Try.prog (.ld 3 true) [a1] fun v6 =>
    Ca Try.prog (.fn (.func 21) [] []) [v5, v6] fun v7 =>
    Pu Try.prog (.un .not) [v7] fun v8 =>
    Rt Try.prog H.nx v8 Q
    ) H
theorem eq_prove_Against_fn3 (a0 a1 : AV) (Q : AV → AH → Prop) (H : AH) : FnA Try.prog 9 (regsF Try.f35) ac_prove_Against_fn3 [.tm 3] [a0, a1] H Q = S_prove_Against_fn3 a0 a1 Q H := by kernel_rfl
theorem tri_prove_Against_fn3 {a0 a1 : AV} {H : AH} {Q : AV → AH → Prop} (h : S_prove_Against_fn3 a0 a1 Q H) : Tri Try.prog 35 [a0, a1] H Q :=
  tri_of (Ms := [#[], #[]]) mixed Try.func35 rfl (by kernel_rfl) (by kernel_rfl) rfl (of_decide_eq_true rfl : 2 ≤ 9) ((eq_prove_Against_fn3 a0 a1 Q H).symm ▸ h : FnA Try.prog 9 (regsF Try.f35) ac_prove_Against_fn3 [.tm 3] [a0, a1] H Q)

/-! wordhoard/prove.Against$4 -/
def ac_prove_Against_fn4 : AC := (.seq (.reg 0) (.seq (.reg 1) .ret))
def S_prove_Against_fn4 (a0 a1 : AV) (Q : AV → AH → Prop) (H : AH) : Prop := (
    Rg 2 fun b =>
    Al (b + 0) (.bx 24) [a0] fun v2 =>
    RdS Try.prog (.ld 1 false) [a1] fun v4 =>
    RdS Try.prog (.ld 3 true) [v2] fun v5 =>
    Ca Try.prog (.fn (.func 21) [] []) [v4, v5] fun v6 =>
    Pu Try.prog (.un .not) [v6] fun v7 =>
    Rt Try.prog H.nx v7 Q
    ) H
theorem eq_prove_Against_fn4 (a0 a1 : AV) (Q : AV → AH → Prop) (H : AH) : FnA Try.prog 8 (regsF Try.f36) ac_prove_Against_fn4 [.tm 3] [a0, a1] H Q = S_prove_Against_fn4 a0 a1 Q H := by kernel_rfl
theorem tri_prove_Against_fn4 {a0 a1 : AV} {H : AH} {Q : AV → AH → Prop} (h : S_prove_Against_fn4 a0 a1 Q H) : Tri Try.prog 36 [a0, a1] H Q :=
  tri_of (Ms := [#[], #[]]) mixed Try.func36 rfl (by kernel_rfl) (by kernel_rfl) rfl (of_decide_eq_true rfl : 2 ≤ 8) ((eq_prove_Against_fn4 a0 a1 Q H).symm ▸ h : FnA Try.prog 8 (regsF Try.f36) ac_prove_Against_fn4 [.tm 3] [a0, a1] H Q)

/-! wordhoard/prove.holds$1 -/
def ac_prove_holds_fn1 : AC := (.seq (.reg 0) (.seq (.reg 1) .ret))
def S_prove_holds_fn1 (a0 a1 : AV) (Q : AV → AH → Prop) (H : AH) : Prop := (
    Vw fun V =>
    Pu Try.prog (.addOff 1) [a1] fun v5 =>
    Rd Try.prog V (.ld 1 false) [v5] fun v6 =>
    CaV Try.prog V (.fn (.func 39) [] []) [a0, v6] fun v7 =>
    GdV v7 true (fun k => k a0 V) V fun v9 V_7 =>
    GdV v7 true (fun k_9 => Pu Try.prog (.addOff 2) [a1] (fun a => k_9 a V_7)) V_7 fun v10 V_10 =>
    GdV v7 true (fun k_12 => Rd Try.prog V_10 (.ld 1 false) [v10] (fun a => k_12 a V_10)) V_10 fun v11 V_13 =>
    GdV v7 true (fun k_15 => CaV Try.prog V_13 (.fn (.func 39) [] []) [v9, v11] (fun a => k_15 a V_13)) V_13 fun v12 V_16 =>
    GdV v7 true (fun k_18 => Pu Try.prog (.addOff 0) [a1] (fun a => k_18 a V_16)) V_16 fun v13 V_19 =>
    GdV v7 true (fun k_21 => Rd Try.prog V_19 (.ld 1 false) [v13] (fun a => k_21 a V_19)) V_19 fun v14 V_22 =>
    GdV v7 true (fun k_24 => Pu Try.prog (.bin .eql 4) [v12, v14] (fun a => k_24 a V_22)) V_22 fun v15 V_25 =>
    Pu Try.prog .pick [v7, v15, (.p (.bool false))] fun v16 =>
    Rt Try.prog H.nx v16 Q
    ) H
theorem eq_prove_holds_fn1 (a0 a1 : AV) (Q : AV → AH → Prop) (H : AH) : FnA Try.prog 17 (regsF Try.f38) ac_prove_holds_fn1 [.tm 3] [a0, a1] H Q = S_prove_holds_fn1 a0 a1 Q H := by kernel_rfl
theorem tri_prove_holds_fn1 {a0 a1 : AV} {H : AH} {Q : AV → AH → Prop} (h : S_prove_holds_fn1 a0 a1 Q H) : Tri Try.prog 38 [a0, a1] H Q :=
  tri_of (Ms := [#[], #[0, 0, 2, 7, 15, 31, 31, 95, 255, 31, 543, 2047, 4095, 8191]]) mixed Try.func38 rfl (by kernel_rfl) (by kernel_rfl) rfl (of_decide_eq_true rfl : 2 ≤ 17) ((eq_prove_holds_fn1 a0 a1 Q H).symm ▸ h : FnA Try.prog 17 (regsF Try.f38) ac_prove_holds_fn1 [.tm 3] [a0, a1] H Q)

/-! wordhoard/prove.is -/
def ac_prove_is : AC := (.seq (.reg 0) (.seq (.seq (.reg 1) (.cond (.tmp 6) (.seq (.reg 2) .ret) .skip)) (.seq (.reg 3) .ret)))
def S_prove_is (a0 a1 : AV) (Q : AV → AH → Prop) (H : AH) : Prop := (
    Pu Try.prog (.bin .lss 3) [a1, (.p (.int .i64 0))] fun v6 =>
    CdA v6
      (
      Pu Try.prog (.un .neg) [a1] fun v9 =>
      Ca Try.prog (.fn (.func 39) [] []) [a0, v9] fun v10 =>
      Pu Try.prog (.un .not) [v10] fun v11 =>
      Rt Try.prog H.nx v11 Q
      ) (
      Pu Try.prog (.bin .sub 3) [a1, (.p (.int .i64 1))] fun v14 =>
      Pu Try.prog (.bin .shr 3) [a0, v14] fun v15 =>
      Pu Try.prog (.bin .and 3) [v15, (.p (.int .i64 1))] fun v16 =>
      Pu Try.prog (.bin .eql 3) [v16, (.p (.int .i64 1))] fun v17 =>
      Rt Try.prog H.nx v17 Q
      )
    ) H
theorem eq_prove_is (a0 a1 : AV) (Q : AV → AH → Prop) (H : AH) : FnA Try.prog 18 (regsF Try.f39) ac_prove_is [.tm 4] [a0, a1] H Q = S_prove_is a0 a1 Q H := by kernel_rfl
theorem tri_prove_is {a0 a1 : AV} {H : AH} {Q : AV → AH → Prop} (h : S_prove_is a0 a1 Q H) : Tri Try.prog 39 [a0, a1] H Q :=
  tri_of (Ms := [#[], #[], #[], #[]]) mixed Try.func39 rfl (by kernel_rfl) (by kernel_rfl) rfl (of_decide_eq_true rfl : 2 ≤ 18) ((eq_prove_is a0 a1 Q H).symm ▸ h : FnA Try.prog 18 (regsF Try.f39) ac_prove_is [.tm 4] [a0, a1] H Q)

/-! wordhoard/wordhoardref.CheckWorld -/
def ac_wordhoardref_CheckWorld : AC := (.seq (.reg 0) (.seq (.seq (.reg 1) (.cond (.tmp 6) (.seq (.reg 2) .ret) .skip)) (.seq (.seq (.reg 3) (.block 0 (.loop [3] [(2, 3), (7, 25)] (.seq (.seq (.reg 4) (.cond (.tmp 10) .skip (.exit 0))) (.seq (.block 1 (.seq (.reg 5) (.cond (.tmp 24) (.seq (.reg 6) .ret) .skip))) (.reg 7)))))) (.seq (.reg 8) .ret))))
def S_wordhoardref_CheckWorld (a0 : AV) (Q : AV → AH → Prop) (H : AH) : Prop := (
    Pu Try.prog .len [a0] fun v5 =>
    Pu Try.prog (.bin .gtr 3) [v5, (.p (.int .i64 64))] fun v6 =>
    CdA v6
      (
      Rt Try.prog H.nx (.p (.int .i64 7)) Q
      ) (
      LoopA Try.prog 1 (fun vs k =>
        Pu Try.prog .len [a0] fun v9 =>
        Pu Try.prog (.bin .lss 3) [(vs.getD 0 .any), v9] fun v10 =>
        CdA v10
          (
          Pu Try.prog (.idx 1) [a0, (vs.getD 0 .any)] fun v15 =>
          RdS Try.prog (.ld 1 false) [v15] fun v16 =>
          Pu Try.prog (.bin .lss 3) [v16, (.p (.int .i64 0))] fun v17 =>
          Gd v17 false (fun k_11 => k_11 a0) fun v19 =>
          Gd v17 false (fun k_13 => k_13 (vs.getD 0 .any)) fun v20 =>
          Gd v17 false (fun k_15 => Pu Try.prog (.idx 1) [v19, v20] k_15) fun v21 =>
          Gd v17 false (fun k_17 => RdS Try.prog (.ld 1 false) [v21] k_17) fun v22 =>
          Gd v17 false (fun k_19 => Pu Try.prog (.bin .gtr 3) [v22, (.p (.int .i64 63))] k_19) fun v23 =>
          Pu Try.prog .pick [v17, (.p (.bool true)), v23] fun v24 =>
          CdA v24
            (
            Rt Try.prog H.nx (.p (.int .i64 3)) Q
            ) (
            Pu Try.prog (.bin .add 3) [(vs.getD 0 .any), (.p (.int .i64 1))] fun v12 =>
            k [v12]
            )
          ) (
          Rt Try.prog H.nx (.p (.int .i64 0)) Q
          )
        ) [(.p (.int .i64 0))]
      )
    ) H
theorem eq_wordhoardref_CheckWorld (a0 : AV) (Q : AV → AH → Prop) (H : AH) : FnA Try.prog 25 (regsF Try.f8) ac_wordhoardref_CheckWorld [.tm 2] [a0] H Q = S_wordhoardref_CheckWorld a0 Q H := by kernel_rfl
theorem tri_wordhoardref_CheckWorld {a0 : AV} {H : AH} {Q : AV → AH → Prop} (h : S_wordhoardref_CheckWorld a0 Q H) : Tri Try.prog 8 [a0] H Q :=
  tri_of (Ms := [#[], #[], #[], #[], #[], #[], #[], #[], #[]]) mixed Try.func8 rfl (by kernel_rfl) (by kernel_rfl) rfl (of_decide_eq_true rfl : 1 ≤ 25) ((eq_wordhoardref_CheckWorld a0 Q H).symm ▸ h : FnA Try.prog 25 (regsF Try.f8) ac_wordhoardref_CheckWorld [.tm 2] [a0] H Q)

/-! wordhoard/wordhoardref.CheckClaim -/
def ac_wordhoardref_CheckClaim : AC := (.seq (.reg 0) (.seq (.seq (.reg 1) (.cond (.tmp 30) (.seq (.reg 2) .ret) .skip)) (.seq (.reg 3) .ret)))
def S_wordhoardref_CheckClaim (a0 : AV) (Q : AV → AH → Prop) (H : AH) : Prop := (
    Rg 2 fun b =>
    Al (b + 0) (.bx 24) [a0] fun v1 =>
    Pu Try.prog (.addOff 1) [v1] fun v3 =>
    RdS Try.prog (.ld 1 false) [v3] fun v4 =>
    Pu Try.prog (.bin .eql 3) [v4, (.p (.int .i64 0))] fun v5 =>
    Gd v5 false (fun k => Pu Try.prog (.addOff 1) [v1] k) fun v7 =>
    Gd v5 false (fun k_9 => RdS Try.prog (.ld 1 false) [v7] k_9) fun v8 =>
    Gd v5 false (fun k_11 => Pu Try.prog (.bin .lss 3) [v8, (.p (.int .i64 (-6)))] k_11) fun v9 =>
    Pu Try.prog .pick [v5, (.p (.bool true)), v9] fun v10 =>
    Gd v10 false (fun k_14 => Pu Try.prog (.addOff 1) [v1] k_14) fun v12 =>
    Gd v10 false (fun k_16 => RdS Try.prog (.ld 1 false) [v12] k_16) fun v13 =>
    Gd v10 false (fun k_18 => Pu Try.prog (.bin .gtr 3) [v13, (.p (.int .i64 6))] k_18) fun v14 =>
    Pu Try.prog .pick [v10, (.p (.bool true)), v14] fun v15 =>
    Gd v15 false (fun k_21 => Pu Try.prog (.addOff 2) [v1] k_21) fun v17 =>
    Gd v15 false (fun k_23 => RdS Try.prog (.ld 1 false) [v17] k_23) fun v18 =>
    Gd v15 false (fun k_25 => Pu Try.prog (.bin .eql 3) [v18, (.p (.int .i64 0))] k_25) fun v19 =>
    Pu Try.prog .pick [v15, (.p (.bool true)), v19] fun v20 =>
    Gd v20 false (fun k_28 => Pu Try.prog (.addOff 2) [v1] k_28) fun v22 =>
    Gd v20 false (fun k_30 => RdS Try.prog (.ld 1 false) [v22] k_30) fun v23 =>
    Gd v20 false (fun k_32 => Pu Try.prog (.bin .lss 3) [v23, (.p (.int .i64 (-6)))] k_32) fun v24 =>
    Pu Try.prog .pick [v20, (.p (.bool true)), v24] fun v25 =>
    Gd v25 false (fun k_35 => Pu Try.prog (.addOff 2) [v1] k_35) fun v27 =>
    Gd v25 false (fun k_37 => RdS Try.prog (.ld 1 false) [v27] k_37) fun v28 =>
    Gd v25 false (fun k_39 => Pu Try.prog (.bin .gtr 3) [v28, (.p (.int .i64 6))] k_39) fun v29 =>
    Pu Try.prog .pick [v25, (.p (.bool true)), v29] fun v30 =>
    CdA v30
      (
      Rt Try.prog H.nx (.p (.int .i64 3)) Q
      ) (
      Rt Try.prog H.nx (.p (.int .i64 0)) Q
      )
    ) H
theorem eq_wordhoardref_CheckClaim (a0 : AV) (Q : AV → AH → Prop) (H : AH) : FnA Try.prog 31 (regsF Try.f9) ac_wordhoardref_CheckClaim [.tm 2] [a0] H Q = S_wordhoardref_CheckClaim a0 Q H := by kernel_rfl
theorem tri_wordhoardref_CheckClaim {a0 : AV} {H : AH} {Q : AV → AH → Prop} (h : S_wordhoardref_CheckClaim a0 Q H) : Tri Try.prog 9 [a0] H Q :=
  tri_of (Ms := [#[], #[], #[], #[]]) mixed Try.func9 rfl (by kernel_rfl) (by kernel_rfl) rfl (of_decide_eq_true rfl : 1 ≤ 31) ((eq_wordhoardref_CheckClaim a0 Q H).symm ▸ h : FnA Try.prog 31 (regsF Try.f9) ac_wordhoardref_CheckClaim [.tm 2] [a0] H Q)

/-! wordhoard/wordhoardref.HoldsIn -/
def ac_wordhoardref_HoldsIn : AC := (.seq (.reg 0) (.seq (.seq (.reg 1) (.block 0 (.loop [5] [(4, 5), (6, 33)] (.seq (.seq (.reg 2) (.cond (.tmp 9) .skip (.exit 0))) (.seq (.block 1 (.seq (.reg 3) (.cond (.tmp 30) (.seq (.reg 4) .ret) .skip))) (.reg 5)))))) (.seq (.reg 6) .ret)))
def S_wordhoardref_HoldsIn (a0 a1 : AV) (Q : AV → AH → Prop) (H : AH) : Prop := (
    Rg 2 fun b =>
    Al (b + 0) (.bx 24) [a1] fun v3 =>
    LoopA Try.prog 1 (fun vs k =>
      Pu Try.prog .len [a0] fun v8 =>
      Pu Try.prog (.bin .lss 3) [(vs.getD 0 .any), v8] fun v9 =>
      CdA v9
        (
        Vw fun V =>
        Pu Try.prog (.idx 1) [a0, (vs.getD 0 .any)] fun v14 =>
        Rd Try.prog V (.ld 1 false) [v14] fun v15 =>
        Pu Try.prog (.addOff 1) [v3] fun v16 =>
        Rd Try.prog V (.ld 1 false) [v16] fun v17 =>
        CaV Try.prog V (.fn (.func 23) [] []) [v15, v17] fun v18 =>
        GdV v18 true (fun k_14 => k_14 a0 V) V fun v20 V_15 =>
        GdV v18 true (fun k_17 => k_17 (vs.getD 0 .any) V_15) V_15 fun v21 V_18 =>
        GdV v18 true (fun k_20 => Pu Try.prog (.idx 1) [v20, v21] (fun a => k_20 a V_18)) V_18 fun v22 V_21 =>
        GdV v18 true (fun k_23 => Rd Try.prog V_21 (.ld 1 false) [v22] (fun a => k_23 a V_21)) V_21 fun v23 V_24 =>
        GdV v18 true (fun k_26 => Pu Try.prog (.addOff 2) [v3] (fun a => k_26 a V_24)) V_24 fun v24 V_27 =>
        GdV v18 true (fun k_29 => Rd Try.prog V_27 (.ld 1 false) [v24] (fun a => k_29 a V_27)) V_27 fun v25 V_30 =>
        GdV v18 true (fun k_32 => CaV Try.prog V_30 (.fn (.func 23) [] []) [v23, v25] (fun a => k_32 a V_30)) V_30 fun v26 V_33 =>
        GdV v18 true (fun k_35 => Pu Try.prog (.addOff 0) [v3] (fun a => k_35 a V_33)) V_33 fun v27 V_36 =>
        GdV v18 true (fun k_38 => Rd Try.prog V_36 (.ld 1 false) [v27] (fun a => k_38 a V_36)) V_36 fun v28 V_39 =>
        GdV v18 true (fun k_41 => Pu Try.prog (.bin .eql 4) [v26, v28] (fun a => k_41 a V_39)) V_39 fun v29 V_42 =>
        Pu Try.prog .pick [v18, v29, (.p (.bool false))] fun v30 =>
        CdA v30
          (
          Pu Try.prog (.addOff 0) [v3] fun v31 =>
          RdS Try.prog (.ld 1 false) [v31] fun v32 =>
          Rt Try.prog H.nx v32 Q
          ) (
          Pu Try.prog (.bin .add 3) [(vs.getD 0 .any), (.p (.int .i64 1))] fun v11 =>
          k [v11]
          )
        ) (
        Pu Try.prog (.addOff 0) [v3] fun v33 =>
        RdS Try.prog (.ld 1 false) [v33] fun v34 =>
        Pu Try.prog (.un .not) [v34] fun v35 =>
        Rt Try.prog H.nx v35 Q
        )
      ) [(.p (.int .i64 0))]
    ) H
theorem eq_wordhoardref_HoldsIn (a0 a1 : AV) (Q : AV → AH → Prop) (H : AH) : FnA Try.prog 36 (regsF Try.f12) ac_wordhoardref_HoldsIn [.tm 4] [a0, a1] H Q = S_wordhoardref_HoldsIn a0 a1 Q H := by kernel_rfl
theorem tri_wordhoardref_HoldsIn {a0 a1 : AV} {H : AH} {Q : AV → AH → Prop} (h : S_wordhoardref_HoldsIn a0 a1 Q H) : Tri Try.prog 12 [a0, a1] H Q :=
  tri_of (Ms := [#[], #[], #[], #[0, 0, 3, 7, 0, 16, 63, 127, 255, 255, 1023, 2047, 255, 4351, 16383, 255, 33023, 131071, 262143], #[], #[], #[]]) mixed Try.func12 rfl (by kernel_rfl) (by kernel_rfl) rfl (of_decide_eq_true rfl : 2 ≤ 36) ((eq_wordhoardref_HoldsIn a0 a1 Q H).symm ▸ h : FnA Try.prog 36 (regsF Try.f12) ac_wordhoardref_HoldsIn [.tm 4] [a0, a1] H Q)

/-! wordhoard/wordhoardref.CheckClaims -/
def ac_wordhoardref_CheckClaims : AC := (.seq (.reg 0) (.seq (.seq (.reg 1) (.cond (.tmp 10) (.seq (.reg 2) .ret) .skip)) (.seq (.reg 3) (.seq (.seq (.reg 4) (.block 0 (.loop [6] [(4, 5), (7, 8), (16, 30)] (.seq (.seq (.reg 5) (.cond (.tmp 19) .skip (.exit 0))) (.seq (.block 1 (.seq (.reg 6) (.seq (.reg 7) (.cond (.tmp 28) (.seq (.reg 8) .ret) .skip)))) (.reg 9)))))) (.seq (.reg 10) .ret)))))
def S_wordhoardref_CheckClaims (a0 a1 : AV) (Q : AV → AH → Prop) (H : AH) : Prop := (
    Pu Try.prog .len [a0] fun v9 =>
    Pu Try.prog (.bin .gtr 3) [v9, (.p (.int .i64 20))] fun v10 =>
    CdA v10
      (
      Rt Try.prog H.nx (.p (.int .i64 7)) Q
      ) (
      Rg 6 fun b =>
      Al (b + 0) (.bs 24 3 0 [.p (.bool false), .p (.int .i64 0), .p (.int .i64 0)] []) [] fun v11 =>
      WrS Try.prog (b + 2) (.app 24 3 24) [v11, a0] fun v13 =>
      WrS Try.prog (b + 4) (.app 24 3 24) [v13, a1] fun v15 =>
      LoopA Try.prog 1 (fun vs k =>
        Pu Try.prog .len [v15] fun v18 =>
        Pu Try.prog (.bin .lss 3) [(vs.getD 0 .any), v18] fun v19 =>
        CdA v19
          (
          Pu Try.prog (.idx 3) [v15, (vs.getD 0 .any)] fun v24 =>
          RdS Try.prog (.ld 3 true) [v24] fun v25 =>
          Ca Try.prog (.fn (.func 9) [] []) [v25] fun v26 =>
          Pu Try.prog (.bin .neq 25) [v26, (.p (.int .i64 0))] fun v28 =>
          CdA v28
            (
            Rt Try.prog H.nx v26 Q
            ) (
            Pu Try.prog (.bin .add 3) [(vs.getD 0 .any), (.p (.int .i64 1))] fun v21 =>
            k [v21]
            )
          ) (
          Rt Try.prog H.nx (.p (.int .i64 0)) Q
          )
        ) [(.p (.int .i64 0))]
      )
    ) H
theorem eq_wordhoardref_CheckClaims (a0 a1 : AV) (Q : AV → AH → Prop) (H : AH) : FnA Try.prog 30 (regsF Try.f14) ac_wordhoardref_CheckClaims [.tm 4] [a0, a1] H Q = S_wordhoardref_CheckClaims a0 a1 Q H := by kernel_rfl
theorem tri_wordhoardref_CheckClaims {a0 a1 : AV} {H : AH} {Q : AV → AH → Prop} (h : S_wordhoardref_CheckClaims a0 a1 Q H) : Tri Try.prog 14 [a0, a1] H Q :=
  tri_of (Ms := [#[], #[], #[], #[], #[], #[], #[], #[], #[], #[], #[]]) mixed Try.func14 rfl (by kernel_rfl) (by kernel_rfl) rfl (of_decide_eq_true rfl : 2 ≤ 30) ((eq_wordhoardref_CheckClaims a0 a1 Q H).symm ▸ h : FnA Try.prog 30 (regsF Try.f14) ac_wordhoardref_CheckClaims [.tm 4] [a0, a1] H Q)

/-! wordhoard/wordhoardref.Is -/
def ac_wordhoardref_Is : AC := (.seq (.reg 0) (.seq (.reg 1) (.cut [5] [(8, 12)] (.seq (.reg 2) (.cond (.tmp 9) (.reg 3) .skip)) (.seq (.seq (.reg 4) (.block 0 (.loop [0, 6] [(12, 19)] (.seq (.seq (.reg 5) (.cond (.tmp 14) .skip (.exit 0))) (.seq (.block 1 (.reg 6)) (.reg 7)))))) (.seq (.reg 8) .ret)))))
def S_wordhoardref_Is (a0 a1 : AV) (Q : AV → AH → Prop) (H : AH) : Prop := (
    CutA Try.prog 1 (fun k =>
      Pu Try.prog (.bin .lss 3) [a1, (.p (.int .i64 0))] fun v9 =>
      CdA v9
        (
        Pu Try.prog (.un .neg) [a1] fun v11 =>
        k [v11]
        ) (
        k [a1]
        )
      ) fun vs =>
    LoopA Try.prog 2 (fun vs_6 k_5 =>
      Pu Try.prog (.bin .lss 3) [(vs_6.getD 1 .any), (vs.getD 0 .any)] fun v14 =>
      CdA v14
        (
        Pu Try.prog (.bin .quo 3) [(vs_6.getD 0 .any), (.p (.int .i64 2))] fun v18 =>
        Pu Try.prog (.bin .add 3) [(vs_6.getD 1 .any), (.p (.int .i64 1))] fun v16 =>
        k_5 [v18, v16]
        ) (
        Pu Try.prog (.bin .rem 3) [(vs_6.getD 0 .any), (.p (.int .i64 2))] fun v20 =>
        Pu Try.prog (.bin .eql 3) [v20, (.p (.int .i64 1))] fun v21 =>
        Pu Try.prog (.bin .gtr 3) [a1, (.p (.int .i64 0))] fun v23 =>
        Pu Try.prog (.bin .eql 4) [v21, v23] fun v24 =>
        Rt Try.prog H.nx v24 Q
        )
      ) [a0, (.p (.int .i64 1))]
    ) H
theorem eq_wordhoardref_Is (a0 a1 : AV) (Q : AV → AH → Prop) (H : AH) : FnA Try.prog 25 (regsF Try.f23) ac_wordhoardref_Is [.tm 4] [a0, a1] H Q = S_wordhoardref_Is a0 a1 Q H := by kernel_rfl
theorem tri_wordhoardref_Is {a0 a1 : AV} {H : AH} {Q : AV → AH → Prop} (h : S_wordhoardref_Is a0 a1 Q H) : Tri Try.prog 23 [a0, a1] H Q :=
  tri_of (Ms := [#[], #[], #[], #[], #[], #[], #[], #[], #[]]) mixed Try.func23 rfl (by kernel_rfl) (by kernel_rfl) rfl (of_decide_eq_true rfl : 2 ≤ 25) ((eq_wordhoardref_Is a0 a1 Q H).symm ▸ h : FnA Try.prog 25 (regsF Try.f23) ac_wordhoardref_Is [.tm 4] [a0, a1] H Q)
end Go.Proofs.Ytcmnjoepadjioaa
