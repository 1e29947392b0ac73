/- Texts that the proof rests on, part 7: what each holds stands at its head. -/
import Derived.Test.YtcmnjoepadjioaaMc6

/- Abstract walks of functions, written by a program (wip/aw/aw.py): each equation is checked by the kernel. -/
namespace Go.Proofs.Ytcmnjoepadjioaa
open Go.RowKit

/-! slices.ContainsFunc[[]int,int] -/
def ac_slices_ContainsFunc_s_int_int : AC := (.seq (.reg 0) (.seq (.reg 1) .ret))
def S_slices_ContainsFunc_s_int_int (a0 a1 : AV) (Q : AV → AH → Prop) (H : AH) : Prop := (
    Ca Try.prog (.fn (.func 37) [] []) [a0, a1] fun v7 =>
    Pu Try.prog (.bin .geq 3) [v7, (.p (.int .i64 0))] fun v8 =>
    Rt Try.prog H.nx v8 Q
    ) H
theorem eq_slices_ContainsFunc_s_int_int (a0 a1 : AV) (Q : AV → AH → Prop) (H : AH) : FnA Try.prog 9 (regsF Try.f19) ac_slices_ContainsFunc_s_int_int [.tm 4] [a0, a1] H Q = S_slices_ContainsFunc_s_int_int a0 a1 Q H := by kernel_rfl
theorem tri_slices_ContainsFunc_s_int_int {a0 a1 : AV} {H : AH} {Q : AV → AH → Prop} (h : S_slices_ContainsFunc_s_int_int a0 a1 Q H) : Tri Try.prog 19 [a0, a1] H Q :=
  tri_of (Ms := [#[], #[]]) mixed Try.func19 rfl (by kernel_rfl) (by kernel_rfl) rfl (of_decide_eq_true rfl : 2 ≤ 9) ((eq_slices_ContainsFunc_s_int_int a0 a1 Q H).symm ▸ h : FnA Try.prog 9 (regsF Try.f19) ac_slices_ContainsFunc_s_int_int [.tm 4] [a0, a1] H Q)

/-! slices.ContainsFunc[[]wordhoard/api.Claim,wordhoard/api.Claim] -/
def ac_slices_ContainsFunc_s_api_Claim_api_Claim : AC := (.seq (.reg 0) (.seq (.reg 1) .ret))
def S_slices_ContainsFunc_s_api_Claim_api_Claim (a0 a1 : AV) (Q : AV → AH → Prop) (H : AH) : Prop := (
    Ca Try.prog (.fn (.func 44) [] []) [a0, a1] fun v7 =>
    Pu Try.prog (.bin .geq 3) [v7, (.p (.int .i64 0))] fun v8 =>
    Rt Try.prog H.nx v8 Q
    ) H
theorem eq_slices_ContainsFunc_s_api_Claim_api_Claim (a0 a1 : AV) (Q : AV → AH → Prop) (H : AH) : FnA Try.prog 9 (regsF Try.f31) ac_slices_ContainsFunc_s_api_Claim_api_Claim [.tm 4] [a0, a1] H Q = S_slices_ContainsFunc_s_api_Claim_api_Claim a0 a1 Q H := by kernel_rfl
theorem tri_slices_ContainsFunc_s_api_Claim_api_Claim {a0 a1 : AV} {H : AH} {Q : AV → AH → Prop} (h : S_slices_ContainsFunc_s_api_Claim_api_Claim a0 a1 Q H) : Tri Try.prog 31 [a0, a1] H Q :=
  tri_of (Ms := [#[], #[]]) mixed Try.func31 rfl (by kernel_rfl) (by kernel_rfl) rfl (of_decide_eq_true rfl : 2 ≤ 9) ((eq_slices_ContainsFunc_s_api_Claim_api_Claim a0 a1 Q H).symm ▸ h : FnA Try.prog 9 (regsF Try.f31) ac_slices_ContainsFunc_s_api_Claim_api_Claim [.tm 4] [a0, a1] H Q)

/-! slices.DeleteFunc[[]int,int] -/
def ac_slices_DeleteFunc_s_int_int : AC := (.seq (.reg 0) (.seq (.reg 1) (.seq (.seq (.reg 2) (.cond (.tmp 12) (.seq (.reg 3) .ret) .skip)) (.seq (.seq (.reg 4) (.block 0 (.loop [5, 6] [(7, 8), (16, 36)] (.seq (.seq (.reg 5) (.cond (.tmp 19) .skip (.exit 0))) (.seq (.block 1 (.seq (.reg 6) (.seq (.reg 7) (.cond (.tmp 29) (.seq (.reg 8) (.reg 9)) .skip)))) (.reg 10)))))) (.seq (.reg 11) (.seq (.reg 12) .ret))))))
def S_slices_DeleteFunc_s_int_int (a0 a1 : AV) (Q : AV → AH → Prop) (H : AH) : Prop := (
    Ca Try.prog (.fn (.func 37) [] []) [a0, a1] fun v10 =>
    Pu Try.prog (.bin .eql 3) [v10, (.p (.int .i64 (-1)))] fun v12 =>
    CdA v12
      (
      Rt Try.prog H.nx a0 Q
      ) (
      Pu Try.prog (.bin .add 3) [v10, (.p (.int .i64 1))] fun v15 =>
      LoopA Try.prog 2 (fun vs k =>
        Pu Try.prog .len [a0] fun v18 =>
        Pu Try.prog (.bin .lss 3) [(vs.getD 1 .any), v18] fun v19 =>
        CdA v19
          (
          Pu Try.prog (.idx 1) [a0, (vs.getD 1 .any)] fun v24 =>
          RdS Try.prog (.ld 1 false) [v24] fun v25 =>
          Ca Try.prog a1 [v25] fun v28 =>
          Pu Try.prog (.un .not) [v28] fun v29 =>
          CdA v29
            (
            Rg 5 fun b =>
            Pu Try.prog (.idx 1) [a0, (vs.getD 0 .any)] fun v33 =>
            WrS Try.prog (b + 4) (.st 1) [v33, v25] fun _ =>
            Pu Try.prog (.bin .add 3) [(vs.getD 0 .any), (.p (.int .i64 1))] fun v35 =>
            Pu Try.prog (.bin .add 3) [(vs.getD 1 .any), (.p (.int .i64 1))] fun v21 =>
            k [v35, v21]
            ) (
            Pu Try.prog (.bin .add 3) [(vs.getD 1 .any), (.p (.int .i64 1))] fun v21_17 =>
            k [(vs.getD 0 .any), v21_17]
            )
          ) (
          Rg 4 fun b_18 =>
          Pu Try.prog (.slc 1 true false) [a0, (vs.getD 0 .any)] fun v38 =>
          WrS Try.prog (b_18 + 3) (.clr 1 [.p (.int .i64 0)]) [v38] fun _ =>
          Pu Try.prog (.slc 1 false true) [a0, (vs.getD 0 .any)] fun v41 =>
          Rt Try.prog H.nx v41 Q
          )
        ) [v10, v15]
      )
    ) H
theorem eq_slices_DeleteFunc_s_int_int (a0 a1 : AV) (Q : AV → AH → Prop) (H : AH) : FnA Try.prog 42 (regsF Try.f33) ac_slices_DeleteFunc_s_int_int [.tm 4] [a0, a1] H Q = S_slices_DeleteFunc_s_int_int a0 a1 Q H := by kernel_rfl
theorem tri_slices_DeleteFunc_s_int_int {a0 a1 : AV} {H : AH} {Q : AV → AH → Prop} (h : S_slices_DeleteFunc_s_int_int a0 a1 Q H) : Tri Try.prog 33 [a0, a1] H Q :=
  tri_of (Ms := [#[], #[], #[], #[], #[], #[], #[], #[], #[], #[], #[], #[], #[]]) mixed Try.func33 rfl (by kernel_rfl) (by kernel_rfl) rfl (of_decide_eq_true rfl : 2 ≤ 42) ((eq_slices_DeleteFunc_s_int_int a0 a1 Q H).symm ▸ h : FnA Try.prog 42 (regsF Try.f33) ac_slices_DeleteFunc_s_int_int [.tm 4] [a0, a1] H Q)

/-! slices.IndexFunc[[]int,int] -/
def ac_slices_IndexFunc_s_int_int : AC := (.seq (.reg 0) (.seq (.seq (.reg 1) (.block 0 (.loop [8] [(4, 6), (9, 19)] (.seq (.reg 2) (.seq (.cond (.tmp 9) .skip (.exit 0)) (.seq (.block 1 (.seq (.reg 3) (.seq (.reg 4) (.cond (.tmp 16) (.seq (.reg 5) .ret) .skip)))) (.reg 6))))))) (.seq (.reg 7) .ret)))
def S_slices_IndexFunc_s_int_int (a0 a1 : AV) (Q : AV → AH → Prop) (H : AH) : Prop := (
    Pu Try.prog .len [a0] fun v7 =>
    LoopA Try.prog 1 (fun vs k =>
      Pu Try.prog (.bin .lss 3) [(vs.getD 0 .any), v7] fun v9 =>
      CdA v9
        (
        Pu Try.prog (.idx 1) [a0, (vs.getD 0 .any)] fun v14 =>
        RdS Try.prog (.ld 1 false) [v14] fun v15 =>
        Ca Try.prog a1 [v15] fun v16 =>
        CdA v16
          (
          Rt Try.prog H.nx (vs.getD 0 .any) Q
          ) (
          Pu Try.prog (.bin .add 3) [(vs.getD 0 .any), (.p (.int .i64 1))] fun v18 =>
          k [v18]
          )
        ) (
        Rt Try.prog H.nx (.p (.int .i64 (-1))) Q
        )
      ) [(.p (.int .i64 0))]
    ) H
theorem eq_slices_IndexFunc_s_int_int (a0 a1 : AV) (Q : AV → AH → Prop) (H : AH) : FnA Try.prog 19 (regsF Try.f37) ac_slices_IndexFunc_s_int_int [.tm 4] [a0, a1] H Q = S_slices_IndexFunc_s_int_int a0 a1 Q H := by kernel_rfl
theorem tri_slices_IndexFunc_s_int_int {a0 a1 : AV} {H : AH} {Q : AV → AH → Prop} (h : S_slices_IndexFunc_s_int_int a0 a1 Q H) : Tri Try.prog 37 [a0, a1] H Q :=
  tri_of (Ms := [#[], #[], #[], #[], #[], #[], #[], #[]]) mixed Try.func37 rfl (by kernel_rfl) (by kernel_rfl) rfl (of_decide_eq_true rfl : 2 ≤ 19) ((eq_slices_IndexFunc_s_int_int a0 a1 Q H).symm ▸ h : FnA Try.prog 19 (regsF Try.f37) ac_slices_IndexFunc_s_int_int [.tm 4] [a0, a1] H Q)

/-! slices.Concat[[]wordhoard/api.Claim,wordhoard/api.Claim] NOT TOLD: "slices.go:496" makeInterface; "slices.go:496" panic -/
def ac_slices_Concat_s_api_Claim_api_Claim : AC := (.seq (.reg 0) (.seq (.reg 1) (.seq (.seq (.reg 2) (.block 0 (.loop [3, 11] [(5, 6), (12, 23)] (.seq (.reg 3) (.seq (.cond (.tmp 12) .skip (.exit 0)) (.seq (.block 1 (.seq (.reg 4) (.seq (.reg 5) (.seq (.reg 6) (.cond (.tmp 20) (.reg 7) .skip))))) (.reg 8))))))) (.seq (.reg 9) (.seq (.seq (.reg 10) (.block 2 (.loop [6, 27] [(8, 9), (28, 35)] (.seq (.reg 11) (.seq (.cond (.tmp 28) .skip (.exit 2)) (.seq (.block 3 (.seq (.reg 12) (.reg 13))) (.reg 14))))))) (.seq (.reg 15) .ret))))))
def S_slices_Concat_s_api_Claim_api_Claim (a0 : AV) (Q : AV → AH → Prop) (H : AH) : Prop := (
    Pu Try.prog .len [a0] fun v10 =>
    LoopA Try.prog 2 (fun vs k =>
      Pu Try.prog (.bin .lss 3) [(vs.getD 1 .any), v10] fun v12 =>
      CdA v12
        (
        Pu Try.prog (.idx 1) [a0, (vs.getD 1 .any)] fun v13 =>
        RdS Try.prog (.ld 1 false) [v13] fun v14 =>
        Pu Try.prog .len [v14] fun v17 =>
        Pu Try.prog (.bin .add 3) [(vs.getD 0 .any), v17] fun v18 =>
        Pu Try.prog (.bin .lss 3) [v18, (.p (.int .i64 0))] fun v20 =>
        CdA v20
          (
          fun _ => False
          ) (
          Pu Try.prog (.bin .add 3) [(vs.getD 1 .any), (.p (.int .i64 1))] fun v22 =>
          k [v18, v22]
          )
        ) (
        Ca Try.prog (.fn (.func 45) [] []) [(.p (.slice none 0 0)), (vs.getD 0 .any)] fun v24 =>
        Pu Try.prog .len [a0] fun v26 =>
        LoopA Try.prog 2 (fun vs_15 k_14 =>
          Pu Try.prog (.bin .lss 3) [(vs_15.getD 1 .any), v26] fun v28 =>
          CdA v28
            (
            Pu Try.prog (.idx 1) [a0, (vs_15.getD 1 .any)] fun v29 =>
            RdS Try.prog (.ld 1 false) [v29] fun v30 =>
            Rg 4 fun b =>
            WrS Try.prog (b + 2) (.app 24 3 24) [(vs_15.getD 0 .any), v30] fun v33 =>
            Pu Try.prog (.bin .add 3) [(vs_15.getD 1 .any), (.p (.int .i64 1))] fun v34 =>
            k_14 [v33, v34]
            ) (
            Rt Try.prog H.nx (vs_15.getD 0 .any) Q
            )
          ) [v24, (.p (.int .i64 0))]
        )
      ) [(.p (.int .i64 0)), (.p (.int .i64 0))]
    ) H
theorem eq_slices_Concat_s_api_Claim_api_Claim (a0 : AV) (Q : AV → AH → Prop) (H : AH) : FnA Try.prog 36 (regsF Try.f40) ac_slices_Concat_s_api_Claim_api_Claim [.tm 2] [a0] H Q = S_slices_Concat_s_api_Claim_api_Claim a0 Q H := by kernel_rfl
theorem tri_slices_Concat_s_api_Claim_api_Claim {a0 : AV} {H : AH} {Q : AV → AH → Prop} (h : S_slices_Concat_s_api_Claim_api_Claim a0 Q H) : Tri Try.prog 40 [a0] H Q :=
  tri_of (Ms := [#[], #[], #[], #[], #[], #[], #[], #[], #[], #[], #[], #[], #[], #[], #[], #[]]) mixed Try.func40 rfl (by kernel_rfl) (by kernel_rfl) rfl (of_decide_eq_true rfl : 1 ≤ 36) ((eq_slices_Concat_s_api_Claim_api_Claim a0 Q H).symm ▸ h : FnA Try.prog 36 (regsF Try.f40) ac_slices_Concat_s_api_Claim_api_Claim [.tm 2] [a0] H Q)

/-! slices.Clone[[]int,int] -/
def ac_slices_Clone_s_int_int : AC := (.seq (.reg 0) (.seq (.seq (.reg 1) (.cond (.tmp 4) (.seq (.reg 2) .ret) .skip)) (.seq (.reg 3) .ret)))
def S_slices_Clone_s_int_int (a0 : AV) (Q : AV → AH → Prop) (H : AH) : Prop := (
    Pu Try.prog (.bin .eql 22) [a0, (.p (.slice none 0 0))] fun v4 =>
    CdA v4
      (
      Rt Try.prog H.nx (.p (.slice none 0 0)) Q
      ) (
      Rg 4 fun b =>
      Al (b + 0) (.bs 3 1 0 [.p (.int .i64 0)] []) [] fun v5 =>
      WrS Try.prog (b + 2) (.app 3 1 8) [v5, a0] fun v7 =>
      Rt Try.prog H.nx v7 Q
      )
    ) H
theorem eq_slices_Clone_s_int_int (a0 : AV) (Q : AV → AH → Prop) (H : AH) : FnA Try.prog 8 (regsF Try.f43) ac_slices_Clone_s_int_int [.tm 2] [a0] H Q = S_slices_Clone_s_int_int a0 Q H := by kernel_rfl
theorem tri_slices_Clone_s_int_int {a0 : AV} {H : AH} {Q : AV → AH → Prop} (h : S_slices_Clone_s_int_int a0 Q H) : Tri Try.prog 43 [a0] H Q :=
  tri_of (Ms := [#[], #[], #[], #[]]) mixed Try.func43 rfl (by kernel_rfl) (by kernel_rfl) rfl (of_decide_eq_true rfl : 1 ≤ 8) ((eq_slices_Clone_s_int_int a0 Q H).symm ▸ h : FnA Try.prog 8 (regsF Try.f43) ac_slices_Clone_s_int_int [.tm 2] [a0] H Q)

/-! slices.IndexFunc[[]wordhoard/api.Claim,wordhoard/api.Claim] -/
def ac_slices_IndexFunc_s_api_Claim_api_Claim : AC := (.seq (.reg 0) (.seq (.seq (.reg 1) (.block 0 (.loop [8] [(4, 6), (9, 19)] (.seq (.reg 2) (.seq (.cond (.tmp 9) .skip (.exit 0)) (.seq (.block 1 (.seq (.reg 3) (.seq (.reg 4) (.cond (.tmp 16) (.seq (.reg 5) .ret) .skip)))) (.reg 6))))))) (.seq (.reg 7) .ret)))
def S_slices_IndexFunc_s_api_Claim_api_Claim (a0 a1 : AV) (Q : AV → AH → Prop) (H : AH) : Prop := (
    Pu Try.prog .len [a0] fun v7 =>
    LoopA Try.prog 1 (fun vs k =>
      Pu Try.prog (.bin .lss 3) [(vs.getD 0 .any), v7] fun v9 =>
      CdA v9
        (
        Pu Try.prog (.idx 3) [a0, (vs.getD 0 .any)] fun v14 =>
        RdS Try.prog (.ld 3 true) [v14] fun v15 =>
        Ca Try.prog a1 [v15] fun v16 =>
        CdA v16
          (
          Rt Try.prog H.nx (vs.getD 0 .any) Q
          ) (
          Pu Try.prog (.bin .add 3) [(vs.getD 0 .any), (.p (.int .i64 1))] fun v18 =>
          k [v18]
          )
        ) (
        Rt Try.prog H.nx (.p (.int .i64 (-1))) Q
        )
      ) [(.p (.int .i64 0))]
    ) H
theorem eq_slices_IndexFunc_s_api_Claim_api_Claim (a0 a1 : AV) (Q : AV → AH → Prop) (H : AH) : FnA Try.prog 19 (regsF Try.f44) ac_slices_IndexFunc_s_api_Claim_api_Claim [.tm 4] [a0, a1] H Q = S_slices_IndexFunc_s_api_Claim_api_Claim a0 a1 Q H := by kernel_rfl
theorem tri_slices_IndexFunc_s_api_Claim_api_Claim {a0 a1 : AV} {H : AH} {Q : AV → AH → Prop} (h : S_slices_IndexFunc_s_api_Claim_api_Claim a0 a1 Q H) : Tri Try.prog 44 [a0, a1] H Q :=
  tri_of (Ms := [#[], #[], #[], #[], #[], #[], #[], #[]]) mixed Try.func44 rfl (by kernel_rfl) (by kernel_rfl) rfl (of_decide_eq_true rfl : 2 ≤ 19) ((eq_slices_IndexFunc_s_api_Claim_api_Claim a0 a1 Q H).symm ▸ h : FnA Try.prog 19 (regsF Try.f44) ac_slices_IndexFunc_s_api_Claim_api_Claim [.tm 4] [a0, a1] H Q)

/-! slices.Grow[[]wordhoard/api.Claim,wordhoard/api.Claim] NOT TOLD: "slices.go:424" makeInterface; "slices.go:424" panic -/
def ac_slices_Grow_s_api_Claim_api_Claim : AC := (.seq (.reg 0) (.cut [] [(5, 8)] (.seq (.reg 1) (.cond (.tmp 6) (.reg 2) .skip)) (.seq (.seq (.reg 3) (.seq (.reg 4) (.cond (.tmp 16) (.reg 5) .skip))) (.seq (.reg 6) .ret))))
def S_slices_Grow_s_api_Claim_api_Claim (a0 a1 : AV) (Q : AV → AH → Prop) (H : AH) : Prop := (
    CutA Try.prog 0 (fun k =>
      Pu Try.prog (.bin .lss 3) [a1, (.p (.int .i64 0))] fun v6 =>
      CdA v6
        (
        fun _ => False
        ) (
        k []
        )
      ) fun _ =>
    Pu Try.prog .cap [a0] fun v10 =>
    Pu Try.prog .len [a0] fun v12 =>
    Pu Try.prog (.bin .sub 3) [v10, v12] fun v13 =>
    Pu Try.prog (.bin .sub 3) [a1, v13] fun v14 =>
    Pu Try.prog (.bin .gtr 3) [v14, (.p (.int .i64 0))] fun v16 =>
    CdA v16
      (
      Rg 10 fun b =>
      Pu Try.prog .cap [a0] fun v19 =>
      Pu Try.prog (.slc 3 false true) [a0, v19] fun v20 =>
      WrS Try.prog (b + 5) (.apz 24 3 24 [.p (.bool false), .p (.int .i64 0), .p (.int .i64 0)]) [v20, v14] fun v22 =>
      Pu Try.prog .len [a0] fun v24 =>
      Pu Try.prog (.slc 3 false true) [v22, v24] fun v25 =>
      Rt Try.prog H.nx v25 Q
      ) (
      Rt Try.prog H.nx a0 Q
      )
    ) H
theorem eq_slices_Grow_s_api_Claim_api_Claim (a0 a1 : AV) (Q : AV → AH → Prop) (H : AH) : FnA Try.prog 27 (regsF Try.f45) ac_slices_Grow_s_api_Claim_api_Claim [.tm 4] [a0, a1] H Q = S_slices_Grow_s_api_Claim_api_Claim a0 a1 Q H := by kernel_rfl
theorem tri_slices_Grow_s_api_Claim_api_Claim {a0 a1 : AV} {H : AH} {Q : AV → AH → Prop} (h : S_slices_Grow_s_api_Claim_api_Claim a0 a1 Q H) : Tri Try.prog 45 [a0, a1] H Q :=
  tri_of (Ms := [#[], #[], #[], #[], #[], #[], #[]]) mixed Try.func45 rfl (by kernel_rfl) (by kernel_rfl) rfl (of_decide_eq_true rfl : 2 ≤ 27) ((eq_slices_Grow_s_api_Claim_api_Claim a0 a1 Q H).symm ▸ h : FnA Try.prog 27 (regsF Try.f45) ac_slices_Grow_s_api_Claim_api_Claim [.tm 4] [a0, a1] H Q)

/-! wordhoard/prove.Holds -/
def ac_prove_Holds : AC := (.seq (.reg 0) (.seq (.seq (.reg 1) (.cond (.tmp 9) (.seq (.reg 2) .ret) .skip)) (.seq (.seq (.reg 3) (.cond (.tmp 11) (.seq (.reg 4) .ret) .skip)) (.seq (.seq (.reg 5) (.seq (.reg 6) (.cond (.tmp 15) (.seq (.reg 7) .ret) .skip))) (.seq (.reg 8) .ret)))))
def S_prove_Holds (a0 a1 : AV) (Q : AV → AH → Prop) (H : AH) : Prop := (
    Rg 3 fun b =>
    Al (b + 0) (.bx 24) [a1] fun v3 =>
    Pu Try.prog .len [a0] fun v8 =>
    Pu Try.prog (.bin .gtr 3) [v8, (.p (.int .i64 64))] fun v9 =>
    CdA v9
      (
      Rt Try.prog H.nx (.tup [(.p (.bool false)), (.p (.int .i64 7))]) Q
      ) (
      Ca Try.prog (.fn (.func 19) [] []) [a0, (.fn (.func 20) [] [])] fun v11 =>
      CdA v11
        (
        Rt Try.prog H.nx (.tup [(.p (.bool false)), (.p (.int .i64 3))]) Q
        ) (
        RdS Try.prog (.ld 3 true) [v3] fun v12 =>
        Ca Try.prog (.fn (.func 11) [] []) [v12] fun v13 =>
        Pu Try.prog (.bin .neq 25) [v13, (.p (.int .i64 0))] fun v15 =>
        CdA v15
          (
          Rt Try.prog H.nx (.tup [(.p (.bool false)), v13]) Q
          ) (
          RdS Try.prog (.ld 3 true) [v3] fun v18 =>
          Ca Try.prog (.fn (.func 21) [] []) [a0, v18] fun v19 =>
          Rt Try.prog H.nx (.tup [v19, (.p (.int .i64 0))]) Q
          )
        )
      )
    ) H
theorem eq_prove_Holds (a0 a1 : AV) (Q : AV → AH → Prop) (H : AH) : FnA Try.prog 20 (regsF Try.f7) ac_prove_Holds [.tm 4, .tm 5] [a0, a1] H Q = S_prove_Holds a0 a1 Q H := by kernel_rfl
theorem tri_prove_Holds {a0 a1 : AV} {H : AH} {Q : AV → AH → Prop} (h : S_prove_Holds a0 a1 Q H) : Tri Try.prog 7 [a0, a1] H Q :=
  tri_of (Ms := [#[], #[], #[], #[], #[], #[], #[], #[], #[]]) mixed Try.func7 rfl (by kernel_rfl) (by kernel_rfl) rfl (of_decide_eq_true rfl : 2 ≤ 20) ((eq_prove_Holds a0 a1 Q H).symm ▸ h : FnA Try.prog 20 (regsF Try.f7) ac_prove_Holds [.tm 4, .tm 5] [a0, a1] H Q)

/-! wordhoard/prove.Check -/
def ac_prove_Check : AC := (.seq (.reg 0) (.seq (.seq (.reg 1) (.cond (.tmp 12) (.seq (.reg 2) .ret) .skip)) (.seq (.reg 3) .ret)))
def S_prove_Check (a0 : AV) (Q : AV → AH → Prop) (H : AH) : Prop := (
    Rg 2 fun b =>
    Al (b + 0) (.bx 24) [a0] fun v1 =>
    Pu Try.prog (.addOff 1) [v1] fun v3 =>
    RdS Try.prog (.ld 1 false) [v3] fun v4 =>
    Ca Try.prog (.fn (.func 22) [] []) [v4] fun v5 =>
    Pu Try.prog (.un .not) [v5] fun v6 =>
    Gd v6 false (fun k => Pu Try.prog (.addOff 2) [v1] k) fun v8 =>
    Gd v6 false (fun k_10 => RdS Try.prog (.ld 1 false) [v8] k_10) fun v9 =>
    Gd v6 false (fun k_12 => Ca Try.prog (.fn (.func 22) [] []) [v9] k_12) fun v10 =>
    Gd v6 false (fun k_14 => Pu Try.prog (.un .not) [v10] k_14) fun v11 =>
    Pu Try.prog .pick [v6, (.p (.bool true)), v11] fun v12 =>
    CdA v12
      (
      Rt Try.prog H.nx (.p (.int .i64 3)) Q
      ) (
      Rt Try.prog H.nx (.p (.int .i64 0)) Q
      )
    ) H
theorem eq_prove_Check (a0 : AV) (Q : AV → AH → Prop) (H : AH) : FnA Try.prog 13 (regsF Try.f11) ac_prove_Check [.tm 2] [a0] H Q = S_prove_Check a0 Q H := by kernel_rfl
theorem tri_prove_Check {a0 : AV} {H : AH} {Q : AV → AH → Prop} (h : S_prove_Check a0 Q H) : Tri Try.prog 11 [a0] H Q :=
  tri_of (Ms := [#[], #[], #[], #[]]) mixed Try.func11 rfl (by kernel_rfl) (by kernel_rfl) rfl (of_decide_eq_true rfl : 1 ≤ 13) ((eq_prove_Check a0 Q H).symm ▸ h : FnA Try.prog 13 (regsF Try.f11) ac_prove_Check [.tm 2] [a0] H Q)

/-! wordhoard/prove.Against -/
def ac_prove_Against : AC := (.seq (.reg 0) (.seq (.seq (.reg 1) (.seq (.reg 2) (.cond (.tmp 15) (.seq (.reg 3) .ret) .skip))) (.seq (.reg 4) (.seq (.seq (.reg 5) (.block 0 (.loop [17] [(9, 10), (18, 29)] (.seq (.reg 6) (.seq (.cond (.tmp 18) .skip (.exit 0)) (.seq (.block 1 (.seq (.reg 7) (.seq (.reg 8) (.cond (.tmp 23) (.reg 9) .skip)))) (.reg 10))))))) (.seq (.seq (.reg 11) (.cond (.tmp 30) (.reg 12) (.seq (.gh (.reg 13)) (.cond (.tmp 37) (.seq (.reg 14) .ret) .skip)))) (.seq (.seq (.gh (.reg 15)) (.cond (.tmp 40) (.seq (.reg 16) .ret) .skip)) (.seq (.reg 17) .ret)))))))
def S_prove_Against (a0 a1 : AV) (Q : AV → AH → Prop) (H : AH) : Prop := (
    Rg 4 fun b =>
    Al (b + 0) (.bx 24) [a1] fun v3 =>
    Rg 5 fun b_3 =>
    RdS Try.prog (.ld 3 true) [v3] fun v11 =>
    Al (b_3 + 2) (.bs 24 3 1 [.p (.bool false), .p (.int .i64 0), .p (.int .i64 0)] [(0, 3)]) [v11] fun v12 =>
    Ca Try.prog (.fn (.func 24) [] []) [a0, v12] fun v13 =>
    Pu Try.prog (.bin .neq 25) [v13, (.p (.int .i64 0))] fun v15 =>
    CdA v15
      (
      Rt Try.prog H.nx (.tup [(.p (.slice none 0 0)), (.p (.bool false)), v13]) Q
      ) (
      Rg 1 fun b_8 =>
      Al (b_8 + 0) (.nw 22 [.p (.slice none 0 0)]) [] fun v8 =>
      LoopA Try.prog 1 (fun vs k =>
        Pu Try.prog (.bin .lss 3) [(vs.getD 0 .any), (.p (.int .i64 64))] fun v18 =>
        CdA v18
          (
          Rg 3 fun b_13 =>
          Al (b_13 + 1) (.nw 3 [.p (.int .i64 0)]) [] fun v9 =>
          WrS Try.prog (b_13 + 2) (.st 1) [v9, (vs.getD 0 .any)] fun _ =>
          Pu Try.prog (.mkfn (.func 32) 0) [v9] fun v21 =>
          Ca Try.prog (.fn (.func 31) [] []) [a0, v21] fun v22 =>
          Pu Try.prog (.un .not) [v22] fun v23 =>
          CdA v23
            (
            Rg 5 fun b_19 =>
            RdS Try.prog (.ld 1 false) [v8] fun v24 =>
            RdS Try.prog (.ld 1 false) [v9] fun v25 =>
            Al (b_19 + 2) (.bs 3 1 1 [.p (.int .i64 0)] [(0, 1)]) [v25] fun v26 =>
            WrS Try.prog (b_19 + 3) (.app 3 1 8) [v24, v26] fun v27 =>
            WrS Try.prog (b_19 + 4) (.st 1) [v8, v27] fun _ =>
            Pu Try.prog (.bin .add 3) [(vs.getD 0 .any), (.p (.int .i64 1))] fun v28 =>
            k [v28]
            ) (
            Pu Try.prog (.bin .add 3) [(vs.getD 0 .any), (.p (.int .i64 1))] fun v28_26 =>
            k [v28_26]
            )
          ) (
          Pu Try.prog (.addOff 0) [v3] fun v29 =>
          RdS Try.prog (.ld 1 false) [v29] fun v30 =>
          CdA v30
            (
            Rg 4 fun b_29 =>
            RdS Try.prog (.ld 1 false) [v8] fun v31 =>
            Pu Try.prog (.mkfn (.func 34) 0) [v3] fun v32 =>
            Ca Try.prog (.fn (.func 33) [] []) [v31, v32] fun v33 =>
            WrS Try.prog (b_29 + 3) (.st 1) [v8, v33] fun _ =>
            Gq Try.prog <|
            Pu Try.prog (.mkfn (.func 36) 0) [v8] fun v39 =>
            Ca Try.prog (.fn (.func 31) [] []) [a0, v39] fun v40 =>
            CdA v40
              (
              Rt Try.prog H.nx (.tup [(.p (.slice none 0 0)), (.p (.bool false)), (.p (.int .i64 0))]) Q
              ) (
              RdS Try.prog (.ld 1 false) [v8] fun v41 =>
              Rt Try.prog H.nx (.tup [v41, (.p (.bool true)), (.p (.int .i64 0))]) Q
              )
            ) (
            Gq Try.prog <|
            RdS Try.prog (.ld 1 false) [v8] fun v34 =>
            Pu Try.prog (.mkfn (.func 35) 0) [v3] fun v35 =>
            Ca Try.prog (.fn (.func 19) [] []) [v34, v35] fun v36 =>
            Pu Try.prog (.un .not) [v36] fun v37 =>
            CdA v37
              (
              Rt Try.prog H.nx (.tup [(.p (.slice none 0 0)), (.p (.bool false)), (.p (.int .i64 0))]) Q
              ) (
              Gq Try.prog <|
              Pu Try.prog (.mkfn (.func 36) 0) [v8] fun v39_41 =>
              Ca Try.prog (.fn (.func 31) [] []) [a0, v39_41] fun v40_42 =>
              CdA v40_42
                (
                Rt Try.prog H.nx (.tup [(.p (.slice none 0 0)), (.p (.bool false)), (.p (.int .i64 0))]) Q
                ) (
                RdS Try.prog (.ld 1 false) [v8] fun v41_43 =>
                Rt Try.prog H.nx (.tup [v41_43, (.p (.bool true)), (.p (.int .i64 0))]) Q
                )
              )
            )
          )
        ) [(.p (.int .i64 0))]
      )
    ) H
theorem eq_prove_Against (a0 a1 : AV) (Q : AV → AH → Prop) (H : AH) : FnA Try.prog 42 (regsF Try.f17) ac_prove_Against [.tm 4, .tm 5, .tm 6] [a0, a1] H Q = S_prove_Against a0 a1 Q H := by kernel_rfl
theorem tri_prove_Against {a0 a1 : AV} {H : AH} {Q : AV → AH → Prop} (h : S_prove_Against a0 a1 Q H) : Tri Try.prog 17 [a0, a1] H Q :=
  tri_of (Ms := [#[], #[], #[], #[], #[], #[], #[], #[], #[], #[], #[], #[], #[], #[], #[], #[], #[], #[]]) mixed Try.func17 rfl (by kernel_rfl) (by kernel_rfl) rfl (of_decide_eq_true rfl : 2 ≤ 42) ((eq_prove_Against a0 a1 Q H).symm ▸ h : FnA Try.prog 42 (regsF Try.f17) ac_prove_Against [.tm 4, .tm 5, .tm 6] [a0, a1] H Q)

/-! wordhoard/prove.Holds$1 -/
def ac_prove_Holds_fn1 : AC := (.seq (.reg 0) (.seq (.reg 1) .ret))
def S_prove_Holds_fn1 (a0 : AV) (Q : AV → AH → Prop) (H : AH) : Prop := (
    Pu Try.prog (.bin .lss 3) [a0, (.p (.int .i64 0))] fun v4 =>
    Gd v4 false (fun k => k a0) fun v6 =>
    Gd v4 false (fun k_5 => Pu Try.prog (.bin .geq 3) [v6, (.p (.int .i64 64))] k_5) fun v7 =>
    Pu Try.prog .pick [v4, (.p (.bool true)), v7] fun v8 =>
    Rt Try.prog H.nx v8 Q
    ) H
theorem eq_prove_Holds_fn1 (a0 : AV) (Q : AV → AH → Prop) (H : AH) : FnA Try.prog 9 (regsF Try.f20) ac_prove_Holds_fn1 [.tm 2] [a0] H Q = S_prove_Holds_fn1 a0 Q H := by kernel_rfl
theorem tri_prove_Holds_fn1 {a0 : AV} {H : AH} {Q : AV → AH → Prop} (h : S_prove_Holds_fn1 a0 Q H) : Tri Try.prog 20 [a0] H Q :=
  tri_of (Ms := [#[], #[]]) mixed Try.func20 rfl (by kernel_rfl) (by kernel_rfl) rfl (of_decide_eq_true rfl : 1 ≤ 9) ((eq_prove_Holds_fn1 a0 Q H).symm ▸ h : FnA Try.prog 9 (regsF Try.f20) ac_prove_Holds_fn1 [.tm 2] [a0] H Q)

/-! wordhoard/prove.holds -/
def ac_prove_holds : AC := (.seq (.reg 0) (.seq (.reg 1) (.seq (.reg 2) .ret)))
def S_prove_holds (a0 a1 : AV) (Q : AV → AH → Prop) (H : AH) : Prop := (
    Rg 2 fun b =>
    Al (b + 0) (.bx 24) [a1] fun v3 =>
    Pu Try.prog (.mkfn (.func 38) 0) [v3] fun v7 =>
    Ca Try.prog (.fn (.func 19) [] []) [a0, v7] fun v8 =>
    Pu Try.prog (.addOff 0) [v3] fun v10 =>
    RdS Try.prog (.ld 1 false) [v10] fun v11 =>
    Pu Try.prog (.bin .eql 4) [v8, v11] fun v12 =>
    Rt Try.prog H.nx v12 Q
    ) H
theorem eq_prove_holds (a0 a1 : AV) (Q : AV → AH → Prop) (H : AH) : FnA Try.prog 13 (regsF Try.f21) ac_prove_holds [.tm 4] [a0, a1] H Q = S_prove_holds a0 a1 Q H := by kernel_rfl
theorem tri_prove_holds {a0 a1 : AV} {H : AH} {Q : AV → AH → Prop} (h : S_prove_holds a0 a1 Q H) : Tri Try.prog 21 [a0, a1] H Q :=
  tri_of (Ms := [#[], #[], #[]]) mixed Try.func21 rfl (by kernel_rfl) (by kernel_rfl) rfl (of_decide_eq_true rfl : 2 ≤ 13) ((eq_prove_holds a0 a1 Q H).symm ▸ h : FnA Try.prog 13 (regsF Try.f21) ac_prove_holds [.tm 4] [a0, a1] H Q)

/-! wordhoard/prove.literal -/
def ac_prove_literal : AC := (.seq (.reg 0) (.seq (.reg 1) .ret))
def S_prove_literal (a0 : AV) (Q : AV → AH → Prop) (H : AH) : Prop := (
    Pu Try.prog (.bin .neq 3) [a0, (.p (.int .i64 0))] fun v4 =>
    Gd v4 true (fun k => k a0) fun v6 =>
    Gd v4 true (fun k_5 => Pu Try.prog (.bin .geq 3) [v6, (.p (.int .i64 (-6)))] k_5) fun v7 =>
    Pu Try.prog .pick [v4, v7, (.p (.bool false))] fun v8 =>
    Gd v8 true (fun k_8 => k_8 a0) fun v10 =>
    Gd v8 true (fun k_10 => Pu Try.prog (.bin .leq 3) [v10, (.p (.int .i64 6))] k_10) fun v11 =>
    Pu Try.prog .pick [v8, v11, (.p (.bool false))] fun v12 =>
    Rt Try.prog H.nx v12 Q
    ) H
theorem eq_prove_literal (a0 : AV) (Q : AV → AH → Prop) (H : AH) : FnA Try.prog 13 (regsF Try.f22) ac_prove_literal [.tm 2] [a0] H Q = S_prove_literal a0 Q H := by kernel_rfl
theorem tri_prove_literal {a0 : AV} {H : AH} {Q : AV → AH → Prop} (h : S_prove_literal a0 Q H) : Tri Try.prog 22 [a0] H Q :=
  tri_of (Ms := [#[], #[]]) mixed Try.func22 rfl (by kernel_rfl) (by kernel_rfl) rfl (of_decide_eq_true rfl : 1 ≤ 13) ((eq_prove_literal a0 Q H).symm ▸ h : FnA Try.prog 13 (regsF Try.f22) ac_prove_literal [.tm 2] [a0] H Q)

/-! wordhoard/prove.checkAll -/
def ac_prove_checkAll : AC := (.seq (.reg 0) (.seq (.seq (.reg 1) (.cond (.tmp 10) (.seq (.reg 2) .ret) .skip)) (.seq (.seq (.reg 3) (.block 0 (.loop [16] [(4, 5), (6, 8), (17, 26)] (.seq (.reg 4) (.seq (.cond (.tmp 17) .skip (.exit 0)) (.seq (.block 1 (.seq (.reg 5) (.seq (.reg 6) (.seq (.reg 7) (.cond (.tmp 23) (.seq (.reg 8) .ret) .skip))))) (.reg 9))))))) (.seq (.reg 10) .ret))))
def S_prove_checkAll (a0 a1 : AV) (Q : AV → AH → Prop) (H : AH) : Prop := (
    Pu Try.prog .len [a0] fun v9 =>
    Pu Try.prog (.bin .gtr 3) [v9, (.p (.int .i64 20))] fun v10 =>
    CdA v10
      (
      Rt Try.prog H.nx (.p (.int .i64 7)) Q
      ) (
      Rg 6 fun b =>
      Al (b + 2) (.bs 32 1 2 [.p (.slice none 0 0)] [(0, 1), (1, 1)]) [a0, a1] fun v13 =>
      Ca Try.prog (.fn (.func 40) [] []) [v13] fun v14 =>
      Pu Try.prog .len [v14] fun v15 =>
      LoopA Try.prog 1 (fun vs k =>
        Pu Try.prog (.bin .lss 3) [(vs.getD 0 .any), v15] fun v17 =>
        CdA v17
          (
          Rg 4 fun b_10 =>
          Pu Try.prog (.idx 3) [v14, (vs.getD 0 .any)] fun v18 =>
          RdS Try.prog (.ld 3 true) [v18] fun v19 =>
          Al (b_10 + 2) (.nw 24 [.p (.bool false), .p (.int .i64 0), .p (.int .i64 0)]) [] fun v6 =>
          WrS Try.prog (b_10 + 3) (.st 3) [v6, v19] fun _ =>
          RdS Try.prog (.ld 3 true) [v6] fun v20 =>
          Ca Try.prog (.fn (.func 11) [] []) [v20] fun v21 =>
          Pu Try.prog (.bin .neq 25) [v21, (.p (.int .i64 0))] fun v23 =>
          CdA v23
            (
            Rt Try.prog H.nx v21 Q
            ) (
            Pu Try.prog (.bin .add 3) [(vs.getD 0 .any), (.p (.int .i64 1))] fun v25 =>
            k [v25]
            )
          ) (
          Rt Try.prog H.nx (.p (.int .i64 0)) Q
          )
        ) [(.p (.int .i64 0))]
      )
    ) H
theorem eq_prove_checkAll (a0 a1 : AV) (Q : AV → AH → Prop) (H : AH) : FnA Try.prog 26 (regsF Try.f24) ac_prove_checkAll [.tm 4] [a0, a1] H Q = S_prove_checkAll a0 a1 Q H := by kernel_rfl
theorem tri_prove_checkAll {a0 a1 : AV} {H : AH} {Q : AV → AH → Prop} (h : S_prove_checkAll a0 a1 Q H) : Tri Try.prog 24 [a0, a1] H Q :=
  tri_of (Ms := [#[], #[], #[], #[], #[], #[], #[], #[], #[], #[], #[]]) mixed Try.func24 rfl (by kernel_rfl) (by kernel_rfl) rfl (of_decide_eq_true rfl : 2 ≤ 26) ((eq_prove_checkAll a0 a1 Q H).symm ▸ h : FnA Try.prog 26 (regsF Try.f24) ac_prove_checkAll [.tm 4] [a0, a1] H Q)

/-! wordhoard/prove.Against$1 -/
def ac_prove_Against_fn1 : AC := (.seq (.reg 0) (.seq (.reg 1) .ret))
def S_prove_Against_fn1 (a0 a1 : AV) (Q : AV → AH → Prop) (H : AH) : Prop := (
    Rg 2 fun b =>
    Al (b + 0) (.bx 24) [a0] fun v2 =>
    Rg 11 fun b_3 =>
    Pu Try.prog (.addOff 0) [v2] fun v4 =>
    RdS Try.prog (.ld 1 false) [v4] fun v5 =>
    Pu Try.prog (.un .not) [v5] fun v6 =>
    Gd v6 true (fun k => RdS Try.prog (.ld 1 false) [a1] k) fun v8 =>
    Gd v6 true (fun k_10 => Al (b_3 + 5) (.bs 3 1 1 [.p (.int .i64 0)] [(0, 1)]) [v8] k_10) fun v9 =>
    Gd v6 true (fun k_12 => RdS Try.prog (.ld 3 true) [v2] k_12) fun v10 =>
    Gd v6 true (fun k_14 => Ca Try.prog (.fn (.func 21) [] []) [v9, v10] k_14) fun v11 =>
    Gd v6 true (fun k_16 => Pu Try.prog (.un .not) [v11] k_16) fun v12 =>
    Pu Try.prog .pick [v6, v12, (.p (.bool false))] fun v13 =>
    Rt Try.prog H.nx v13 Q
    ) H
theorem eq_prove_Against_fn1 (a0 a1 : AV) (Q : AV → AH → Prop) (H : AH) : FnA Try.prog 14 (regsF Try.f32) ac_prove_Against_fn1 [.tm 3] [a0, a1] H Q = S_prove_Against_fn1 a0 a1 Q H := by kernel_rfl
theorem tri_prove_Against_fn1 {a0 a1 : AV} {H : AH} {Q : AV → AH → Prop} (h : S_prove_Against_fn1 a0 a1 Q H) : Tri Try.prog 32 [a0, a1] H Q :=
  tri_of (Ms := [#[], #[]]) mixed Try.func32 rfl (by kernel_rfl) (by kernel_rfl) rfl (of_decide_eq_true rfl : 2 ≤ 14) ((eq_prove_Against_fn1 a0 a1 Q H).symm ▸ h : FnA Try.prog 14 (regsF Try.f32) ac_prove_Against_fn1 [.tm 3] [a0, a1] H Q)

/-! wordhoard/prove.Against$2 -/
def ac_prove_Against_fn2 : AC := (.seq (.reg 0) (.seq (.reg 1) .ret))
def S_prove_Against_fn2 (a0 a1 : AV) (Q : AV → AH → Prop) (H : AH) : Prop := (
    Rg 5 fun b =>
    Al (b + 1) (.bs 3 1 1 [.p (.int .i64 0)] [(0, 1)]) [a0] fun v5 =>
    RdS Try.prog (.ld 3 true) [a1] fun v6 =>
    Ca Try.prog (.fn (.func 21) [] []) [v5, v6] fun v7 =>
    Rt Try.prog H.nx v7 Q
    ) H
theorem eq_prove_Against_fn2 (a0 a1 : AV) (Q : AV → AH → Prop) (H : AH) : FnA Try.prog 8 (regsF Try.f34) ac_prove_Against_fn2 [.tm 3] [a0, a1] H Q = S_prove_Against_fn2 a0 a1 Q H := by kernel_rfl
theorem tri_prove_Against_fn2 {a0 a1 : AV} {H : AH} {Q : AV → AH → Prop} (h : S_prove_Against_fn2 a0 a1 Q H) : Tri Try.prog 34 [a0, a1] H Q :=
  tri_of (Ms := [#[], #[]]) mixed Try.func34 rfl (by kernel_rfl) (by kernel_rfl) rfl (of_decide_eq_true rfl : 2 ≤ 8) ((eq_prove_Against_fn2 a0 a1 Q H).symm ▸ h : FnA Try.prog 8 (regsF Try.f34) ac_prove_Against_fn2 [.tm 3] [a0, a1] H Q)

/-! wordhoard/prove.Against$3 -/
def ac_prove_Against_fn3 : AC := (.seq (.reg 0) (.seq (.reg 1) .ret))
def S_prove_Against_fn3 (a0 a1 : AV) (Q : AV → AH → Prop) (H : AH) : Prop := (
    Rg 6 fun b =>
    Al (b + 1) (.bs 3 1 1 [.p (.int .i64 0)] [(0, 1)]) [a0] fun v5 =>
    RdS Try.prog (.ld 3 true) [a1] fun v6 =>
    Ca Try.prog (.fn (.func 21) [] []) [v5, v6] fun v7 =>
    Pu Try.prog (.un .not) [v7] fun v8 =>
    Rt Try.prog H.nx v8 Q
    ) H
theorem eq_prove_Against_fn3 (a0 a1 : AV) (Q : AV → AH → Prop) (H : AH) : FnA Try.prog 9 (regsF Try.f35) ac_prove_Against_fn3 [.tm 3] [a0, a1] H Q = S_prove_Against_fn3 a0 a1 Q H := by kernel_rfl
theorem tri_prove_Against_fn3 {a0 a1 : AV} {H : AH} {Q : AV → AH → Prop} (h : S_prove_Against_fn3 a0 a1 Q H) : Tri Try.prog 35 [a0, a1] H Q :=
  tri_of (Ms := [#[], #[]]) mixed Try.func35 rfl (by kernel_rfl) (by kernel_rfl) rfl (of_decide_eq_true rfl : 2 ≤ 9) ((eq_prove_Against_fn3 a0 a1 Q H).symm ▸ h : FnA Try.prog 9 (regsF Try.f35) ac_prove_Against_fn3 [.tm 3] [a0, a1] H Q)

/-! wordhoard/prove.Against$4 -/
def ac_prove_Against_fn4 : AC := (.seq (.reg 0) (.seq (.reg 1) .ret))
def S_prove_Against_fn4 (a0 a1 : AV) (Q : AV → AH → Prop) (H : AH) : Prop := (
    Rg 2 fun b =>
    Al (b + 0) (.bx 24) [a0] fun v2 =>
    RdS Try.prog (.ld 1 false) [a1] fun v4 =>
    RdS Try.prog (.ld 3 true) [v2] fun v5 =>
    Ca Try.prog (.fn (.func 21) [] []) [v4, v5] fun v6 =>
    Pu Try.prog (.un .not) [v6] fun v7 =>
    Rt Try.prog H.nx v7 Q
    ) H
theorem eq_prove_Against_fn4 (a0 a1 : AV) (Q : AV → AH → Prop) (H : AH) : FnA Try.prog 8 (regsF Try.f36) ac_prove_Against_fn4 [.tm 3] [a0, a1] H Q = S_prove_Against_fn4 a0 a1 Q H := by kernel_rfl
theorem tri_prove_Against_fn4 {a0 a1 : AV} {H : AH} {Q : AV → AH → Prop} (h : S_prove_Against_fn4 a0 a1 Q H) : Tri Try.prog 36 [a0, a1] H Q :=
  tri_of (Ms := [#[], #[]]) mixed Try.func36 rfl (by kernel_rfl) (by kernel_rfl) rfl (of_decide_eq_true rfl : 2 ≤ 8) ((eq_prove_Against_fn4 a0 a1 Q H).symm ▸ h : FnA Try.prog 8 (regsF Try.f36) ac_prove_Against_fn4 [.tm 3] [a0, a1] H Q)

/-! wordhoard/prove.holds$1 -/
def ac_prove_holds_fn1 : AC := (.seq (.reg 0) (.seq (.reg 1) .ret))
def S_prove_holds_fn1 (a0 a1 : AV) (Q : AV → AH → Prop) (H : AH) : Prop := (
    Vw fun V =>
    Pu Try.prog (.addOff 1) [a1] fun v5 =>
    Rd Try.prog V (.ld 1 false) [v5] fun v6 =>
    CaV Try.prog V (.fn (.func 39) [] []) [a0, v6] fun v7 =>
    GdV v7 true (fun k => k a0 V) V fun v9 V_7 =>
    GdV v7 true (fun k_9 => Pu Try.prog (.addOff 2) [a1] (fun a => k_9 a V_7)) V_7 fun v10 V_10 =>
    GdV v7 true (fun k_12 => Rd Try.prog V_10 (.ld 1 false) [v10] (fun a => k_12 a V_10)) V_10 fun v11 V_13 =>
    GdV v7 true (fun k_15 => CaV Try.prog V_13 (.fn (.func 39) [] []) [v9, v11] (fun a => k_15 a V_13)) V_13 fun v12 V_16 =>
    GdV v7 true (fun k_18 => Pu Try.prog (.addOff 0) [a1] (fun a => k_18 a V_16)) V_16 fun v13 V_19 =>
    GdV v7 true (fun k_21 => Rd Try.prog V_19 (.ld 1 false) [v13] (fun a => k_21 a V_19)) V_19 fun v14 V_22 =>
    GdV v7 true (fun k_24 => Pu Try.prog (.bin .eql 4) [v12, v14] (fun a => k_24 a V_22)) V_22 fun v15 _ =>
    Pu Try.prog .pick [v7, v15, (.p (.bool false))] fun v16 =>
    Rt Try.prog H.nx v16 Q
    ) H
theorem eq_prove_holds_fn1 (a0 a1 : AV) (Q : AV → AH → Prop) (H : AH) : FnA Try.prog 17 (regsF Try.f38) ac_prove_holds_fn1 [.tm 3] [a0, a1] H Q = S_prove_holds_fn1 a0 a1 Q H := by kernel_rfl
theorem tri_prove_holds_fn1 {a0 a1 : AV} {H : AH} {Q : AV → AH → Prop} (h : S_prove_holds_fn1 a0 a1 Q H) : Tri Try.prog 38 [a0, a1] H Q :=
  tri_of (Ms := [#[], #[0, 0, 2, 7, 15, 31, 31, 95, 255, 31, 543, 2047, 4095, 8191]]) mixed Try.func38 rfl (by kernel_rfl) (by kernel_rfl) rfl (of_decide_eq_true rfl : 2 ≤ 17) ((eq_prove_holds_fn1 a0 a1 Q H).symm ▸ h : FnA Try.prog 17 (regsF Try.f38) ac_prove_holds_fn1 [.tm 3] [a0, a1] H Q)

/-! wordhoard/prove.is -/
def ac_prove_is : AC := (.seq (.reg 0) (.seq (.seq (.reg 1) (.cond (.tmp 6) (.seq (.reg 2) .ret) .skip)) (.seq (.reg 3) .ret)))
def S_prove_is (a0 a1 : AV) (Q : AV → AH → Prop) (H : AH) : Prop := (
    Pu Try.prog (.bin .lss 3) [a1, (.p (.int .i64 0))] fun v6 =>
    CdA v6
      (
      Pu Try.prog (.un .neg) [a1] fun v9 =>
      Ca Try.prog (.fn (.func 39) [] []) [a0, v9] fun v10 =>
      Pu Try.prog (.un .not) [v10] fun v11 =>
      Rt Try.prog H.nx v11 Q
      ) (
      Pu Try.prog (.bin .sub 3) [a1, (.p (.int .i64 1))] fun v14 =>
      Pu Try.prog (.bin .shr 3) [a0, v14] fun v15 =>
      Pu Try.prog (.bin .and 3) [v15, (.p (.int .i64 1))] fun v16 =>
      Pu Try.prog (.bin .eql 3) [v16, (.p (.int .i64 1))] fun v17 =>
      Rt Try.prog H.nx v17 Q
      )
    ) H
theorem eq_prove_is (a0 a1 : AV) (Q : AV → AH → Prop) (H : AH) : FnA Try.prog 18 (regsF Try.f39) ac_prove_is [.tm 4] [a0, a1] H Q = S_prove_is a0 a1 Q H := by kernel_rfl
theorem tri_prove_is {a0 a1 : AV} {H : AH} {Q : AV → AH → Prop} (h : S_prove_is a0 a1 Q H) : Tri Try.prog 39 [a0, a1] H Q :=
  tri_of (Ms := [#[], #[], #[], #[]]) mixed Try.func39 rfl (by kernel_rfl) (by kernel_rfl) rfl (of_decide_eq_true rfl : 2 ≤ 18) ((eq_prove_is a0 a1 Q H).symm ▸ h : FnA Try.prog 18 (regsF Try.f39) ac_prove_is [.tm 4] [a0, a1] H Q)

/-! wordhoard/wordhoardref.CheckWorld -/
def ac_wordhoardref_CheckWorld : AC := (.seq (.reg 0) (.seq (.seq (.reg 1) (.cond (.tmp 6) (.seq (.reg 2) .ret) .skip)) (.seq (.seq (.reg 3) (.block 0 (.loop [3] [(2, 3), (7, 25)] (.seq (.seq (.reg 4) (.cond (.tmp 10) .skip (.exit 0))) (.seq (.block 1 (.seq (.reg 5) (.cond (.tmp 24) (.seq (.reg 6) .ret) .skip))) (.reg 7)))))) (.seq (.reg 8) .ret))))
def S_wordhoardref_CheckWorld (a0 : AV) (Q : AV → AH → Prop) (H : AH) : Prop := (
    Pu Try.prog .len [a0] fun v5 =>
    Pu Try.prog (.bin .gtr 3) [v5, (.p (.int .i64 64))] fun v6 =>
    CdA v6
      (
      Rt Try.prog H.nx (.p (.int .i64 7)) Q
      ) (
      LoopA Try.prog 1 (fun vs k =>
        Pu Try.prog .len [a0] fun v9 =>
        Pu Try.prog (.bin .lss 3) [(vs.getD 0 .any), v9] fun v10 =>
        CdA v10
          (
          Pu Try.prog (.idx 1) [a0, (vs.getD 0 .any)] fun v15 =>
          RdS Try.prog (.ld 1 false) [v15] fun v16 =>
          Pu Try.prog (.bin .lss 3) [v16, (.p (.int .i64 0))] fun v17 =>
          Gd v17 false (fun k_11 => k_11 a0) fun v19 =>
          Gd v17 false (fun k_13 => k_13 (vs.getD 0 .any)) fun v20 =>
          Gd v17 false (fun k_15 => Pu Try.prog (.idx 1) [v19, v20] k_15) fun v21 =>
          Gd v17 false (fun k_17 => RdS Try.prog (.ld 1 false) [v21] k_17) fun v22 =>
          Gd v17 false (fun k_19 => Pu Try.prog (.bin .gtr 3) [v22, (.p (.int .i64 63))] k_19) fun v23 =>
          Pu Try.prog .pick [v17, (.p (.bool true)), v23] fun v24 =>
          CdA v24
            (
            Rt Try.prog H.nx (.p (.int .i64 3)) Q
            ) (
            Pu Try.prog (.bin .add 3) [(vs.getD 0 .any), (.p (.int .i64 1))] fun v12 =>
            k [v12]
            )
          ) (
          Rt Try.prog H.nx (.p (.int .i64 0)) Q
          )
        ) [(.p (.int .i64 0))]
      )
    ) H
theorem eq_wordhoardref_CheckWorld (a0 : AV) (Q : AV → AH → Prop) (H : AH) : FnA Try.prog 25 (regsF Try.f8) ac_wordhoardref_CheckWorld [.tm 2] [a0] H Q = S_wordhoardref_CheckWorld a0 Q H := by kernel_rfl
theorem tri_wordhoardref_CheckWorld {a0 : AV} {H : AH} {Q : AV → AH → Prop} (h : S_wordhoardref_CheckWorld a0 Q H) : Tri Try.prog 8 [a0] H Q :=
  tri_of (Ms := [#[], #[], #[], #[], #[], #[], #[], #[], #[]]) mixed Try.func8 rfl (by kernel_rfl) (by kernel_rfl) rfl (of_decide_eq_true rfl : 1 ≤ 25) ((eq_wordhoardref_CheckWorld a0 Q H).symm ▸ h : FnA Try.prog 25 (regsF Try.f8) ac_wordhoardref_CheckWorld [.tm 2] [a0] H Q)

/-! wordhoard/wordhoardref.CheckClaim -/
def ac_wordhoardref_CheckClaim : AC := (.seq (.reg 0) (.seq (.seq (.reg 1) (.cond (.tmp 30) (.seq (.reg 2) .ret) .skip)) (.seq (.reg 3) .ret)))
def S_wordhoardref_CheckClaim (a0 : AV) (Q : AV → AH → Prop) (H : AH) : Prop := (
    Rg 2 fun b =>
    Al (b + 0) (.bx 24) [a0] fun v1 =>
    Pu Try.prog (.addOff 1) [v1] fun v3 =>
    RdS Try.prog (.ld 1 false) [v3] fun v4 =>
    Pu Try.prog (.bin .eql 3) [v4, (.p (.int .i64 0))] fun v5 =>
    Gd v5 false (fun k => Pu Try.prog (.addOff 1) [v1] k) fun v7 =>
    Gd v5 false (fun k_9 => RdS Try.prog (.ld 1 false) [v7] k_9) fun v8 =>
    Gd v5 false (fun k_11 => Pu Try.prog (.bin .lss 3) [v8, (.p (.int .i64 (-6)))] k_11) fun v9 =>
    Pu Try.prog .pick [v5, (.p (.bool true)), v9] fun v10 =>
    Gd v10 false (fun k_14 => Pu Try.prog (.addOff 1) [v1] k_14) fun v12 =>
    Gd v10 false (fun k_16 => RdS Try.prog (.ld 1 false) [v12] k_16) fun v13 =>
    Gd v10 false (fun k_18 => Pu Try.prog (.bin .gtr 3) [v13, (.p (.int .i64 6))] k_18) fun v14 =>
    Pu Try.prog .pick [v10, (.p (.bool true)), v14] fun v15 =>
    Gd v15 false (fun k_21 => Pu Try.prog (.addOff 2) [v1] k_21) fun v17 =>
    Gd v15 false (fun k_23 => RdS Try.prog (.ld 1 false) [v17] k_23) fun v18 =>
    Gd v15 false (fun k_25 => Pu Try.prog (.bin .eql 3) [v18, (.p (.int .i64 0))] k_25) fun v19 =>
    Pu Try.prog .pick [v15, (.p (.bool true)), v19] fun v20 =>
    Gd v20 false (fun k_28 => Pu Try.prog (.addOff 2) [v1] k_28) fun v22 =>
    Gd v20 false (fun k_30 => RdS Try.prog (.ld 1 false) [v22] k_30) fun v23 =>
    Gd v20 false (fun k_32 => Pu Try.prog (.bin .lss 3) [v23, (.p (.int .i64 (-6)))] k_32) fun v24 =>
    Pu Try.prog .pick [v20, (.p (.bool true)), v24] fun v25 =>
    Gd v25 false (fun k_35 => Pu Try.prog (.addOff 2) [v1] k_35) fun v27 =>
    Gd v25 false (fun k_37 => RdS Try.prog (.ld 1 false) [v27] k_37) fun v28 =>
    Gd v25 false (fun k_39 => Pu Try.prog (.bin .gtr 3) [v28, (.p (.int .i64 6))] k_39) fun v29 =>
    Pu Try.prog .pick [v25, (.p (.bool true)), v29] fun v30 =>
    CdA v30
      (
      Rt Try.prog H.nx (.p (.int .i64 3)) Q
      ) (
      Rt Try.prog H.nx (.p (.int .i64 0)) Q
      )
    ) H
theorem eq_wordhoardref_CheckClaim (a0 : AV) (Q : AV → AH → Prop) (H : AH) : FnA Try.prog 31 (regsF Try.f9) ac_wordhoardref_CheckClaim [.tm 2] [a0] H Q = S_wordhoardref_CheckClaim a0 Q H := by kernel_rfl
theorem tri_wordhoardref_CheckClaim {a0 : AV} {H : AH} {Q : AV → AH → Prop} (h : S_wordhoardref_CheckClaim a0 Q H) : Tri Try.prog 9 [a0] H Q :=
  tri_of (Ms := [#[], #[], #[], #[]]) mixed Try.func9 rfl (by kernel_rfl) (by kernel_rfl) rfl (of_decide_eq_true rfl : 1 ≤ 31) ((eq_wordhoardref_CheckClaim a0 Q H).symm ▸ h : FnA Try.prog 31 (regsF Try.f9) ac_wordhoardref_CheckClaim [.tm 2] [a0] H Q)

/-! wordhoard/wordhoardref.HoldsIn -/
def ac_wordhoardref_HoldsIn : AC := (.seq (.reg 0) (.seq (.seq (.reg 1) (.block 0 (.loop [5] [(4, 5), (6, 33)] (.seq (.seq (.reg 2) (.cond (.tmp 9) .skip (.exit 0))) (.seq (.block 1 (.seq (.reg 3) (.cond (.tmp 30) (.seq (.reg 4) .ret) .skip))) (.reg 5)))))) (.seq (.reg 6) .ret)))
def S_wordhoardref_HoldsIn (a0 a1 : AV) (Q : AV → AH → Prop) (H : AH) : Prop := (
    Rg 2 fun b =>
    Al (b + 0) (.bx 24) [a1] fun v3 =>
    LoopA Try.prog 1 (fun vs k =>
      Pu Try.prog .len [a0] fun v8 =>
      Pu Try.prog (.bin .lss 3) [(vs.getD 0 .any), v8] fun v9 =>
      CdA v9
        (
        Vw fun V =>
        Pu Try.prog (.idx 1) [a0, (vs.getD 0 .any)] fun v14 =>
        Rd Try.prog V (.ld 1 false) [v14] fun v15 =>
        Pu Try.prog (.addOff 1) [v3] fun v16 =>
        Rd Try.prog V (.ld 1 false) [v16] fun v17 =>
        CaV Try.prog V (.fn (.func 23) [] []) [v15, v17] fun v18 =>
        GdV v18 true (fun k_14 => k_14 a0 V) V fun v20 V_15 =>
        GdV v18 true (fun k_17 => k_17 (vs.getD 0 .any) V_15) V_15 fun v21 V_18 =>
        GdV v18 true (fun k_20 => Pu Try.prog (.idx 1) [v20, v21] (fun a => k_20 a V_18)) V_18 fun v22 V_21 =>
        GdV v18 true (fun k_23 => Rd Try.prog V_21 (.ld 1 false) [v22] (fun a => k_23 a V_21)) V_21 fun v23 V_24 =>
        GdV v18 true (fun k_26 => Pu Try.prog (.addOff 2) [v3] (fun a => k_26 a V_24)) V_24 fun v24 V_27 =>
        GdV v18 true (fun k_29 => Rd Try.prog V_27 (.ld 1 false) [v24] (fun a => k_29 a V_27)) V_27 fun v25 V_30 =>
        GdV v18 true (fun k_32 => CaV Try.prog V_30 (.fn (.func 23) [] []) [v23, v25] (fun a => k_32 a V_30)) V_30 fun v26 V_33 =>
        GdV v18 true (fun k_35 => Pu Try.prog (.addOff 0) [v3] (fun a => k_35 a V_33)) V_33 fun v27 V_36 =>
        GdV v18 true (fun k_38 => Rd Try.prog V_36 (.ld 1 false) [v27] (fun a => k_38 a V_36)) V_36 fun v28 V_39 =>
        GdV v18 true (fun k_41 => Pu Try.prog (.bin .eql 4) [v26, v28] (fun a => k_41 a V_39)) V_39 fun v29 _ =>
        Pu Try.prog .pick [v18, v29, (.p (.bool false))] fun v30 =>
        CdA v30
          (
          Pu Try.prog (.addOff 0) [v3] fun v31 =>
          RdS Try.prog (.ld 1 false) [v31] fun v32 =>
          Rt Try.prog H.nx v32 Q
          ) (
          Pu Try.prog (.bin .add 3) [(vs.getD 0 .any), (.p (.int .i64 1))] fun v11 =>
          k [v11]
          )
        ) (
        Pu Try.prog (.addOff 0) [v3] fun v33 =>
        RdS Try.prog (.ld 1 false) [v33] fun v34 =>
        Pu Try.prog (.un .not) [v34] fun v35 =>
        Rt Try.prog H.nx v35 Q
        )
      ) [(.p (.int .i64 0))]
    ) H
theorem eq_wordhoardref_HoldsIn (a0 a1 : AV) (Q : AV → AH → Prop) (H : AH) : FnA Try.prog 36 (regsF Try.f12) ac_wordhoardref_HoldsIn [.tm 4] [a0, a1] H Q = S_wordhoardref_HoldsIn a0 a1 Q H := by kernel_rfl
theorem tri_wordhoardref_HoldsIn {a0 a1 : AV} {H : AH} {Q : AV → AH → Prop} (h : S_wordhoardref_HoldsIn a0 a1 Q H) : Tri Try.prog 12 [a0, a1] H Q :=
  tri_of (Ms := [#[], #[], #[], #[0, 0, 3, 7, 0, 16, 63, 127, 255, 255, 1023, 2047, 255, 4351, 16383, 255, 33023, 131071, 262143], #[], #[], #[]]) mixed Try.func12 rfl (by kernel_rfl) (by kernel_rfl) rfl (of_decide_eq_true rfl : 2 ≤ 36) ((eq_wordhoardref_HoldsIn a0 a1 Q H).symm ▸ h : FnA Try.prog 36 (regsF Try.f12) ac_wordhoardref_HoldsIn [.tm 4] [a0, a1] H Q)

/-! wordhoard/wordhoardref.CheckClaims -/
def ac_wordhoardref_CheckClaims : AC := (.seq (.reg 0) (.seq (.seq (.reg 1) (.cond (.tmp 10) (.seq (.reg 2) .ret) .skip)) (.seq (.reg 3) (.seq (.seq (.reg 4) (.block 0 (.loop [6] [(4, 5), (7, 8), (16, 30)] (.seq (.seq (.reg 5) (.cond (.tmp 19) .skip (.exit 0))) (.seq (.block 1 (.seq (.reg 6) (.seq (.reg 7) (.cond (.tmp 28) (.seq (.reg 8) .ret) .skip)))) (.reg 9)))))) (.seq (.reg 10) .ret)))))
def S_wordhoardref_CheckClaims (a0 a1 : AV) (Q : AV → AH → Prop) (H : AH) : Prop := (
    Pu Try.prog .len [a0] fun v9 =>
    Pu Try.prog (.bin .gtr 3) [v9, (.p (.int .i64 20))] fun v10 =>
    CdA v10
      (
      Rt Try.prog H.nx (.p (.int .i64 7)) Q
      ) (
      Rg 6 fun b =>
      Al (b + 0) (.bs 24 3 0 [.p (.bool false), .p (.int .i64 0), .p (.int .i64 0)] []) [] fun v11 =>
      WrS Try.prog (b + 2) (.app 24 3 24) [v11, a0] fun v13 =>
      WrS Try.prog (b + 4) (.app 24 3 24) [v13, a1] fun v15 =>
      LoopA Try.prog 1 (fun vs k =>
        Pu Try.prog .len [v15] fun v18 =>
        Pu Try.prog (.bin .lss 3) [(vs.getD 0 .any), v18] fun v19 =>
        CdA v19
          (
          Pu Try.prog (.idx 3) [v15, (vs.getD 0 .any)] fun v24 =>
          RdS Try.prog (.ld 3 true) [v24] fun v25 =>
          Ca Try.prog (.fn (.func 9) [] []) [v25] fun v26 =>
          Pu Try.prog (.bin .neq 25) [v26, (.p (.int .i64 0))] fun v28 =>
          CdA v28
            (
            Rt Try.prog H.nx v26 Q
            ) (
            Pu Try.prog (.bin .add 3) [(vs.getD 0 .any), (.p (.int .i64 1))] fun v21 =>
            k [v21]
            )
          ) (
          Rt Try.prog H.nx (.p (.int .i64 0)) Q
          )
        ) [(.p (.int .i64 0))]
      )
    ) H
theorem eq_wordhoardref_CheckClaims (a0 a1 : AV) (Q : AV → AH → Prop) (H : AH) : FnA Try.prog 30 (regsF Try.f14) ac_wordhoardref_CheckClaims [.tm 4] [a0, a1] H Q = S_wordhoardref_CheckClaims a0 a1 Q H := by kernel_rfl
theorem tri_wordhoardref_CheckClaims {a0 a1 : AV} {H : AH} {Q : AV → AH → Prop} (h : S_wordhoardref_CheckClaims a0 a1 Q H) : Tri Try.prog 14 [a0, a1] H Q :=
  tri_of (Ms := [#[], #[], #[], #[], #[], #[], #[], #[], #[], #[], #[]]) mixed Try.func14 rfl (by kernel_rfl) (by kernel_rfl) rfl (of_decide_eq_true rfl : 2 ≤ 30) ((eq_wordhoardref_CheckClaims a0 a1 Q H).symm ▸ h : FnA Try.prog 30 (regsF Try.f14) ac_wordhoardref_CheckClaims [.tm 4] [a0, a1] H Q)

/-! wordhoard/wordhoardref.Is -/
def ac_wordhoardref_Is : AC := (.seq (.reg 0) (.seq (.reg 1) (.cut [5] [(8, 12)] (.seq (.reg 2) (.cond (.tmp 9) (.reg 3) .skip)) (.seq (.seq (.reg 4) (.block 0 (.loop [0, 6] [(12, 19)] (.seq (.seq (.reg 5) (.cond (.tmp 14) .skip (.exit 0))) (.seq (.block 1 (.reg 6)) (.reg 7)))))) (.seq (.reg 8) .ret)))))
def S_wordhoardref_Is (a0 a1 : AV) (Q : AV → AH → Prop) (H : AH) : Prop := (
    CutA Try.prog 1 (fun k =>
      Pu Try.prog (.bin .lss 3) [a1, (.p (.int .i64 0))] fun v9 =>
      CdA v9
        (
        Pu Try.prog (.un .neg) [a1] fun v11 =>
        k [v11]
        ) (
        k [a1]
        )
      ) fun vs =>
    LoopA Try.prog 2 (fun vs_6 k_5 =>
      Pu Try.prog (.bin .lss 3) [(vs_6.getD 1 .any), (vs.getD 0 .any)] fun v14 =>
      CdA v14
        (
        Pu Try.prog (.bin .quo 3) [(vs_6.getD 0 .any), (.p (.int .i64 2))] fun v18 =>
        Pu Try.prog (.bin .add 3) [(vs_6.getD 1 .any), (.p (.int .i64 1))] fun v16 =>
        k_5 [v18, v16]
        ) (
        Pu Try.prog (.bin .rem 3) [(vs_6.getD 0 .any), (.p (.int .i64 2))] fun v20 =>
        Pu Try.prog (.bin .eql 3) [v20, (.p (.int .i64 1))] fun v21 =>
        Pu Try.prog (.bin .gtr 3) [a1, (.p (.int .i64 0))] fun v23 =>
        Pu Try.prog (.bin .eql 4) [v21, v23] fun v24 =>
        Rt Try.prog H.nx v24 Q
        )
      ) [a0, (.p (.int .i64 1))]
    ) H
theorem eq_wordhoardref_Is (a0 a1 : AV) (Q : AV → AH → Prop) (H : AH) : FnA Try.prog 25 (regsF Try.f23) ac_wordhoardref_Is [.tm 4] [a0, a1] H Q = S_wordhoardref_Is a0 a1 Q H := by kernel_rfl
theorem tri_wordhoardref_Is {a0 a1 : AV} {H : AH} {Q : AV → AH → Prop} (h : S_wordhoardref_Is a0 a1 Q H) : Tri Try.prog 23 [a0, a1] H Q :=
  tri_of (Ms := [#[], #[], #[], #[], #[], #[], #[], #[], #[]]) mixed Try.func23 rfl (by kernel_rfl) (by kernel_rfl) rfl (of_decide_eq_true rfl : 2 ≤ 25) ((eq_wordhoardref_Is a0 a1 Q H).symm ▸ h : FnA Try.prog 25 (regsF Try.f23) ac_wordhoardref_Is [.tm 4] [a0, a1] H Q)
end Go.Proofs.Ytcmnjoepadjioaa

/- What follows, plainly: claims, worlds, what follows from what comes of what; what has no argument has a world against it. No program in sight. -/
namespace Go.Proofs.Ytcmnjoepadjioaa
open Go.RowKit

structure Clm where
  so : Bool
  a : Int
  b : Int
theorem clm_ext {x y : Clm} (h1 : x.so = y.so) (h2 : x.a = y.a) (h3 : x.b = y.b) : x = y := by cases x; cases y; simp_all
instance : DecidableEq Clm := fun x y => if h : x.so = y.so ∧ x.a = y.a ∧ x.b = y.b then isTrue (clm_ext h.1 h.2.1 h.2.2) else isFalse (fun e => h (by subst e; exact ⟨rfl, rfl, rfl⟩))
def litOk (x : Int) : Prop := x ≠ 0 ∧ -6 ≤ x ∧ x ≤ 6
instance (x : Int) : Decidable (litOk x) := by unfold litOk; infer_instance
def Clm.ok (c : Clm) : Prop := litOk c.a ∧ litOk c.b
instance (c : Clm) : Decidable c.ok := by unfold Clm.ok; infer_instance
/-- is an individual what a literal says? -/
def isL (w : Nat) (x : Int) : Bool := if x < 0 then !w.testBit ((-x).toNat - 1) else w.testBit (x.toNat - 1)
theorem isL_neg {w : Nat} {x : Int} (h : litOk x) : isL w (-x) = !isL w x := by
  unfold isL
  unfold litOk at h
  by_cases hx : x < 0
  · rw [if_pos hx, if_neg (by omega)]; simp
  · rw [if_neg hx, if_pos (by omega)]; simp
/-- does a claim hold of one? -/
def holds1 (w : Nat) (c : Clm) : Bool := isL w c.a && (isL w c.b == c.so)
def holdsC (l : List Nat) (c : Clm) : Bool := l.any (fun w => holds1 w c) == c.so
theorem holdsC_all {l : List Nat} {a b : Int} : holdsC l ⟨false, a, b⟩ = true ↔ ∀ w ∈ l, isL w a = true → isL w b = true := by
  unfold holdsC holds1
  simp only [beq_false, Bool.not_eq_true']
  rw [List.any_eq_false]
  constructor
  · intro h w hw ha
    have := h w hw
    simp only [ha, Bool.true_and] at this
    simpa using this
  · intro h w hw
    have := h w hw
    cases ha : isL w a <;> simp_all
theorem holdsC_some {l : List Nat} {a b : Int} : holdsC l ⟨true, a, b⟩ = true ↔ ∃ w ∈ l, isL w a = true ∧ isL w b = true := by
  unfold holdsC holds1
  simp [List.any_eq_true]

section
variable (le : Int → Int → Prop)
structure Order : Prop where
  refl : ∀ x, litOk x → le x x
  trans : ∀ x y z, le x y → le y z → le x z
  contra : ∀ x y, le x y → le (-y) (-x)
  void : ∀ x y, le x (-x) → litOk y → le x y
  ok : ∀ x y, le x y → litOk x ∧ litOk y
structure Part1 (U : Int → Prop) : Prop where
  up : ∀ x y, U x → le x y → U y
  one : ∀ x, U x → ¬ U (-x)
  ok : ∀ x, U x → litOk x
variable {le}
theorem lit_neg {x : Int} (h : litOk x) : litOk (-x) := by unfold litOk at h ⊢; omega
theorem Part1.add {U : Int → Prop} (O : Order le) (h : Part1 le U) {n : Int} (_hn : litOk n) (h1 : ¬ U (-n)) (h2 : ¬ le n (-n)) : Part1 le (fun x => U x ∨ le n x) where
  up x y hx hl := by
    rcases hx with hx | hx
    · exact Or.inl (h.up x y hx hl)
    · exact Or.inr (O.trans _ _ _ hx hl)
  one x hx hx' := by
    rcases hx with hx | hx <;> rcases hx' with hx' | hx'
    · exact h.one x hx hx'
    · have := O.contra _ _ hx'
      rw [Int.neg_neg] at this
      exact h1 (h.up _ _ hx this)
    · have := O.contra _ _ hx
      exact h1 (h.up _ _ hx' this)
    · have := O.contra _ _ hx'
      rw [Int.neg_neg] at this
      exact h2 (O.trans _ _ _ hx this)
  ok x hx := by
    rcases hx with hx | hx
    · exact h.ok x hx
    · exact (O.ok _ _ hx).2
theorem Part1.settle {U : Int → Prop} (O : Order le) (h : Part1 le U) (hne : ∃ x, U x) {n : Int} (hn : litOk n) : ∃ U', Part1 le U' ∧ (∀ x, U x → U' x) ∧ (U' n ∨ U' (-n)) := by
  by_cases h1 : U n
  · exact ⟨U, h, fun _ h => h, Or.inl h1⟩
  · by_cases h2 : U (-n)
    · exact ⟨U, h, fun _ h => h, Or.inr h2⟩
    · have hm : litOk (-n) := lit_neg hn
      by_cases h3 : le n (-n)
      · refine ⟨_, h.add O hm (by rw [Int.neg_neg]; exact h1) (fun h4 => ?_), fun _ hx => Or.inl hx, Or.inr (Or.inr (O.refl _ hm))⟩
        -- all is under both
        rw [Int.neg_neg] at h4
        obtain ⟨x, hx⟩ := hne
        have hxo := h.ok x hx
        have h5 := O.contra _ _ (O.void (-n) (-x) (by rw [Int.neg_neg]; exact h4) (lit_neg hxo))
        rw [Int.neg_neg, Int.neg_neg] at h5
        exact h1 (h.up _ _ hx h5)
      · exact ⟨_, h.add O hn h2 h3, fun _ hx => Or.inl hx, Or.inl (Or.inr (O.refl _ hn))⟩
theorem Part1.all {U : Int → Prop} (O : Order le) (h : Part1 le U) (hne : ∃ x, U x) : ∃ U', Part1 le U' ∧ (∀ x, U x → U' x) ∧ ∀ n, litOk n → U' n ∨ U' (-n) := by
  have ne : ∀ {V : Int → Prop}, (∀ x, U x → V x) → ∃ x, V x := fun hv => by obtain ⟨x, hx⟩ := hne; exact ⟨x, hv x hx⟩
  obtain ⟨U1, p1, s1, d1⟩ := h.settle O hne (n := 1) (by decide)
  obtain ⟨U2, p2, s2, d2⟩ := p1.settle O (ne s1) (n := 2) (by decide)
  have t2 : ∀ x, U x → U2 x := fun x hx => s2 x (s1 x hx)
  obtain ⟨U3, p3, s3, d3⟩ := p2.settle O (ne t2) (n := 3) (by decide)
  have t3 : ∀ x, U x → U3 x := fun x hx => s3 x (t2 x hx)
  obtain ⟨U4, p4, s4, d4⟩ := p3.settle O (ne t3) (n := 4) (by decide)
  have t4 : ∀ x, U x → U4 x := fun x hx => s4 x (t3 x hx)
  obtain ⟨U5, p5, s5, d5⟩ := p4.settle O (ne t4) (n := 5) (by decide)
  have t5 : ∀ x, U x → U5 x := fun x hx => s5 x (t4 x hx)
  obtain ⟨U6, p6, s6, d6⟩ := p5.settle O (ne t5) (n := 6) (by decide)
  refine ⟨U6, p6, fun x hx => s6 x (t5 x hx), ?_⟩
  have e1 : U6 1 ∨ U6 (-1) := d1.imp (fun h => s6 _ (s5 _ (s4 _ (s3 _ (s2 _ h))))) (fun h => s6 _ (s5 _ (s4 _ (s3 _ (s2 _ h)))))
  have e2 : U6 2 ∨ U6 (-2) := d2.imp (fun h => s6 _ (s5 _ (s4 _ (s3 _ h)))) (fun h => s6 _ (s5 _ (s4 _ (s3 _ h))))
  have e3 : U6 3 ∨ U6 (-3) := d3.imp (fun h => s6 _ (s5 _ (s4 _ h))) (fun h => s6 _ (s5 _ (s4 _ h)))
  have e4 : U6 4 ∨ U6 (-4) := d4.imp (fun h => s6 _ (s5 _ h)) (fun h => s6 _ (s5 _ h))
  have e5 : U6 5 ∨ U6 (-5) := d5.imp (fun h => s6 _ h) (fun h => s6 _ h)
  intro n hn
  unfold litOk at hn
  have : n = 1 ∨ n = 2 ∨ n = 3 ∨ n = 4 ∨ n = 5 ∨ n = 6 ∨ n = -1 ∨ n = -2 ∨ n = -3 ∨ n = -4 ∨ n = -5 ∨ n = -6 := by omega
  rcases this with rfl | rfl | rfl | rfl | rfl | rfl | rfl | rfl | rfl | rfl | rfl | rfl
  · exact e1
  · exact e2
  · exact e3
  · exact e4
  · exact e5
  · exact d6
  · exact e1.symm
  · exact e2.symm
  · exact e3.symm
  · exact e4.symm
  · exact e5.symm
  · exact d6.symm
theorem some_world (b1 b2 b3 b4 b5 b6 : Bool) : ∃ w, w < 64 ∧ Nat.testBit w 0 = b1 ∧ Nat.testBit w 1 = b2 ∧ Nat.testBit w 2 = b3 ∧ Nat.testBit w 3 = b4 ∧ Nat.testBit w 4 = b5 ∧ Nat.testBit w 5 = b6 := by
  refine ⟨b1.toNat + 2 * b2.toNat + 4 * b3.toNat + 8 * b4.toNat + 16 * b5.toNat + 32 * b6.toNat, ?_⟩
  cases b1 <;> cases b2 <;> cases b3 <;> cases b4 <;> cases b5 <;> cases b6 <;> decide
/-- all that goes together is somebody -/
theorem Part1.who {U : Int → Prop} (O : Order le) (h : Part1 le U) (hne : ∃ x, U x) : ∃ w, w < 64 ∧ (∀ x, U x → isL w x = true) ∧ ∀ x y, le x y → isL w x = true → isL w y = true := by
  classical
  obtain ⟨V, p, s, d⟩ := h.all O hne
  obtain ⟨w, hw, b1, b2, b3, b4, b5, b6⟩ := some_world (decide (V 1)) (decide (V 2)) (decide (V 3)) (decide (V 4)) (decide (V 5)) (decide (V 6))
  have key : ∀ x, litOk x → (isL w x = true ↔ V x) := by
    have pos : ∀ n : Int, (n = 1 ∨ n = 2 ∨ n = 3 ∨ n = 4 ∨ n = 5 ∨ n = 6) → (isL w n = true ↔ V n) := by
      intro n hn
      rcases hn with rfl | rfl | rfl | rfl | rfl | rfl
      · show Nat.testBit w 0 = true ↔ _; rw [b1]; simp
      · show Nat.testBit w 1 = true ↔ _; rw [b2]; simp
      · show Nat.testBit w 2 = true ↔ _; rw [b3]; simp
      · show Nat.testBit w 3 = true ↔ _; rw [b4]; simp
      · show Nat.testBit w 4 = true ↔ _; rw [b5]; simp
      · show Nat.testBit w 5 = true ↔ _; rw [b6]; simp
    intro x hx
    by_cases hp : 0 < x
    · exact pos x (by unfold litOk at hx; omega)
    · have hn := pos (-x) (by unfold litOk at hx; omega)
      have e := isL_neg (w := w) (x := -x) (lit_neg hx)
      rw [Int.neg_neg] at e
      rw [e]
      constructor
      · intro h'
        rcases d x hx with h1 | h1
        · exact h1
        · rw [hn.2 h1] at h'; cases h'
      · intro h'
        cases hc : isL w (-x) with
        | false => rfl
        | true => exact absurd (hn.1 hc) (p.one x h')
  refine ⟨w, hw, fun x hx => (key x (h.ok x hx)).2 (s x hx), fun x y hl hx => ?_⟩
  obtain ⟨ox, oy⟩ := O.ok x y hl
  exact (key y oy).2 (p.up x y ((key x ox).1 hx) hl)
/-- two literals that go together -/
theorem two_who (O : Order le) {a b : Int} (ha : litOk a) (hb : litOk b) (h : ¬ le a (-b)) : ∃ w, w < 64 ∧ isL w a = true ∧ isL w b = true ∧ ∀ x y, le x y → isL w x = true → isL w y = true := by
  by_cases h1 : le a (-a)
  · exact absurd (O.void a (-b) h1 (lit_neg hb)) h
  · by_cases h2 : le b (-b)
    · have := O.contra _ _ (O.void b (-a) h2 (lit_neg ha))
      rw [Int.neg_neg] at this
      exact absurd this h
    · have p0 : Part1 le (fun x => le a x) := ⟨fun x y hx hl => O.trans _ _ _ hx hl, fun x hx hx' => h1 (by
          have := O.contra _ _ hx'
          rw [Int.neg_neg] at this
          exact O.trans _ _ _ hx this), fun x hx => (O.ok _ _ hx).2⟩
      have p1 := p0.add O hb h h2
      obtain ⟨w, hw, h3, h4⟩ := p1.who O ⟨a, Or.inl (O.refl a ha)⟩
      exact ⟨w, hw, h3 a (Or.inl (O.refl a ha)), h3 b (Or.inr (O.refl b hb)), h4⟩
/-- three -/
theorem three_who (O : Order le) {a b c : Int} (ha : litOk a) (hb : litOk b) (hc : litOk c) (h : ¬ le a (-b)) (h2 : ¬ le a (-c)) (h3 : ¬ le b (-c)) (h4 : ¬ le c (-c)) : ∃ w, w < 64 ∧ isL w a = true ∧ isL w b = true ∧ isL w c = true ∧ ∀ x y, le x y → isL w x = true → isL w y = true := by
  have h1 : ¬ le a (-a) := fun h1 => h (O.void a (-b) h1 (lit_neg hb))
  have hb1 : ¬ le b (-b) := fun h1 => h (by
    have := O.contra _ _ (O.void b (-a) h1 (lit_neg ha))
    rw [Int.neg_neg] at this
    exact this)
  have p0 : Part1 le (fun x => le a x) := ⟨fun x y hx hl => O.trans _ _ _ hx hl, fun x hx hx' => h1 (by
      have := O.contra _ _ hx'
      rw [Int.neg_neg] at this
      exact O.trans _ _ _ hx this), fun x hx => (O.ok _ _ hx).2⟩
  have p1 := p0.add O hb h hb1
  have p2 := p1.add O hc (fun hx => hx.elim h2 h3) h4
  obtain ⟨w, hw, q, r⟩ := p2.who O ⟨a, Or.inl (Or.inl (O.refl a ha))⟩
  exact ⟨w, hw, q a (Or.inl (Or.inl (O.refl a ha))), q b (Or.inl (Or.inr (O.refl b hb))), q c (Or.inr (O.refl c hc)), r⟩
end
end Go.Proofs.Ytcmnjoepadjioaa

/- What follows, plainly: lines and whether they are right; what is argued for follows; what has no argument, when all has come of all, has a world against it. No program in sight. -/
namespace Go.Proofs.Ytcmnjoepadjioaa

structure Lin where
  rule : Int
  c : Clm
  src : List Int
/-- what a line's numbers name -/
def pickC (l : List Clm) (n : Nat) : List Int → Option (List Clm)
  | [] => some []
  | k :: r => if 0 ≤ k ∧ k < n then (match l[k.toNat]?, pickC l n r with
    | some c, some cs => some (c :: cs)
    | _, _ => none) else none
def ruleB (rule : Int) (c : Clm) (of : List Clm) : Bool :=
  if rule = 1 then of == [c]
  else if rule = 2 then of.isEmpty && !c.so && c.a == c.b
  else if rule = 3 then (match of with
    | [p, q] => !p.so && !q.so && !c.so && p.b == q.a && c.a == p.a && c.b == q.b
    | _ => false)
  else if rule = 4 then (match of with
    | [p] => !p.so && !c.so && c.a == -p.b && c.b == -p.a
    | _ => false)
  else if rule = 5 then (match of with
    | [p] => !p.so && p.b == -p.a && !c.so && c.a == p.a
    | _ => false)
  else if rule = 6 then (match of with
    | [p] => !p.so && p.a == -p.b && !c.so && c.b == p.b
    | _ => false)
  else if rule = 7 then (match of with
    | [p] => p.so && c.so && c.a == p.b && c.b == p.a
    | _ => false)
  else if rule = 8 then (match of with
    | [p] => p.so && c.so && c.a == p.a && c.b == p.a
    | _ => false)
  else if rule = 9 then (match of with
    | [p, q] => p.so && !q.so && c.so && p.b == q.a && c.a == p.a && c.b == q.b
    | _ => false)
  else if rule = 10 then (match of with
    | [p, q] => !p.so && q.so && q.a == p.a && q.b == -p.b
    | _ => false)
  else false
/-- is a line, of which so many stand ahead, right? -/
def rightB (prem : List Clm) (cs : List Clm) (n : Nat) (x : Lin) : Bool :=
  match (if x.rule = 1 then pickC prem prem.length x.src else pickC cs n x.src) with
  | some of => ruleB x.rule x.c of
  | none => false
/-- premises hold, so what comes of them does -/
def allHold (W : List Nat) (prem : List Clm) : Prop := ∀ p ∈ prem, holdsC W p = true
theorem clm_eta (c : Clm) : c = ⟨c.so, c.a, c.b⟩ := rfl
theorem holds_all {W : List Nat} {c : Clm} (h : c.so = false) : holdsC W c = true ↔ ∀ w ∈ W, isL w c.a = true → isL w c.b = true := by
  obtain ⟨s, a, b⟩ := c; simp only at h; subst h; exact holdsC_all
theorem holds_some {W : List Nat} {c : Clm} (h : c.so = true) : holdsC W c = true ↔ ∃ w ∈ W, isL w c.a = true ∧ isL w c.b = true := by
  obtain ⟨s, a, b⟩ := c; simp only at h; subst h; exact holdsC_some
theorem rule_holds {W : List Nat} {rule : Int} {c : Clm} {of : List Clm} (h : ruleB rule c of = true) (hof : ∀ p ∈ of, holdsC W p = true) (hok : ∀ p ∈ of, p.ok) : holdsC W c = true := by
  unfold ruleB at h
  by_cases r1 : rule = 1
  · rw [if_pos r1] at h
    have h := eq_of_beq h
    subst h; exact hof c (by simp)
  rw [if_neg r1] at h
  by_cases r2 : rule = 2
  · rw [if_pos r2] at h
    simp only [Bool.and_eq_true, Bool.not_eq_true', beq_iff_eq] at h
    rw [holds_all h.1.2]
    intro w _ ha; rw [← h.2]; exact ha
  rw [if_neg r2] at h
  by_cases r3 : rule = 3
  · rw [if_pos r3] at h
    match of, h, hof with
    | [p, q], h, hof =>
      simp only [Bool.and_eq_true, Bool.not_eq_true', beq_iff_eq] at h
      obtain ⟨⟨⟨⟨⟨h1, h2⟩, h3⟩, h4⟩, h5⟩, h6⟩ := h
      rw [holds_all h3]
      have hp := (holds_all h1).1 (hof p (by simp))
      have hq := (holds_all h2).1 (hof q (by simp))
      intro w hw ha
      rw [h6]; refine hq w hw ?_; rw [← h4]; refine hp w hw ?_; rw [← h5]; exact ha
  rw [if_neg r3] at h
  by_cases r4 : rule = 4
  · rw [if_pos r4] at h
    match of, h, hof, hok with
    | [p], h, hof, hok =>
      simp only [Bool.and_eq_true, Bool.not_eq_true', beq_iff_eq] at h
      obtain ⟨⟨⟨h1, h2⟩, h3⟩, h4⟩ := h
      rw [holds_all h2]
      have hp := (holds_all h1).1 (hof p (by simp))
      have ho := hok p (by simp)
      intro w hw ha
      rw [h3, isL_neg ho.2] at ha
      rw [h4, isL_neg ho.1]
      cases hc : isL w p.a with
      | false => rfl
      | true => rw [hp w hw hc] at ha; cases ha
  rw [if_neg r4] at h
  by_cases r5 : rule = 5
  · rw [if_pos r5] at h
    match of, h, hof, hok with
    | [p], h, hof, hok =>
      simp only [Bool.and_eq_true, Bool.not_eq_true', beq_iff_eq] at h
      obtain ⟨⟨⟨h1, h2⟩, h3⟩, h4⟩ := h
      rw [holds_all h3]
      have hp := (holds_all h1).1 (hof p (by simp))
      have ho := hok p (by simp)
      intro w hw ha
      rw [h4] at ha
      have := hp w hw ha
      rw [h2, isL_neg ho.1, ha] at this
      cases this
  rw [if_neg r5] at h
  by_cases r6 : rule = 6
  · rw [if_pos r6] at h
    match of, h, hof, hok with
    | [p], h, hof, hok =>
      simp only [Bool.and_eq_true, Bool.not_eq_true', beq_iff_eq] at h
      obtain ⟨⟨⟨h1, h2⟩, h3⟩, h4⟩ := h
      rw [holds_all h3]
      have hp := (holds_all h1).1 (hof p (by simp))
      have ho := hok p (by simp)
      intro w hw _
      rw [h4]
      cases hc : isL w p.b with
      | true => rfl
      | false =>
        have := hp w hw (by rw [h2, isL_neg ho.2, hc]; rfl)
        rw [hc] at this; cases this
  rw [if_neg r6] at h
  by_cases r7 : rule = 7
  · rw [if_pos r7] at h
    match of, h, hof with
    | [p], h, hof =>
      simp only [Bool.and_eq_true, beq_iff_eq] at h
      obtain ⟨⟨⟨h1, h2⟩, h3⟩, h4⟩ := h
      obtain ⟨w, hw, q1, q2⟩ := (holds_some h1).1 (hof p (by simp))
      rw [holds_some h2, h3, h4]
      exact ⟨w, hw, q2, q1⟩
  rw [if_neg r7] at h
  by_cases r8 : rule = 8
  · rw [if_pos r8] at h
    match of, h, hof with
    | [p], h, hof =>
      simp only [Bool.and_eq_true, beq_iff_eq] at h
      obtain ⟨⟨⟨h1, h2⟩, h3⟩, h4⟩ := h
      obtain ⟨w, hw, q1, q2⟩ := (holds_some h1).1 (hof p (by simp))
      rw [holds_some h2, h3, h4]
      exact ⟨w, hw, q1, q1⟩
  rw [if_neg r8] at h
  by_cases r9 : rule = 9
  · rw [if_pos r9] at h
    match of, h, hof with
    | [p, q], h, hof =>
      simp only [Bool.and_eq_true, Bool.not_eq_true', beq_iff_eq] at h
      obtain ⟨⟨⟨⟨⟨h1, h2⟩, h3⟩, h4⟩, h5⟩, h6⟩ := h
      obtain ⟨w, hw, q1, q2⟩ := (holds_some h1).1 (hof p (by simp))
      have hq := (holds_all h2).1 (hof q (by simp))
      rw [holds_some h3, h5, h6]
      exact ⟨w, hw, q1, hq w hw (by rw [← h4]; exact q2)⟩
  rw [if_neg r9] at h
  by_cases r10 : rule = 10
  · rw [if_pos r10] at h
    match of, h, hof, hok with
    | [p, q], h, hof, hok =>
      simp only [Bool.and_eq_true, Bool.not_eq_true', beq_iff_eq] at h
      obtain ⟨⟨⟨h1, h2⟩, h3⟩, h4⟩ := h
      obtain ⟨w, hw, q1, q2⟩ := (holds_some h2).1 (hof q (by simp))
      have hp := (holds_all h1).1 (hof p (by simp))
      have ho := hok p (by simp)
      have := hp w hw (by rw [← h3]; exact q1)
      rw [h4, isL_neg ho.2, this] at q2
      cases q2
  rw [if_neg r10] at h
  cases h
theorem pick_mem {l : List Clm} {n : Nat} : ∀ {src : List Int} {of : List Clm}, pickC l n src = some of → ∀ p ∈ of, ∃ k, k < n ∧ l[k]? = some p
  | [], of, h, p, hp => by simp only [pickC, Option.some.injEq] at h; subst h; simp at hp
  | k :: r, of, h, p, hp => by
    rw [pickC] at h
    split at h
    · rename_i hk
      cases h1 : l[k.toNat]? with
      | none => rw [h1] at h; cases h
      | some c =>
        cases h2 : pickC l n r with
        | none => rw [h1, h2] at h; cases h
        | some cs =>
          rw [h1, h2] at h
          simp only [Option.some.injEq] at h
          subst h
          rcases List.mem_cons.1 hp with rfl | hp
          · exact ⟨k.toNat, by omega, h1⟩
          · exact pick_mem h2 p hp
    · cases h
/-- all lines of a list are right -/
def allRight (prem : List Clm) (l : List Lin) : Prop := ∀ (n : Nat) (x : Lin), l[n]? = some x → rightB prem (l.map (·.c)) n x = true
theorem lines_hold {prem : List Clm} {l : List Lin} (hr : allRight prem l) (hp : ∀ p ∈ prem, p.ok) (hl : ∀ x ∈ l, x.c.ok) {W : List Nat} (hW : allHold W prem) : ∀ (n : Nat) (x : Lin), l[n]? = some x → holdsC W x.c = true := by
  intro n
  induction n using Nat.strongRecOn with
  | _ n ih =>
    intro x hx
    have h := hr n x hx
    unfold rightB at h
    split at h
    · rename_i of hof
      split at hof
      · refine rule_holds h (fun p hp' => ?_) (fun p hp' => ?_)
        · obtain ⟨k, _, hk⟩ := pick_mem hof p hp'
          exact hW p (List.mem_of_getElem? hk)
        · obtain ⟨k, _, hk⟩ := pick_mem hof p hp'
          exact hp p (List.mem_of_getElem? hk)
      · refine rule_holds h (fun p hp' => ?_) (fun p hp' => ?_)
        · obtain ⟨k, hk1, hk⟩ := pick_mem hof p hp'
          rw [List.getElem?_map] at hk
          cases hy : l[k]? with
          | none => rw [hy] at hk; cases hk
          | some y =>
            rw [hy] at hk; simp at hk; subst hk
            exact ih k hk1 y hy
        · obtain ⟨k, hk1, hk⟩ := pick_mem hof p hp'
          rw [List.getElem?_map] at hk
          cases hy : l[k]? with
          | none => rw [hy] at hk; cases hk
          | some y =>
            rw [hy] at hk; simp at hk; subst hk
            exact hl y (List.mem_of_getElem? hy)
    · cases h

/-- who may be there -/
def mayB (prem : List Clm) (w : Nat) : Bool := prem.all fun p => p.so || holdsC [w] p
def mayL (prem : List Clm) : List Nat := (List.range 64).filter (mayB prem)
def agW (prem : List Clm) (c : Clm) : List Nat := if c.so then (mayL prem).filter (fun w => !holds1 w c) else mayL prem
def agB (prem : List Clm) (c : Clm) : Bool := (c.so || (mayL prem).any (fun w => holds1 w c)) && prem.all (fun p => holdsC (agW prem c) p)
theorem mem_may {prem : List Clm} {w : Nat} : w ∈ mayL prem ↔ w < 64 ∧ ∀ p ∈ prem, p.so = false → isL w p.a = true → isL w p.b = true := by
  unfold mayL mayB
  rw [List.mem_filter, List.mem_range, List.all_eq_true]
  constructor
  · rintro ⟨h1, h2⟩
    refine ⟨h1, fun p hp hs ha => ?_⟩
    have := h2 p hp
    rw [hs, Bool.false_or] at this
    exact (holds_all hs).1 this w (by simp) ha
  · rintro ⟨h1, h2⟩
    refine ⟨h1, fun p hp => ?_⟩
    cases hs : p.so with
    | true => rfl
    | false =>
      rw [Bool.false_or, holds_all hs]
      intro w' hw' ha
      rw [List.mem_singleton] at hw'; subst hw'
      exact h2 p hp hs ha
theorem agW_may {prem : List Clm} {c : Clm} {w : Nat} (h : w ∈ agW prem c) : w ∈ mayL prem := by
  unfold agW at h
  split at h
  · exact (List.mem_filter.1 h).1
  · exact h
theorem agB_iff {prem : List Clm} {c : Clm} : agB prem c = true ↔ (c.so = false → ∃ w ∈ mayL prem, holds1 w c = true) ∧ ∀ p ∈ prem, p.so = true → ∃ w ∈ agW prem c, isL w p.a = true ∧ isL w p.b = true := by
  unfold agB
  rw [Bool.and_eq_true, Bool.or_eq_true, List.any_eq_true, List.all_eq_true]
  constructor
  · rintro ⟨h1, h2⟩
    refine ⟨fun hs => ?_, fun p hp hs => (holds_some hs).1 (h2 p hp)⟩
    rcases h1 with h1 | h1
    · rw [hs] at h1; cases h1
    · exact h1
  · rintro ⟨h1, h2⟩
    refine ⟨?_, fun p hp => ?_⟩
    · cases hs : c.so with
      | true => exact Or.inl rfl
      | false => exact Or.inr (h1 hs)
    · cases hs : p.so with
      | true => rw [holds_some hs]; exact h2 p hp hs
      | false =>
        rw [holds_all hs]
        intro w hw ha
        exact (mem_may.1 (agW_may hw)).2 p hp hs ha
/-- the world against it is one -/
theorem agW_against {prem : List Clm} {c : Clm} (h : agB prem c = true) : allHold (agW prem c) prem ∧ holdsC (agW prem c) c = false := by
  have h0 := h
  unfold agB at h
  rw [Bool.and_eq_true, List.all_eq_true] at h
  refine ⟨fun p hp => h.2 p hp, ?_⟩
  cases hc : holdsC (agW prem c) c with
  | false => rfl
  | true =>
    obtain ⟨h1, _⟩ := agB_iff.1 h0
    cases hs : c.so with
    | true =>
      obtain ⟨w, hw, q1, q2⟩ := (holds_some hs).1 hc
      unfold agW at hw
      rw [if_pos hs] at hw
      have := (List.mem_filter.1 hw).2
      unfold holds1 at this
      rw [q1, q2, hs] at this
      cases this
    | false =>
      obtain ⟨w, hw, hh⟩ := h1 hs
      have := (holds_all hs).1 hc w (by unfold agW; rw [if_neg (by rw [hs]; decide)]; exact hw)
      unfold holds1 at hh
      rw [Bool.and_eq_true, hs] at hh
      rw [this hh.1] at hh
      cases hh.2

/-- all has come of all -/
structure Closed (prem L : List Clm) : Prop where
  ok : ∀ c ∈ L, c.ok
  prem : ∀ p ∈ prem, p ∈ L
  self : ∀ x, litOk x → ⟨false, x, x⟩ ∈ L
  chain : ∀ a b c, ⟨false, a, b⟩ ∈ L → ⟨false, b, c⟩ ∈ L → ⟨false, a, c⟩ ∈ L
  turn : ∀ a b, ⟨false, a, b⟩ ∈ L → ⟨false, -b, -a⟩ ∈ L
  void : ∀ a y, ⟨false, a, -a⟩ ∈ L → litOk y → ⟨false, a, y⟩ ∈ L
  swap : ∀ a b, ⟨true, a, b⟩ ∈ L → ⟨true, b, a⟩ ∈ L
  there : ∀ a b, ⟨true, a, b⟩ ∈ L → ⟨true, a, a⟩ ∈ L
  lead : ∀ a b c, ⟨true, a, b⟩ ∈ L → ⟨false, b, c⟩ ∈ L → ⟨true, a, c⟩ ∈ L
def clashed (L : List Clm) : Prop := ∃ a b, ⟨false, a, b⟩ ∈ L ∧ ⟨true, a, -b⟩ ∈ L
theorem Closed.order {prem L : List Clm} (h : Closed prem L) : Order (fun a b => (⟨false, a, b⟩ : Clm) ∈ L) :=
  ⟨h.self, h.chain, h.turn, h.void, fun x y hl => h.ok _ hl⟩
theorem may_of {prem L : List Clm} (h : Closed prem L) {w : Nat} (hw : w < 64) (hc : ∀ x y, (⟨false, x, y⟩ : Clm) ∈ L → isL w x = true → isL w y = true) : w ∈ mayL prem :=
  mem_may.2 ⟨hw, fun p hp hs ha => by
    have := h.prem p hp
    obtain ⟨s, a, b⟩ := p
    simp only at hs ha ⊢
    subst hs
    exact hc a b this ha⟩
/-- what has no argument has a world against it -/
theorem complete {prem L : List Clm} (h : Closed prem L) {c : Clm} (hok : c.ok) (hc : c ∉ L) (hcl : ¬ clashed L) : agB prem c = true := by
  have O := h.order
  have some1 : ∀ p ∈ prem, p.so = true → ¬ (⟨false, p.a, -p.b⟩ : Clm) ∈ L := fun p hp hs hl => hcl ⟨p.a, -p.b, hl, by
    have := h.prem p hp
    obtain ⟨s, a, b⟩ := p
    simp only at hs
    subst hs
    rw [Int.neg_neg]; exact this⟩
  rw [agB_iff]
  obtain ⟨s, a, b⟩ := c
  cases s with
  | false =>
    refine ⟨fun _ => ?_, fun p hp hs => ?_⟩
    · obtain ⟨w, hw, q1, q2, q3⟩ := two_who O (a := a) (b := -b) hok.1 (lit_neg hok.2) (by rw [Int.neg_neg]; exact hc)
      refine ⟨w, may_of h hw q3, ?_⟩
      unfold holds1
      rw [isL_neg hok.2] at q2
      simp only [Bool.not_eq_true'] at q2
      simp [q1, q2]
    · have ho := h.ok p (h.prem p hp)
      obtain ⟨w, hw, q1, q2, q3⟩ := two_who O (a := p.a) (b := p.b) ho.1 ho.2 (some1 p hp hs)
      exact ⟨w, by unfold agW; rw [if_neg (by simp)]; exact may_of h hw q3, q1, q2⟩
  | true =>
    refine ⟨(fun e => by cases e), fun p hp hs => ?_⟩
    have ho := h.ok p (h.prem p hp)
    have hpl := h.prem p hp
    have hp1 := some1 p hp hs
    obtain ⟨s, pa, pb⟩ := p
    simp only at hs hp1 ho
    subst hs
    have key : ∀ x, litOk x → ¬ (⟨false, pa, x⟩ : Clm) ∈ L → ¬ (⟨false, pb, x⟩ : Clm) ∈ L → ∃ w, w < 64 ∧ isL w pa = true ∧ isL w pb = true ∧ isL w x = false ∧ ∀ x y, (⟨false, x, y⟩ : Clm) ∈ L → isL w x = true → isL w y = true := by
      intro x hx h1 h2
      obtain ⟨w, hw, q1, q2, q3, q4⟩ := three_who O (a := pa) (b := pb) (c := -x) ho.1 ho.2 (lit_neg hx) hp1 (by rw [Int.neg_neg]; exact h1) (by rw [Int.neg_neg]; exact h2) (fun hv => by
        -- -x is nothing: all is x
        have := h.turn _ _ (h.void (-x) (-pa) hv (lit_neg ho.1))
        rw [Int.neg_neg, Int.neg_neg] at this
        exact h1 this)
      rw [isL_neg hx] at q3
      simp only [Bool.not_eq_true'] at q3
      exact ⟨w, hw, q1, q2, q3, q4⟩
    have fin : ∀ w, w < 64 → isL w pa = true → isL w pb = true → (isL w a = false ∨ isL w b = false) → (∀ x y, (⟨false, x, y⟩ : Clm) ∈ L → isL w x = true → isL w y = true) → ∃ w ∈ agW prem ⟨true, a, b⟩, isL w pa = true ∧ isL w pb = true := by
      intro w hw q1 q2 q3 q4
      refine ⟨w, ?_, q1, q2⟩
      unfold agW
      rw [if_pos rfl]
      refine List.mem_filter.2 ⟨may_of h hw q4, ?_⟩
      unfold holds1
      rcases q3 with q3 | q3 <;> simp [q3]
    by_cases hA : (⟨false, pa, a⟩ : Clm) ∈ L ∨ (⟨false, pb, a⟩ : Clm) ∈ L
    · by_cases hB : (⟨false, pa, b⟩ : Clm) ∈ L ∨ (⟨false, pb, b⟩ : Clm) ∈ L
      · exfalso
        apply hc
        -- some a is b
        have sw := h.swap _ _ hpl
        have ta := h.there _ _ hpl
        have tb := h.there _ _ sw
        rcases hA with hA | hA <;> rcases hB with hB | hB
        · exact h.lead _ _ _ (h.swap _ _ (h.lead _ _ _ ta hA)) hB
        · exact h.lead _ _ _ (h.swap _ _ (h.lead _ _ _ sw hA)) hB
        · exact h.lead _ _ _ (h.swap _ _ (h.lead _ _ _ hpl hA)) hB
        · exact h.lead _ _ _ (h.swap _ _ (h.lead _ _ _ tb hA)) hB
      · have h1 : ¬ (⟨false, pa, b⟩ : Clm) ∈ L := fun hx => hB (Or.inl hx)
        have h2 : ¬ (⟨false, pb, b⟩ : Clm) ∈ L := fun hx => hB (Or.inr hx)
        obtain ⟨w, hw, q1, q2, q3, q4⟩ := key b hok.2 h1 h2
        exact fin w hw q1 q2 (Or.inr q3) q4
    · have h1 : ¬ (⟨false, pa, a⟩ : Clm) ∈ L := fun hx => hA (Or.inl hx)
      have h2 : ¬ (⟨false, pb, a⟩ : Clm) ∈ L := fun hx => hA (Or.inr hx)
      obtain ⟨w, hw, q1, q2, q3, q4⟩ := key a hok.1 h1 h2
      exact fin w hw q1 q2 (Or.inl q3) q4
/-- what is argued for has none -/
theorem sound_no {prem : List Clm} {l : List Lin} (hr : allRight prem l) (hp : ∀ p ∈ prem, p.ok) (hl : ∀ x ∈ l, x.c.ok) {c : Clm} (hc : c ∈ l.map (·.c)) : agB prem c = false := by
  cases h : agB prem c with
  | false => rfl
  | true =>
    obtain ⟨h1, h2⟩ := agW_against h
    obtain ⟨x, hx, rfl⟩ := List.mem_map.1 hc
    obtain ⟨n, hn⟩ := List.getElem?_of_mem hx
    rw [lines_hold hr hp hl h1 n x hn] at h2
    cases h2
end Go.Proofs.Ytcmnjoepadjioaa
