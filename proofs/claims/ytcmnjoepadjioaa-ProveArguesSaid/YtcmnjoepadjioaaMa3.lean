/- Texts that the proof rests on, part 3: what each holds stands at its head. -/
import Derived.Test.YtcmnjoepadjioaaMa2

/- Abstract walks of functions, written by a program (wip/aw/aw.py): each equation is checked by the kernel. -/
namespace Go.Proofs.Ytcmnjoepadjioaa
open Go.RowKit

/-! slices.ContainsFunc[[]int,int] -/
def ac_slices_ContainsFunc_s_int_int : AC := (.seq (.reg 0) (.seq (.reg 1) .ret))
def S_slices_ContainsFunc_s_int_int (a0 a1 : AV) (Q : AV → AH → Prop) (H : AH) : Prop := (
    Ca Try.prog (.fn (.func 37) [] []) [a0, a1] fun v7 =>
    Pu Try.prog (.bin .geq 3) [v7, (.p (.int .i64 0))] fun v8 =>
    Rt Try.prog H.nx v8 Q
    ) H
theorem eq_slices_ContainsFunc_s_int_int (a0 a1 : AV) (Q : AV → AH → Prop) (H : AH) : FnA Try.prog 9 (regsF Try.f19) ac_slices_ContainsFunc_s_int_int [.tm 4] [a0, a1] H Q = S_slices_ContainsFunc_s_int_int a0 a1 Q H := by kernel_rfl
theorem tri_slices_ContainsFunc_s_int_int {a0 a1 : AV} {H : AH} {Q : AV → AH → Prop} (h : S_slices_ContainsFunc_s_int_int a0 a1 Q H) : Tri Try.prog 19 [a0, a1] H Q :=
  tri_of (Ms := [#[], #[]]) mixed Try.func19 rfl (by kernel_rfl) (by kernel_rfl) rfl (of_decide_eq_true rfl : 2 ≤ 9) ((eq_slices_ContainsFunc_s_int_int a0 a1 Q H).symm ▸ h : FnA Try.prog 9 (regsF Try.f19) ac_slices_ContainsFunc_s_int_int [.tm 4] [a0, a1] H Q)

/-! slices.ContainsFunc[[]wordhoard/api.Claim,wordhoard/api.Claim] -/
def ac_slices_ContainsFunc_s_api_Claim_api_Claim : AC := (.seq (.reg 0) (.seq (.reg 1) .ret))
def S_slices_ContainsFunc_s_api_Claim_api_Claim (a0 a1 : AV) (Q : AV → AH → Prop) (H : AH) : Prop := (
    Ca Try.prog (.fn (.func 44) [] []) [a0, a1] fun v7 =>
    Pu Try.prog (.bin .geq 3) [v7, (.p (.int .i64 0))] fun v8 =>
    Rt Try.prog H.nx v8 Q
    ) H
theorem eq_slices_ContainsFunc_s_api_Claim_api_Claim (a0 a1 : AV) (Q : AV → AH → Prop) (H : AH) : FnA Try.prog 9 (regsF Try.f31) ac_slices_ContainsFunc_s_api_Claim_api_Claim [.tm 4] [a0, a1] H Q = S_slices_ContainsFunc_s_api_Claim_api_Claim a0 a1 Q H := by kernel_rfl
theorem tri_slices_ContainsFunc_s_api_Claim_api_Claim {a0 a1 : AV} {H : AH} {Q : AV → AH → Prop} (h : S_slices_ContainsFunc_s_api_Claim_api_Claim a0 a1 Q H) : Tri Try.prog 31 [a0, a1] H Q :=
  tri_of (Ms := [#[], #[]]) mixed Try.func31 rfl (by kernel_rfl) (by kernel_rfl) rfl (of_decide_eq_true rfl : 2 ≤ 9) ((eq_slices_ContainsFunc_s_api_Claim_api_Claim a0 a1 Q H).symm ▸ h : FnA Try.prog 9 (regsF Try.f31) ac_slices_ContainsFunc_s_api_Claim_api_Claim [.tm 4] [a0, a1] H Q)

/-! slices.DeleteFunc[[]int,int] -/
def ac_slices_DeleteFunc_s_int_int : AC := (.seq (.reg 0) (.seq (.reg 1) (.seq (.seq (.reg 2) (.cond (.tmp 12) (.seq (.reg 3) .ret) .skip)) (.seq (.seq (.reg 4) (.block 0 (.loop [5, 6] [(7, 8), (16, 36)] (.seq (.seq (.reg 5) (.cond (.tmp 19) .skip (.exit 0))) (.seq (.block 1 (.seq (.reg 6) (.seq (.reg 7) (.cond (.tmp 29) (.seq (.reg 8) (.reg 9)) .skip)))) (.reg 10)))))) (.seq (.reg 11) (.seq (.reg 12) .ret))))))
def S_slices_DeleteFunc_s_int_int (a0 a1 : AV) (Q : AV → AH → Prop) (H : AH) : Prop := (
    Ca Try.prog (.fn (.func 37) [] []) [a0, a1] fun v10 =>
    Pu Try.prog (.bin .eql 3) [v10, (.p (.int .i64 (-1)))] fun v12 =>
    CdA v12
      (
      Rt Try.prog H.nx a0 Q
      ) (
      Pu Try.prog (.bin .add 3) [v10, (.p (.int .i64 1))] fun v15 =>
      LoopA Try.prog 2 (fun vs k =>
        Pu Try.prog .len [a0] fun v18 =>
        Pu Try.prog (.bin .lss 3) [(vs.getD 1 .any), v18] fun v19 =>
        CdA v19
          (
          Pu Try.prog (.idx 1) [a0, (vs.getD 1 .any)] fun v24 =>
          RdS Try.prog (.ld 1 false) [v24] fun v25 =>
          Ca Try.prog a1 [v25] fun v28 =>
          Pu Try.prog (.un .not) [v28] fun v29 =>
          CdA v29
            (
            Rg 5 fun b =>
            Pu Try.prog (.idx 1) [a0, (vs.getD 0 .any)] fun v33 =>
            WrS Try.prog (b + 4) (.st 1) [v33, v25] fun _ =>
            Pu Try.prog (.bin .add 3) [(vs.getD 0 .any), (.p (.int .i64 1))] fun v35 =>
            Pu Try.prog (.bin .add 3) [(vs.getD 1 .any), (.p (.int .i64 1))] fun v21 =>
            k [v35, v21]
            ) (
            Pu Try.prog (.bin .add 3) [(vs.getD 1 .any), (.p (.int .i64 1))] fun v21_17 =>
            k [(vs.getD 0 .any), v21_17]
            )
          ) (
          Rg 4 fun b_18 =>
          Pu Try.prog (.slc 1 true false) [a0, (vs.getD 0 .any)] fun v38 =>
          WrS Try.prog (b_18 + 3) (.clr 1 [.p (.int .i64 0)]) [v38] fun _ =>
          Pu Try.prog (.slc 1 false true) [a0, (vs.getD 0 .any)] fun v41 =>
          Rt Try.prog H.nx v41 Q
          )
        ) [v10, v15]
      )
    ) H
theorem eq_slices_DeleteFunc_s_int_int (a0 a1 : AV) (Q : AV → AH → Prop) (H : AH) : FnA Try.prog 42 (regsF Try.f33) ac_slices_DeleteFunc_s_int_int [.tm 4] [a0, a1] H Q = S_slices_DeleteFunc_s_int_int a0 a1 Q H := by kernel_rfl
theorem tri_slices_DeleteFunc_s_int_int {a0 a1 : AV} {H : AH} {Q : AV → AH → Prop} (h : S_slices_DeleteFunc_s_int_int a0 a1 Q H) : Tri Try.prog 33 [a0, a1] H Q :=
  tri_of (Ms := [#[], #[], #[], #[], #[], #[], #[], #[], #[], #[], #[], #[], #[]]) mixed Try.func33 rfl (by kernel_rfl) (by kernel_rfl) rfl (of_decide_eq_true rfl : 2 ≤ 42) ((eq_slices_DeleteFunc_s_int_int a0 a1 Q H).symm ▸ h : FnA Try.prog 42 (regsF Try.f33) ac_slices_DeleteFunc_s_int_int [.tm 4] [a0, a1] H Q)

/-! slices.IndexFunc[[]int,int] -/
def ac_slices_IndexFunc_s_int_int : AC := (.seq (.reg 0) (.seq (.seq (.reg 1) (.block 0 (.loop [8] [(4, 6), (9, 19)] (.seq (.reg 2) (.seq (.cond (.tmp 9) .skip (.exit 0)) (.seq (.block 1 (.seq (.reg 3) (.seq (.reg 4) (.cond (.tmp 16) (.seq (.reg 5) .ret) .skip)))) (.reg 6))))))) (.seq (.reg 7) .ret)))
def S_slices_IndexFunc_s_int_int (a0 a1 : AV) (Q : AV → AH → Prop) (H : AH) : Prop := (
    Pu Try.prog .len [a0] fun v7 =>
    LoopA Try.prog 1 (fun vs k =>
      Pu Try.prog (.bin .lss 3) [(vs.getD 0 .any), v7] fun v9 =>
      CdA v9
        (
        Pu Try.prog (.idx 1) [a0, (vs.getD 0 .any)] fun v14 =>
        RdS Try.prog (.ld 1 false) [v14] fun v15 =>
        Ca Try.prog a1 [v15] fun v16 =>
        CdA v16
          (
          Rt Try.prog H.nx (vs.getD 0 .any) Q
          ) (
          Pu Try.prog (.bin .add 3) [(vs.getD 0 .any), (.p (.int .i64 1))] fun v18 =>
          k [v18]
          )
        ) (
        Rt Try.prog H.nx (.p (.int .i64 (-1))) Q
        )
      ) [(.p (.int .i64 0))]
    ) H
theorem eq_slices_IndexFunc_s_int_int (a0 a1 : AV) (Q : AV → AH → Prop) (H : AH) : FnA Try.prog 19 (regsF Try.f37) ac_slices_IndexFunc_s_int_int [.tm 4] [a0, a1] H Q = S_slices_IndexFunc_s_int_int a0 a1 Q H := by kernel_rfl
theorem tri_slices_IndexFunc_s_int_int {a0 a1 : AV} {H : AH} {Q : AV → AH → Prop} (h : S_slices_IndexFunc_s_int_int a0 a1 Q H) : Tri Try.prog 37 [a0, a1] H Q :=
  tri_of (Ms := [#[], #[], #[], #[], #[], #[], #[], #[]]) mixed Try.func37 rfl (by kernel_rfl) (by kernel_rfl) rfl (of_decide_eq_true rfl : 2 ≤ 19) ((eq_slices_IndexFunc_s_int_int a0 a1 Q H).symm ▸ h : FnA Try.prog 19 (regsF Try.f37) ac_slices_IndexFunc_s_int_int [.tm 4] [a0, a1] H Q)

/-! slices.Concat[[]wordhoard/api.Claim,wordhoard/api.Claim] NOT TOLD: "slices.go:496" makeInterface; "slices.go:496" panic -/
def ac_slices_Concat_s_api_Claim_api_Claim : AC := (.seq (.reg 0) (.seq (.reg 1) (.seq (.seq (.reg 2) (.block 0 (.loop [3, 11] [(5, 6), (12, 23)] (.seq (.reg 3) (.seq (.cond (.tmp 12) .skip (.exit 0)) (.seq (.block 1 (.seq (.reg 4) (.seq (.reg 5) (.seq (.reg 6) (.cond (.tmp 20) (.reg 7) .skip))))) (.reg 8))))))) (.seq (.reg 9) (.seq (.seq (.reg 10) (.block 2 (.loop [6, 27] [(8, 9), (28, 35)] (.seq (.reg 11) (.seq (.cond (.tmp 28) .skip (.exit 2)) (.seq (.block 3 (.seq (.reg 12) (.reg 13))) (.reg 14))))))) (.seq (.reg 15) .ret))))))
def S_slices_Concat_s_api_Claim_api_Claim (a0 : AV) (Q : AV → AH → Prop) (H : AH) : Prop := (
    Pu Try.prog .len [a0] fun v10 =>
    LoopA Try.prog 2 (fun vs k =>
      Pu Try.prog (.bin .lss 3) [(vs.getD 1 .any), v10] fun v12 =>
      CdA v12
        (
        Pu Try.prog (.idx 1) [a0, (vs.getD 1 .any)] fun v13 =>
        RdS Try.prog (.ld 1 false) [v13] fun v14 =>
        Pu Try.prog .len [v14] fun v17 =>
        Pu Try.prog (.bin .add 3) [(vs.getD 0 .any), v17] fun v18 =>
        Pu Try.prog (.bin .lss 3) [v18, (.p (.int .i64 0))] fun v20 =>
        CdA v20
          (
          fun _ => False
          ) (
          Pu Try.prog (.bin .add 3) [(vs.getD 1 .any), (.p (.int .i64 1))] fun v22 =>
          k [v18, v22]
          )
        ) (
        Ca Try.prog (.fn (.func 45) [] []) [(.p (.slice none 0 0)), (vs.getD 0 .any)] fun v24 =>
        Pu Try.prog .len [a0] fun v26 =>
        LoopA Try.prog 2 (fun vs_15 k_14 =>
          Pu Try.prog (.bin .lss 3) [(vs_15.getD 1 .any), v26] fun v28 =>
          CdA v28
            (
            Pu Try.prog (.idx 1) [a0, (vs_15.getD 1 .any)] fun v29 =>
            RdS Try.prog (.ld 1 false) [v29] fun v30 =>
            Rg 4 fun b =>
            WrS Try.prog (b + 2) (.app 24 3 24) [(vs_15.getD 0 .any), v30] fun v33 =>
            Pu Try.prog (.bin .add 3) [(vs_15.getD 1 .any), (.p (.int .i64 1))] fun v34 =>
            k_14 [v33, v34]
            ) (
            Rt Try.prog H.nx (vs_15.getD 0 .any) Q
            )
          ) [v24, (.p (.int .i64 0))]
        )
      ) [(.p (.int .i64 0)), (.p (.int .i64 0))]
    ) H
theorem eq_slices_Concat_s_api_Claim_api_Claim (a0 : AV) (Q : AV → AH → Prop) (H : AH) : FnA Try.prog 36 (regsF Try.f40) ac_slices_Concat_s_api_Claim_api_Claim [.tm 2] [a0] H Q = S_slices_Concat_s_api_Claim_api_Claim a0 Q H := by kernel_rfl
theorem tri_slices_Concat_s_api_Claim_api_Claim {a0 : AV} {H : AH} {Q : AV → AH → Prop} (h : S_slices_Concat_s_api_Claim_api_Claim a0 Q H) : Tri Try.prog 40 [a0] H Q :=
  tri_of (Ms := [#[], #[], #[], #[], #[], #[], #[], #[], #[], #[], #[], #[], #[], #[], #[], #[]]) mixed Try.func40 rfl (by kernel_rfl) (by kernel_rfl) rfl (of_decide_eq_true rfl : 1 ≤ 36) ((eq_slices_Concat_s_api_Claim_api_Claim a0 Q H).symm ▸ h : FnA Try.prog 36 (regsF Try.f40) ac_slices_Concat_s_api_Claim_api_Claim [.tm 2] [a0] H Q)

/-! slices.Clone[[]int,int] -/
def ac_slices_Clone_s_int_int : AC := (.seq (.reg 0) (.seq (.seq (.reg 1) (.cond (.tmp 4) (.seq (.reg 2) .ret) .skip)) (.seq (.reg 3) .ret)))
def S_slices_Clone_s_int_int (a0 : AV) (Q : AV → AH → Prop) (H : AH) : Prop := (
    Pu Try.prog (.bin .eql 22) [a0, (.p (.slice none 0 0))] fun v4 =>
    CdA v4
      (
      Rt Try.prog H.nx (.p (.slice none 0 0)) Q
      ) (
      Rg 4 fun b =>
      Al (b + 0) (.bs 3 1 0 [.p (.int .i64 0)] []) [] fun v5 =>
      WrS Try.prog (b + 2) (.app 3 1 8) [v5, a0] fun v7 =>
      Rt Try.prog H.nx v7 Q
      )
    ) H
theorem eq_slices_Clone_s_int_int (a0 : AV) (Q : AV → AH → Prop) (H : AH) : FnA Try.prog 8 (regsF Try.f43) ac_slices_Clone_s_int_int [.tm 2] [a0] H Q = S_slices_Clone_s_int_int a0 Q H := by kernel_rfl
theorem tri_slices_Clone_s_int_int {a0 : AV} {H : AH} {Q : AV → AH → Prop} (h : S_slices_Clone_s_int_int a0 Q H) : Tri Try.prog 43 [a0] H Q :=
  tri_of (Ms := [#[], #[], #[], #[]]) mixed Try.func43 rfl (by kernel_rfl) (by kernel_rfl) rfl (of_decide_eq_true rfl : 1 ≤ 8) ((eq_slices_Clone_s_int_int a0 Q H).symm ▸ h : FnA Try.prog 8 (regsF Try.f43) ac_slices_Clone_s_int_int [.tm 2] [a0] H Q)

/-! slices.IndexFunc[[]wordhoard/api.Claim,wordhoard/api.Claim] -/
def ac_slices_IndexFunc_s_api_Claim_api_Claim : AC := (.seq (.reg 0) (.seq (.seq (.reg 1) (.block 0 (.loop [8] [(4, 6), (9, 19)] (.seq (.reg 2) (.seq (.cond (.tmp 9) .skip (.exit 0)) (.seq (.block 1 (.seq (.reg 3) (.seq (.reg 4) (.cond (.tmp 16) (.seq (.reg 5) .ret) .skip)))) (.reg 6))))))) (.seq (.reg 7) .ret)))
def S_slices_IndexFunc_s_api_Claim_api_Claim (a0 a1 : AV) (Q : AV → AH → Prop) (H : AH) : Prop := (
    Pu Try.prog .len [a0] fun v7 =>
    LoopA Try.prog 1 (fun vs k =>
      Pu Try.prog (.bin .lss 3) [(vs.getD 0 .any), v7] fun v9 =>
      CdA v9
        (
        Pu Try.prog (.idx 3) [a0, (vs.getD 0 .any)] fun v14 =>
        RdS Try.prog (.ld 3 true) [v14] fun v15 =>
        Ca Try.prog a1 [v15] fun v16 =>
        CdA v16
          (
          Rt Try.prog H.nx (vs.getD 0 .any) Q
          ) (
          Pu Try.prog (.bin .add 3) [(vs.getD 0 .any), (.p (.int .i64 1))] fun v18 =>
          k [v18]
          )
        ) (
        Rt Try.prog H.nx (.p (.int .i64 (-1))) Q
        )
      ) [(.p (.int .i64 0))]
    ) H
theorem eq_slices_IndexFunc_s_api_Claim_api_Claim (a0 a1 : AV) (Q : AV → AH → Prop) (H : AH) : FnA Try.prog 19 (regsF Try.f44) ac_slices_IndexFunc_s_api_Claim_api_Claim [.tm 4] [a0, a1] H Q = S_slices_IndexFunc_s_api_Claim_api_Claim a0 a1 Q H := by kernel_rfl
theorem tri_slices_IndexFunc_s_api_Claim_api_Claim {a0 a1 : AV} {H : AH} {Q : AV → AH → Prop} (h : S_slices_IndexFunc_s_api_Claim_api_Claim a0 a1 Q H) : Tri Try.prog 44 [a0, a1] H Q :=
  tri_of (Ms := [#[], #[], #[], #[], #[], #[], #[], #[]]) mixed Try.func44 rfl (by kernel_rfl) (by kernel_rfl) rfl (of_decide_eq_true rfl : 2 ≤ 19) ((eq_slices_IndexFunc_s_api_Claim_api_Claim a0 a1 Q H).symm ▸ h : FnA Try.prog 19 (regsF Try.f44) ac_slices_IndexFunc_s_api_Claim_api_Claim [.tm 4] [a0, a1] H Q)

/-! slices.Grow[[]wordhoard/api.Claim,wordhoard/api.Claim] NOT TOLD: "slices.go:424" makeInterface; "slices.go:424" panic -/
def ac_slices_Grow_s_api_Claim_api_Claim : AC := (.seq (.reg 0) (.cut [] [(5, 8)] (.seq (.reg 1) (.cond (.tmp 6) (.reg 2) .skip)) (.seq (.seq (.reg 3) (.seq (.reg 4) (.cond (.tmp 16) (.reg 5) .skip))) (.seq (.reg 6) .ret))))
def S_slices_Grow_s_api_Claim_api_Claim (a0 a1 : AV) (Q : AV → AH → Prop) (H : AH) : Prop := (
    CutA Try.prog 0 (fun k =>
      Pu Try.prog (.bin .lss 3) [a1, (.p (.int .i64 0))] fun v6 =>
      CdA v6
        (
        fun _ => False
        ) (
        k []
        )
      ) fun _ =>
    Pu Try.prog .cap [a0] fun v10 =>
    Pu Try.prog .len [a0] fun v12 =>
    Pu Try.prog (.bin .sub 3) [v10, v12] fun v13 =>
    Pu Try.prog (.bin .sub 3) [a1, v13] fun v14 =>
    Pu Try.prog (.bin .gtr 3) [v14, (.p (.int .i64 0))] fun v16 =>
    CdA v16
      (
      Rg 10 fun b =>
      Pu Try.prog .cap [a0] fun v19 =>
      Pu Try.prog (.slc 3 false true) [a0, v19] fun v20 =>
      WrS Try.prog (b + 5) (.apz 24 3 24 [.p (.bool false), .p (.int .i64 0), .p (.int .i64 0)]) [v20, v14] fun v22 =>
      Pu Try.prog .len [a0] fun v24 =>
      Pu Try.prog (.slc 3 false true) [v22, v24] fun v25 =>
      Rt Try.prog H.nx v25 Q
      ) (
      Rt Try.prog H.nx a0 Q
      )
    ) H
theorem eq_slices_Grow_s_api_Claim_api_Claim (a0 a1 : AV) (Q : AV → AH → Prop) (H : AH) : FnA Try.prog 27 (regsF Try.f45) ac_slices_Grow_s_api_Claim_api_Claim [.tm 4] [a0, a1] H Q = S_slices_Grow_s_api_Claim_api_Claim a0 a1 Q H := by kernel_rfl
theorem tri_slices_Grow_s_api_Claim_api_Claim {a0 a1 : AV} {H : AH} {Q : AV → AH → Prop} (h : S_slices_Grow_s_api_Claim_api_Claim a0 a1 Q H) : Tri Try.prog 45 [a0, a1] H Q :=
  tri_of (Ms := [#[], #[], #[], #[], #[], #[], #[]]) mixed Try.func45 rfl (by kernel_rfl) (by kernel_rfl) rfl (of_decide_eq_true rfl : 2 ≤ 27) ((eq_slices_Grow_s_api_Claim_api_Claim a0 a1 Q H).symm ▸ h : FnA Try.prog 27 (regsF Try.f45) ac_slices_Grow_s_api_Claim_api_Claim [.tm 4] [a0, a1] H Q)

/-! wordhoard/prove.Holds -/
def ac_prove_Holds : AC := (.seq (.reg 0) (.seq (.seq (.reg 1) (.cond (.tmp 9) (.seq (.reg 2) .ret) .skip)) (.seq (.seq (.reg 3) (.cond (.tmp 11) (.seq (.reg 4) .ret) .skip)) (.seq (.seq (.reg 5) (.seq (.reg 6) (.cond (.tmp 15) (.seq (.reg 7) .ret) .skip))) (.seq (.reg 8) .ret)))))
def S_prove_Holds (a0 a1 : AV) (Q : AV → AH → Prop) (H : AH) : Prop := (
    Rg 3 fun b =>
    Al (b + 0) (.bx 24) [a1] fun v3 =>
    Pu Try.prog .len [a0] fun v8 =>
    Pu Try.prog (.bin .gtr 3) [v8, (.p (.int .i64 64))] fun v9 =>
    CdA v9
      (
      Rt Try.prog H.nx (.tup [(.p (.bool false)), (.p (.int .i64 7))]) Q
      ) (
      Ca Try.prog (.fn (.func 19) [] []) [a0, (.fn (.func 20) [] [])] fun v11 =>
      CdA v11
        (
        Rt Try.prog H.nx (.tup [(.p (.bool false)), (.p (.int .i64 3))]) Q
        ) (
        RdS Try.prog (.ld 3 true) [v3] fun v12 =>
        Ca Try.prog (.fn (.func 11) [] []) [v12] fun v13 =>
        Pu Try.prog (.bin .neq 25) [v13, (.p (.int .i64 0))] fun v15 =>
        CdA v15
          (
          Rt Try.prog H.nx (.tup [(.p (.bool false)), v13]) Q
          ) (
          RdS Try.prog (.ld 3 true) [v3] fun v18 =>
          Ca Try.prog (.fn (.func 21) [] []) [a0, v18] fun v19 =>
          Rt Try.prog H.nx (.tup [v19, (.p (.int .i64 0))]) Q
          )
        )
      )
    ) H
theorem eq_prove_Holds (a0 a1 : AV) (Q : AV → AH → Prop) (H : AH) : FnA Try.prog 20 (regsF Try.f7) ac_prove_Holds [.tm 4, .tm 5] [a0, a1] H Q = S_prove_Holds a0 a1 Q H := by kernel_rfl
theorem tri_prove_Holds {a0 a1 : AV} {H : AH} {Q : AV → AH → Prop} (h : S_prove_Holds a0 a1 Q H) : Tri Try.prog 7 [a0, a1] H Q :=
  tri_of (Ms := [#[], #[], #[], #[], #[], #[], #[], #[], #[]]) mixed Try.func7 rfl (by kernel_rfl) (by kernel_rfl) rfl (of_decide_eq_true rfl : 2 ≤ 20) ((eq_prove_Holds a0 a1 Q H).symm ▸ h : FnA Try.prog 20 (regsF Try.f7) ac_prove_Holds [.tm 4, .tm 5] [a0, a1] H Q)

/-! wordhoard/prove.Check -/
def ac_prove_Check : AC := (.seq (.reg 0) (.seq (.seq (.reg 1) (.cond (.tmp 12) (.seq (.reg 2) .ret) .skip)) (.seq (.reg 3) .ret)))
def S_prove_Check (a0 : AV) (Q : AV → AH → Prop) (H : AH) : Prop := (
    Rg 2 fun b =>
    Al (b + 0) (.bx 24) [a0] fun v1 =>
    Pu Try.prog (.addOff 1) [v1] fun v3 =>
    RdS Try.prog (.ld 1 false) [v3] fun v4 =>
    Ca Try.prog (.fn (.func 22) [] []) [v4] fun v5 =>
    Pu Try.prog (.un .not) [v5] fun v6 =>
    Gd v6 false (fun k => Pu Try.prog (.addOff 2) [v1] k) fun v8 =>
    Gd v6 false (fun k_10 => RdS Try.prog (.ld 1 false) [v8] k_10) fun v9 =>
    Gd v6 false (fun k_12 => Ca Try.prog (.fn (.func 22) [] []) [v9] k_12) fun v10 =>
    Gd v6 false (fun k_14 => Pu Try.prog (.un .not) [v10] k_14) fun v11 =>
    Pu Try.prog .pick [v6, (.p (.bool true)), v11] fun v12 =>
    CdA v12
      (
      Rt Try.prog H.nx (.p (.int .i64 3)) Q
      ) (
      Rt Try.prog H.nx (.p (.int .i64 0)) Q
      )
    ) H
theorem eq_prove_Check (a0 : AV) (Q : AV → AH → Prop) (H : AH) : FnA Try.prog 13 (regsF Try.f11) ac_prove_Check [.tm 2] [a0] H Q = S_prove_Check a0 Q H := by kernel_rfl
theorem tri_prove_Check {a0 : AV} {H : AH} {Q : AV → AH → Prop} (h : S_prove_Check a0 Q H) : Tri Try.prog 11 [a0] H Q :=
  tri_of (Ms := [#[], #[], #[], #[]]) mixed Try.func11 rfl (by kernel_rfl) (by kernel_rfl) rfl (of_decide_eq_true rfl : 1 ≤ 13) ((eq_prove_Check a0 Q H).symm ▸ h : FnA Try.prog 13 (regsF Try.f11) ac_prove_Check [.tm 2] [a0] H Q)

/-! wordhoard/prove.Against -/
def ac_prove_Against : AC := (.seq (.reg 0) (.seq (.seq (.reg 1) (.seq (.reg 2) (.cond (.tmp 15) (.seq (.reg 3) .ret) .skip))) (.seq (.reg 4) (.seq (.seq (.reg 5) (.block 0 (.loop [17] [(9, 10), (18, 29)] (.seq (.reg 6) (.seq (.cond (.tmp 18) .skip (.exit 0)) (.seq (.block 1 (.seq (.reg 7) (.seq (.reg 8) (.cond (.tmp 23) (.reg 9) .skip)))) (.reg 10))))))) (.seq (.seq (.reg 11) (.cond (.tmp 30) (.reg 12) (.seq (.gh (.reg 13)) (.cond (.tmp 37) (.seq (.reg 14) .ret) .skip)))) (.seq (.seq (.gh (.reg 15)) (.cond (.tmp 40) (.seq (.reg 16) .ret) .skip)) (.seq (.reg 17) .ret)))))))
def S_prove_Against (a0 a1 : AV) (Q : AV → AH → Prop) (H : AH) : Prop := (
    Rg 4 fun b =>
    Al (b + 0) (.bx 24) [a1] fun v3 =>
    Rg 5 fun b_3 =>
    RdS Try.prog (.ld 3 true) [v3] fun v11 =>
    Al (b_3 + 2) (.bs 24 3 1 [.p (.bool false), .p (.int .i64 0), .p (.int .i64 0)] [(0, 3)]) [v11] fun v12 =>
    Ca Try.prog (.fn (.func 24) [] []) [a0, v12] fun v13 =>
    Pu Try.prog (.bin .neq 25) [v13, (.p (.int .i64 0))] fun v15 =>
    CdA v15
      (
      Rt Try.prog H.nx (.tup [(.p (.slice none 0 0)), (.p (.bool false)), v13]) Q
      ) (
      Rg 1 fun b_8 =>
      Al (b_8 + 0) (.nw 22 [.p (.slice none 0 0)]) [] fun v8 =>
      LoopA Try.prog 1 (fun vs k =>
        Pu Try.prog (.bin .lss 3) [(vs.getD 0 .any), (.p (.int .i64 64))] fun v18 =>
        CdA v18
          (
          Rg 3 fun b_13 =>
          Al (b_13 + 1) (.nw 3 [.p (.int .i64 0)]) [] fun v9 =>
          WrS Try.prog (b_13 + 2) (.st 1) [v9, (vs.getD 0 .any)] fun _ =>
          Pu Try.prog (.mkfn (.func 32) 0) [v9] fun v21 =>
          Ca Try.prog (.fn (.func 31) [] []) [a0, v21] fun v22 =>
          Pu Try.prog (.un .not) [v22] fun v23 =>
          CdA v23
            (
            Rg 5 fun b_19 =>
            RdS Try.prog (.ld 1 false) [v8] fun v24 =>
            RdS Try.prog (.ld 1 false) [v9] fun v25 =>
            Al (b_19 + 2) (.bs 3 1 1 [.p (.int .i64 0)] [(0, 1)]) [v25] fun v26 =>
            WrS Try.prog (b_19 + 3) (.app 3 1 8) [v24, v26] fun v27 =>
            WrS Try.prog (b_19 + 4) (.st 1) [v8, v27] fun _ =>
            Pu Try.prog (.bin .add 3) [(vs.getD 0 .any), (.p (.int .i64 1))] fun v28 =>
            k [v28]
            ) (
            Pu Try.prog (.bin .add 3) [(vs.getD 0 .any), (.p (.int .i64 1))] fun v28_26 =>
            k [v28_26]
            )
          ) (
          Pu Try.prog (.addOff 0) [v3] fun v29 =>
          RdS Try.prog (.ld 1 false) [v29] fun v30 =>
          CdA v30
            (
            Rg 4 fun b_29 =>
            RdS Try.prog (.ld 1 false) [v8] fun v31 =>
            Pu Try.prog (.mkfn (.func 34) 0) [v3] fun v32 =>
            Ca Try.prog (.fn (.func 33) [] []) [v31, v32] fun v33 =>
            WrS Try.prog (b_29 + 3) (.st 1) [v8, v33] fun _ =>
            Gq Try.prog <|
            Pu Try.prog (.mkfn (.func 36) 0) [v8] fun v39 =>
            Ca Try.prog (.fn (.func 31) [] []) [a0, v39] fun v40 =>
            CdA v40
              (
              Rt Try.prog H.nx (.tup [(.p (.slice none 0 0)), (.p (.bool false)), (.p (.int .i64 0))]) Q
              ) (
              RdS Try.prog (.ld 1 false) [v8] fun v41 =>
              Rt Try.prog H.nx (.tup [v41, (.p (.bool true)), (.p (.int .i64 0))]) Q
              )
            ) (
            Gq Try.prog <|
            RdS Try.prog (.ld 1 false) [v8] fun v34 =>
            Pu Try.prog (.mkfn (.func 35) 0) [v3] fun v35 =>
            Ca Try.prog (.fn (.func 19) [] []) [v34, v35] fun v36 =>
            Pu Try.prog (.un .not) [v36] fun v37 =>
            CdA v37
              (
              Rt Try.prog H.nx (.tup [(.p (.slice none 0 0)), (.p (.bool false)), (.p (.int .i64 0))]) Q
              ) (
              Gq Try.prog <|
              Pu Try.prog (.mkfn (.func 36) 0) [v8] fun v39_41 =>
              Ca Try.prog (.fn (.func 31) [] []) [a0, v39_41] fun v40_42 =>
              CdA v40_42
                (
                Rt Try.prog H.nx (.tup [(.p (.slice none 0 0)), (.p (.bool false)), (.p (.int .i64 0))]) Q
                ) (
                RdS Try.prog (.ld 1 false) [v8] fun v41_43 =>
                Rt Try.prog H.nx (.tup [v41_43, (.p (.bool true)), (.p (.int .i64 0))]) Q
                )
              )
            )
          )
        ) [(.p (.int .i64 0))]
      )
    ) H
theorem eq_prove_Against (a0 a1 : AV) (Q : AV → AH → Prop) (H : AH) : FnA Try.prog 42 (regsF Try.f17) ac_prove_Against [.tm 4, .tm 5, .tm 6] [a0, a1] H Q = S_prove_Against a0 a1 Q H := by kernel_rfl
theorem tri_prove_Against {a0 a1 : AV} {H : AH} {Q : AV → AH → Prop} (h : S_prove_Against a0 a1 Q H) : Tri Try.prog 17 [a0, a1] H Q :=
  tri_of (Ms := [#[], #[], #[], #[], #[], #[], #[], #[], #[], #[], #[], #[], #[], #[], #[], #[], #[], #[]]) mixed Try.func17 rfl (by kernel_rfl) (by kernel_rfl) rfl (of_decide_eq_true rfl : 2 ≤ 42) ((eq_prove_Against a0 a1 Q H).symm ▸ h : FnA Try.prog 42 (regsF Try.f17) ac_prove_Against [.tm 4, .tm 5, .tm 6] [a0, a1] H Q)

/-! wordhoard/prove.Holds$1 -/
def ac_prove_Holds_fn1 : AC := (.seq (.reg 0) (.seq (.reg 1) .ret))
def S_prove_Holds_fn1 (a0 : AV) (Q : AV → AH → Prop) (H : AH) : Prop := (
    Pu Try.prog (.bin .lss 3) [a0, (.p (.int .i64 0))] fun v4 =>
    Gd v4 false (fun k => k a0) fun v6 =>
    Gd v4 false (fun k_5 => Pu Try.prog (.bin .geq 3) [v6, (.p (.int .i64 64))] k_5) fun v7 =>
    Pu Try.prog .pick [v4, (.p (.bool true)), v7] fun v8 =>
    Rt Try.prog H.nx v8 Q
    ) H
theorem eq_prove_Holds_fn1 (a0 : AV) (Q : AV → AH → Prop) (H : AH) : FnA Try.prog 9 (regsF Try.f20) ac_prove_Holds_fn1 [.tm 2] [a0] H Q = S_prove_Holds_fn1 a0 Q H := by kernel_rfl
theorem tri_prove_Holds_fn1 {a0 : AV} {H : AH} {Q : AV → AH → Prop} (h : S_prove_Holds_fn1 a0 Q H) : Tri Try.prog 20 [a0] H Q :=
  tri_of (Ms := [#[], #[]]) mixed Try.func20 rfl (by kernel_rfl) (by kernel_rfl) rfl (of_decide_eq_true rfl : 1 ≤ 9) ((eq_prove_Holds_fn1 a0 Q H).symm ▸ h : FnA Try.prog 9 (regsF Try.f20) ac_prove_Holds_fn1 [.tm 2] [a0] H Q)

/-! wordhoard/prove.holds -/
def ac_prove_holds : AC := (.seq (.reg 0) (.seq (.reg 1) (.seq (.reg 2) .ret)))
def S_prove_holds (a0 a1 : AV) (Q : AV → AH → Prop) (H : AH) : Prop := (
    Rg 2 fun b =>
    Al (b + 0) (.bx 24) [a1] fun v3 =>
    Pu Try.prog (.mkfn (.func 38) 0) [v3] fun v7 =>
    Ca Try.prog (.fn (.func 19) [] []) [a0, v7] fun v8 =>
    Pu Try.prog (.addOff 0) [v3] fun v10 =>
    RdS Try.prog (.ld 1 false) [v10] fun v11 =>
    Pu Try.prog (.bin .eql 4) [v8, v11] fun v12 =>
    Rt Try.prog H.nx v12 Q
    ) H
theorem eq_prove_holds (a0 a1 : AV) (Q : AV → AH → Prop) (H : AH) : FnA Try.prog 13 (regsF Try.f21) ac_prove_holds [.tm 4] [a0, a1] H Q = S_prove_holds a0 a1 Q H := by kernel_rfl
theorem tri_prove_holds {a0 a1 : AV} {H : AH} {Q : AV → AH → Prop} (h : S_prove_holds a0 a1 Q H) : Tri Try.prog 21 [a0, a1] H Q :=
  tri_of (Ms := [#[], #[], #[]]) mixed Try.func21 rfl (by kernel_rfl) (by kernel_rfl) rfl (of_decide_eq_true rfl : 2 ≤ 13) ((eq_prove_holds a0 a1 Q H).symm ▸ h : FnA Try.prog 13 (regsF Try.f21) ac_prove_holds [.tm 4] [a0, a1] H Q)

/-! wordhoard/prove.literal -/
def ac_prove_literal : AC := (.seq (.reg 0) (.seq (.reg 1) .ret))
def S_prove_literal (a0 : AV) (Q : AV → AH → Prop) (H : AH) : Prop := (
    Pu Try.prog (.bin .neq 3) [a0, (.p (.int .i64 0))] fun v4 =>
    Gd v4 true (fun k => k a0) fun v6 =>
    Gd v4 true (fun k_5 => Pu Try.prog (.bin .geq 3) [v6, (.p (.int .i64 (-6)))] k_5) fun v7 =>
    Pu Try.prog .pick [v4, v7, (.p (.bool false))] fun v8 =>
    Gd v8 true (fun k_8 => k_8 a0) fun v10 =>
    Gd v8 true (fun k_10 => Pu Try.prog (.bin .leq 3) [v10, (.p (.int .i64 6))] k_10) fun v11 =>
    Pu Try.prog .pick [v8, v11, (.p (.bool false))] fun v12 =>
    Rt Try.prog H.nx v12 Q
    ) H
theorem eq_prove_literal (a0 : AV) (Q : AV → AH → Prop) (H : AH) : FnA Try.prog 13 (regsF Try.f22) ac_prove_literal [.tm 2] [a0] H Q = S_prove_literal a0 Q H := by kernel_rfl
theorem tri_prove_literal {a0 : AV} {H : AH} {Q : AV → AH → Prop} (h : S_prove_literal a0 Q H) : Tri Try.prog 22 [a0] H Q :=
  tri_of (Ms := [#[], #[]]) mixed Try.func22 rfl (by kernel_rfl) (by kernel_rfl) rfl (of_decide_eq_true rfl : 1 ≤ 13) ((eq_prove_literal a0 Q H).symm ▸ h : FnA Try.prog 13 (regsF Try.f22) ac_prove_literal [.tm 2] [a0] H Q)

/-! wordhoard/prove.checkAll -/
def ac_prove_checkAll : AC := (.seq (.reg 0) (.seq (.seq (.reg 1) (.cond (.tmp 10) (.seq (.reg 2) .ret) .skip)) (.seq (.seq (.reg 3) (.block 0 (.loop [16] [(4, 5), (6, 8), (17, 26)] (.seq (.reg 4) (.seq (.cond (.tmp 17) .skip (.exit 0)) (.seq (.block 1 (.seq (.reg 5) (.seq (.reg 6) (.seq (.reg 7) (.cond (.tmp 23) (.seq (.reg 8) .ret) .skip))))) (.reg 9))))))) (.seq (.reg 10) .ret))))
def S_prove_checkAll (a0 a1 : AV) (Q : AV → AH → Prop) (H : AH) : Prop := (
    Pu Try.prog .len [a0] fun v9 =>
    Pu Try.prog (.bin .gtr 3) [v9, (.p (.int .i64 20))] fun v10 =>
    CdA v10
      (
      Rt Try.prog H.nx (.p (.int .i64 7)) Q
      ) (
      Rg 6 fun b =>
      Al (b + 2) (.bs 32 1 2 [.p (.slice none 0 0)] [(0, 1), (1, 1)]) [a0, a1] fun v13 =>
      Ca Try.prog (.fn (.func 40) [] []) [v13] fun v14 =>
      Pu Try.prog .len [v14] fun v15 =>
      LoopA Try.prog 1 (fun vs k =>
        Pu Try.prog (.bin .lss 3) [(vs.getD 0 .any), v15] fun v17 =>
        CdA v17
          (
          Rg 4 fun b_10 =>
          Pu Try.prog (.idx 3) [v14, (vs.getD 0 .any)] fun v18 =>
          RdS Try.prog (.ld 3 true) [v18] fun v19 =>
          Al (b_10 + 2) (.nw 24 [.p (.bool false), .p (.int .i64 0), .p (.int .i64 0)]) [] fun v6 =>
          WrS Try.prog (b_10 + 3) (.st 3) [v6, v19] fun _ =>
          RdS Try.prog (.ld 3 true) [v6] fun v20 =>
          Ca Try.prog (.fn (.func 11) [] []) [v20] fun v21 =>
          Pu Try.prog (.bin .neq 25) [v21, (.p (.int .i64 0))] fun v23 =>
          CdA v23
            (
            Rt Try.prog H.nx v21 Q
            ) (
            Pu Try.prog (.bin .add 3) [(vs.getD 0 .any), (.p (.int .i64 1))] fun v25 =>
            k [v25]
            )
          ) (
          Rt Try.prog H.nx (.p (.int .i64 0)) Q
          )
        ) [(.p (.int .i64 0))]
      )
    ) H
theorem eq_prove_checkAll (a0 a1 : AV) (Q : AV → AH → Prop) (H : AH) : FnA Try.prog 26 (regsF Try.f24) ac_prove_checkAll [.tm 4] [a0, a1] H Q = S_prove_checkAll a0 a1 Q H := by kernel_rfl
theorem tri_prove_checkAll {a0 a1 : AV} {H : AH} {Q : AV → AH → Prop} (h : S_prove_checkAll a0 a1 Q H) : Tri Try.prog 24 [a0, a1] H Q :=
  tri_of (Ms := [#[], #[], #[], #[], #[], #[], #[], #[], #[], #[], #[]]) mixed Try.func24 rfl (by kernel_rfl) (by kernel_rfl) rfl (of_decide_eq_true rfl : 2 ≤ 26) ((eq_prove_checkAll a0 a1 Q H).symm ▸ h : FnA Try.prog 26 (regsF Try.f24) ac_prove_checkAll [.tm 4] [a0, a1] H Q)

/-! wordhoard/prove.Against$1 -/
def ac_prove_Against_fn1 : AC := (.seq (.reg 0) (.seq (.reg 1) .ret))
def S_prove_Against_fn1 (a0 a1 : AV) (Q : AV → AH → Prop) (H : AH) : Prop := (
    Rg 2 fun b =>
    Al (b + 0) (.bx 24) [a0] fun v2 =>
    Rg 11 fun b_3 =>
    Pu Try.prog (.addOff 0) [v2] fun v4 =>
    RdS Try.prog (.ld 1 false) [v4] fun v5 =>
    Pu Try.prog (.un .not) [v5] fun v6 =>
    Gd v6 true (fun k => RdS Try.prog (.ld 1 false) [a1] k) fun v8 =>
    Gd v6 true (fun k_10 => Al (b_3 + 5) (.bs 3 1 1 [.p (.int .i64 0)] [(0, 1)]) [v8] k_10) fun v9 =>
    Gd v6 true (fun k_12 => RdS Try.prog (.ld 3 true) [v2] k_12) fun v10 =>
    Gd v6 true (fun k_14 => Ca Try.prog (.fn (.func 21) [] []) [v9, v10] k_14) fun v11 =>
    Gd v6 true (fun k_16 => Pu Try.prog (.un .not) [v11] k_16) fun v12 =>
    Pu Try.prog .pick [v6, v12, (.p (.bool false))] fun v13 =>
    Rt Try.prog H.nx v13 Q
    ) H
theorem eq_prove_Against_fn1 (a0 a1 : AV) (Q : AV → AH → Prop) (H : AH) : FnA Try.prog 14 (regsF Try.f32) ac_prove_Against_fn1 [.tm 3] [a0, a1] H Q = S_prove_Against_fn1 a0 a1 Q H := by kernel_rfl
theorem tri_prove_Against_fn1 {a0 a1 : AV} {H : AH} {Q : AV → AH → Prop} (h : S_prove_Against_fn1 a0 a1 Q H) : Tri Try.prog 32 [a0, a1] H Q :=
  tri_of (Ms := [#[], #[]]) mixed Try.func32 rfl (by kernel_rfl) (by kernel_rfl) rfl (of_decide_eq_true rfl : 2 ≤ 14) ((eq_prove_Against_fn1 a0 a1 Q H).symm ▸ h : FnA Try.prog 14 (regsF Try.f32) ac_prove_Against_fn1 [.tm 3] [a0, a1] H Q)

/-! wordhoard/prove.Against$2 -/
def ac_prove_Against_fn2 : AC := (.seq (.reg 0) (.seq (.reg 1) .ret))
def S_prove_Against_fn2 (a0 a1 : AV) (Q : AV → AH → Prop) (H : AH) : Prop := (
    Rg 5 fun b =>
    Al (b + 1) (.bs 3 1 1 [.p (.int .i64 0)] [(0, 1)]) [a0] fun v5 =>
    RdS Try.prog (.ld 3 true) [a1] fun v6 =>
    Ca Try.prog (.fn (.func 21) [] []) [v5, v6] fun v7 =>
    Rt Try.prog H.nx v7 Q
    ) H
theorem eq_prove_Against_fn2 (a0 a1 : AV) (Q : AV → AH → Prop) (H : AH) : FnA Try.prog 8 (regsF Try.f34) ac_prove_Against_fn2 [.tm 3] [a0, a1] H Q = S_prove_Against_fn2 a0 a1 Q H := by kernel_rfl
theorem tri_prove_Against_fn2 {a0 a1 : AV} {H : AH} {Q : AV → AH → Prop} (h : S_prove_Against_fn2 a0 a1 Q H) : Tri Try.prog 34 [a0, a1] H Q :=
  tri_of (Ms := [#[], #[]]) mixed Try.func34 rfl (by kernel_rfl) (by kernel_rfl) rfl (of_decide_eq_true rfl : 2 ≤ 8) ((eq_prove_Against_fn2 a0 a1 Q H).symm ▸ h : FnA Try.prog 8 (regsF Try.f34) ac_prove_Against_fn2 [.tm 3] [a0, a1] H Q)

/-! wordhoard/prove.Against$3 -/
def ac_prove_Against_fn3 : AC := (.seq (.reg 0) (.seq (.reg 1) .ret))
def S_prove_Against_fn3 (a0 a1 : AV) (Q : AV → AH → Prop) (H : AH) : Prop := (
    Rg 6 fun b =>
    Al (b + 1) (.bs 3 1 1 [.p (.int .i64 0)] [(0, 1)]) [a0] fun v5 =>
    RdS Try.prog (.ld 3 true) [a1] fun v6 =>
    Ca Try.prog (.fn (.func 21) [] []) [v5, v6] fun v7 =>
    Pu Try.prog (.un .not) [v7] fun v8 =>
    Rt Try.prog H.nx v8 Q
    ) H
theorem eq_prove_Against_fn3 (a0 a1 : AV) (Q : AV → AH → Prop) (H : AH) : FnA Try.prog 9 (regsF Try.f35) ac_prove_Against_fn3 [.tm 3] [a0, a1] H Q = S_prove_Against_fn3 a0 a1 Q H := by kernel_rfl
theorem tri_prove_Against_fn3 {a0 a1 : AV} {H : AH} {Q : AV → AH → Prop} (h : S_prove_Against_fn3 a0 a1 Q H) : Tri Try.prog 35 [a0, a1] H Q :=
  tri_of (Ms := [#[], #[]]) mixed Try.func35 rfl (by kernel_rfl) (by kernel_rfl) rfl (of_decide_eq_true rfl : 2 ≤ 9) ((eq_prove_Against_fn3 a0 a1 Q H).symm ▸ h : FnA Try.prog 9 (regsF Try.f35) ac_prove_Against_fn3 [.tm 3] [a0, a1] H Q)

/-! wordhoard/prove.Against$4 -/
def ac_prove_Against_fn4 : AC := (.seq (.reg 0) (.seq (.reg 1) .ret))
def S_prove_Against_fn4 (a0 a1 : AV) (Q : AV → AH → Prop) (H : AH) : Prop := (
    Rg 2 fun b =>
    Al (b + 0) (.bx 24) [a0] fun v2 =>
    RdS Try.prog (.ld 1 false) [a1] fun v4 =>
    RdS Try.prog (.ld 3 true) [v2] fun v5 =>
    Ca Try.prog (.fn (.func 21) [] []) [v4, v5] fun v6 =>
    Pu Try.prog (.un .not) [v6] fun v7 =>
    Rt Try.prog H.nx v7 Q
    ) H
theorem eq_prove_Against_fn4 (a0 a1 : AV) (Q : AV → AH → Prop) (H : AH) : FnA Try.prog 8 (regsF Try.f36) ac_prove_Against_fn4 [.tm 3] [a0, a1] H Q = S_prove_Against_fn4 a0 a1 Q H := by kernel_rfl
theorem tri_prove_Against_fn4 {a0 a1 : AV} {H : AH} {Q : AV → AH → Prop} (h : S_prove_Against_fn4 a0 a1 Q H) : Tri Try.prog 36 [a0, a1] H Q :=
  tri_of (Ms := [#[], #[]]) mixed Try.func36 rfl (by kernel_rfl) (by kernel_rfl) rfl (of_decide_eq_true rfl : 2 ≤ 8) ((eq_prove_Against_fn4 a0 a1 Q H).symm ▸ h : FnA Try.prog 8 (regsF Try.f36) ac_prove_Against_fn4 [.tm 3] [a0, a1] H Q)

/-! wordhoard/prove.holds$1 -/
def ac_prove_holds_fn1 : AC := (.seq (.reg 0) (.seq (.reg 1) .ret))
def S_prove_holds_fn1 (a0 a1 : AV) (Q : AV → AH → Prop) (H : AH) : Prop := (
    Vw fun V =>
    Pu Try.prog (.addOff 1) [a1] fun v5 =>
    Rd Try.prog V (.ld 1 false) [v5] fun v6 =>
    CaV Try.prog V (.fn (.func 39) [] []) [a0, v6] fun v7 =>
    GdV v7 true (fun k => k a0 V) V fun v9 V_7 =>
    GdV v7 true (fun k_9 => Pu Try.prog (.addOff 2) [a1] (fun a => k_9 a V_7)) V_7 fun v10 V_10 =>
    GdV v7 true (fun k_12 => Rd Try.prog V_10 (.ld 1 false) [v10] (fun a => k_12 a V_10)) V_10 fun v11 V_13 =>
    GdV v7 true (fun k_15 => CaV Try.prog V_13 (.fn (.func 39) [] []) [v9, v11] (fun a => k_15 a V_13)) V_13 fun v12 V_16 =>
    GdV v7 true (fun k_18 => Pu Try.prog (.addOff 0) [a1] (fun a => k_18 a V_16)) V_16 fun v13 V_19 =>
    GdV v7 true (fun k_21 => Rd Try.prog V_19 (.ld 1 false) [v13] (fun a => k_21 a V_19)) V_19 fun v14 V_22 =>
    GdV v7 true (fun k_24 => Pu Try.prog (.bin .eql 4) [v12, v14] (fun a => k_24 a V_22)) V_22 fun v15 _ =>
    Pu Try.prog .pick [v7, v15, (.p (.bool false))] fun v16 =>
    Rt Try.prog H.nx v16 Q
    ) H
theorem eq_prove_holds_fn1 (a0 a1 : AV) (Q : AV → AH → Prop) (H : AH) : FnA Try.prog 17 (regsF Try.f38) ac_prove_holds_fn1 [.tm 3] [a0, a1] H Q = S_prove_holds_fn1 a0 a1 Q H := by kernel_rfl
theorem tri_prove_holds_fn1 {a0 a1 : AV} {H : AH} {Q : AV → AH → Prop} (h : S_prove_holds_fn1 a0 a1 Q H) : Tri Try.prog 38 [a0, a1] H Q :=
  tri_of (Ms := [#[], #[0, 0, 2, 7, 15, 31, 31, 95, 255, 31, 543, 2047, 4095, 8191]]) mixed Try.func38 rfl (by kernel_rfl) (by kernel_rfl) rfl (of_decide_eq_true rfl : 2 ≤ 17) ((eq_prove_holds_fn1 a0 a1 Q H).symm ▸ h : FnA Try.prog 17 (regsF Try.f38) ac_prove_holds_fn1 [.tm 3] [a0, a1] H Q)

/-! wordhoard/prove.is -/
def ac_prove_is : AC := (.seq (.reg 0) (.seq (.seq (.reg 1) (.cond (.tmp 6) (.seq (.reg 2) .ret) .skip)) (.seq (.reg 3) .ret)))
def S_prove_is (a0 a1 : AV) (Q : AV → AH → Prop) (H : AH) : Prop := (
    Pu Try.prog (.bin .lss 3) [a1, (.p (.int .i64 0))] fun v6 =>
    CdA v6
      (
      Pu Try.prog (.un .neg) [a1] fun v9 =>
      Ca Try.prog (.fn (.func 39) [] []) [a0, v9] fun v10 =>
      Pu Try.prog (.un .not) [v10] fun v11 =>
      Rt Try.prog H.nx v11 Q
      ) (
      Pu Try.prog (.bin .sub 3) [a1, (.p (.int .i64 1))] fun v14 =>
      Pu Try.prog (.bin .shr 3) [a0, v14] fun v15 =>
      Pu Try.prog (.bin .and 3) [v15, (.p (.int .i64 1))] fun v16 =>
      Pu Try.prog (.bin .eql 3) [v16, (.p (.int .i64 1))] fun v17 =>
      Rt Try.prog H.nx v17 Q
      )
    ) H
theorem eq_prove_is (a0 a1 : AV) (Q : AV → AH → Prop) (H : AH) : FnA Try.prog 18 (regsF Try.f39) ac_prove_is [.tm 4] [a0, a1] H Q = S_prove_is a0 a1 Q H := by kernel_rfl
theorem tri_prove_is {a0 a1 : AV} {H : AH} {Q : AV → AH → Prop} (h : S_prove_is a0 a1 Q H) : Tri Try.prog 39 [a0, a1] H Q :=
  tri_of (Ms := [#[], #[], #[], #[]]) mixed Try.func39 rfl (by kernel_rfl) (by kernel_rfl) rfl (of_decide_eq_true rfl : 2 ≤ 18) ((eq_prove_is a0 a1 Q H).symm ▸ h : FnA Try.prog 18 (regsF Try.f39) ac_prove_is [.tm 4] [a0, a1] H Q)

/-! wordhoard/wordhoardref.CheckWorld -/
def ac_wordhoardref_CheckWorld : AC := (.seq (.reg 0) (.seq (.seq (.reg 1) (.cond (.tmp 6) (.seq (.reg 2) .ret) .skip)) (.seq (.seq (.reg 3) (.block 0 (.loop [3] [(2, 3), (7, 25)] (.seq (.seq (.reg 4) (.cond (.tmp 10) .skip (.exit 0))) (.seq (.block 1 (.seq (.reg 5) (.cond (.tmp 24) (.seq (.reg 6) .ret) .skip))) (.reg 7)))))) (.seq (.reg 8) .ret))))
def S_wordhoardref_CheckWorld (a0 : AV) (Q : AV → AH → Prop) (H : AH) : Prop := (
    Pu Try.prog .len [a0] fun v5 =>
    Pu Try.prog (.bin .gtr 3) [v5, (.p (.int .i64 64))] fun v6 =>
    CdA v6
      (
      Rt Try.prog H.nx (.p (.int .i64 7)) Q
      ) (
      LoopA Try.prog 1 (fun vs k =>
        Pu Try.prog .len [a0] fun v9 =>
        Pu Try.prog (.bin .lss 3) [(vs.getD 0 .any), v9] fun v10 =>
        CdA v10
          (
          Pu Try.prog (.idx 1) [a0, (vs.getD 0 .any)] fun v15 =>
          RdS Try.prog (.ld 1 false) [v15] fun v16 =>
          Pu Try.prog (.bin .lss 3) [v16, (.p (.int .i64 0))] fun v17 =>
          Gd v17 false (fun k_11 => k_11 a0) fun v19 =>
          Gd v17 false (fun k_13 => k_13 (vs.getD 0 .any)) fun v20 =>
          Gd v17 false (fun k_15 => Pu Try.prog (.idx 1) [v19, v20] k_15) fun v21 =>
          Gd v17 false (fun k_17 => RdS Try.prog (.ld 1 false) [v21] k_17) fun v22 =>
          Gd v17 false (fun k_19 => Pu Try.prog (.bin .gtr 3) [v22, (.p (.int .i64 63))] k_19) fun v23 =>
          Pu Try.prog .pick [v17, (.p (.bool true)), v23] fun v24 =>
          CdA v24
            (
            Rt Try.prog H.nx (.p (.int .i64 3)) Q
            ) (
            Pu Try.prog (.bin .add 3) [(vs.getD 0 .any), (.p (.int .i64 1))] fun v12 =>
            k [v12]
            )
          ) (
          Rt Try.prog H.nx (.p (.int .i64 0)) Q
          )
        ) [(.p (.int .i64 0))]
      )
    ) H
theorem eq_wordhoardref_CheckWorld (a0 : AV) (Q : AV → AH → Prop) (H : AH) : FnA Try.prog 25 (regsF Try.f8) ac_wordhoardref_CheckWorld [.tm 2] [a0] H Q = S_wordhoardref_CheckWorld a0 Q H := by kernel_rfl
theorem tri_wordhoardref_CheckWorld {a0 : AV} {H : AH} {Q : AV → AH → Prop} (h : S_wordhoardref_CheckWorld a0 Q H) : Tri Try.prog 8 [a0] H Q :=
  tri_of (Ms := [#[], #[], #[], #[], #[], #[], #[], #[], #[]]) mixed Try.func8 rfl (by kernel_rfl) (by kernel_rfl) rfl (of_decide_eq_true rfl : 1 ≤ 25) ((eq_wordhoardref_CheckWorld a0 Q H).symm ▸ h : FnA Try.prog 25 (regsF Try.f8) ac_wordhoardref_CheckWorld [.tm 2] [a0] H Q)

/-! wordhoard/wordhoardref.CheckClaim -/
def ac_wordhoardref_CheckClaim : AC := (.seq (.reg 0) (.seq (.seq (.reg 1) (.cond (.tmp 30) (.seq (.reg 2) .ret) .skip)) (.seq (.reg 3) .ret)))
def S_wordhoardref_CheckClaim (a0 : AV) (Q : AV → AH → Prop) (H : AH) : Prop := (
    Rg 2 fun b =>
    Al (b + 0) (.bx 24) [a0] fun v1 =>
    Pu Try.prog (.addOff 1) [v1] fun v3 =>
    RdS Try.prog (.ld 1 false) [v3] fun v4 =>
    Pu Try.prog (.bin .eql 3) [v4, (.p (.int .i64 0))] fun v5 =>
    Gd v5 false (fun k => Pu Try.prog (.addOff 1) [v1] k) fun v7 =>
    Gd v5 false (fun k_9 => RdS Try.prog (.ld 1 false) [v7] k_9) fun v8 =>
    Gd v5 false (fun k_11 => Pu Try.prog (.bin .lss 3) [v8, (.p (.int .i64 (-6)))] k_11) fun v9 =>
    Pu Try.prog .pick [v5, (.p (.bool true)), v9] fun v10 =>
    Gd v10 false (fun k_14 => Pu Try.prog (.addOff 1) [v1] k_14) fun v12 =>
    Gd v10 false (fun k_16 => RdS Try.prog (.ld 1 false) [v12] k_16) fun v13 =>
    Gd v10 false (fun k_18 => Pu Try.prog (.bin .gtr 3) [v13, (.p (.int .i64 6))] k_18) fun v14 =>
    Pu Try.prog .pick [v10, (.p (.bool true)), v14] fun v15 =>
    Gd v15 false (fun k_21 => Pu Try.prog (.addOff 2) [v1] k_21) fun v17 =>
    Gd v15 false (fun k_23 => RdS Try.prog (.ld 1 false) [v17] k_23) fun v18 =>
    Gd v15 false (fun k_25 => Pu Try.prog (.bin .eql 3) [v18, (.p (.int .i64 0))] k_25) fun v19 =>
    Pu Try.prog .pick [v15, (.p (.bool true)), v19] fun v20 =>
    Gd v20 false (fun k_28 => Pu Try.prog (.addOff 2) [v1] k_28) fun v22 =>
    Gd v20 false (fun k_30 => RdS Try.prog (.ld 1 false) [v22] k_30) fun v23 =>
    Gd v20 false (fun k_32 => Pu Try.prog (.bin .lss 3) [v23, (.p (.int .i64 (-6)))] k_32) fun v24 =>
    Pu Try.prog .pick [v20, (.p (.bool true)), v24] fun v25 =>
    Gd v25 false (fun k_35 => Pu Try.prog (.addOff 2) [v1] k_35) fun v27 =>
    Gd v25 false (fun k_37 => RdS Try.prog (.ld 1 false) [v27] k_37) fun v28 =>
    Gd v25 false (fun k_39 => Pu Try.prog (.bin .gtr 3) [v28, (.p (.int .i64 6))] k_39) fun v29 =>
    Pu Try.prog .pick [v25, (.p (.bool true)), v29] fun v30 =>
    CdA v30
      (
      Rt Try.prog H.nx (.p (.int .i64 3)) Q
      ) (
      Rt Try.prog H.nx (.p (.int .i64 0)) Q
      )
    ) H
theorem eq_wordhoardref_CheckClaim (a0 : AV) (Q : AV → AH → Prop) (H : AH) : FnA Try.prog 31 (regsF Try.f9) ac_wordhoardref_CheckClaim [.tm 2] [a0] H Q = S_wordhoardref_CheckClaim a0 Q H := by kernel_rfl
theorem tri_wordhoardref_CheckClaim {a0 : AV} {H : AH} {Q : AV → AH → Prop} (h : S_wordhoardref_CheckClaim a0 Q H) : Tri Try.prog 9 [a0] H Q :=
  tri_of (Ms := [#[], #[], #[], #[]]) mixed Try.func9 rfl (by kernel_rfl) (by kernel_rfl) rfl (of_decide_eq_true rfl : 1 ≤ 31) ((eq_wordhoardref_CheckClaim a0 Q H).symm ▸ h : FnA Try.prog 31 (regsF Try.f9) ac_wordhoardref_CheckClaim [.tm 2] [a0] H Q)

/-! wordhoard/wordhoardref.HoldsIn -/
def ac_wordhoardref_HoldsIn : AC := (.seq (.reg 0) (.seq (.seq (.reg 1) (.block 0 (.loop [5] [(4, 5), (6, 33)] (.seq (.seq (.reg 2) (.cond (.tmp 9) .skip (.exit 0))) (.seq (.block 1 (.seq (.reg 3) (.cond (.tmp 30) (.seq (.reg 4) .ret) .skip))) (.reg 5)))))) (.seq (.reg 6) .ret)))
def S_wordhoardref_HoldsIn (a0 a1 : AV) (Q : AV → AH → Prop) (H : AH) : Prop := (
    Rg 2 fun b =>
    Al (b + 0) (.bx 24) [a1] fun v3 =>
    LoopA Try.prog 1 (fun vs k =>
      Pu Try.prog .len [a0] fun v8 =>
      Pu Try.prog (.bin .lss 3) [(vs.getD 0 .any), v8] fun v9 =>
      CdA v9
        (
        Vw fun V =>
        Pu Try.prog (.idx 1) [a0, (vs.getD 0 .any)] fun v14 =>
        Rd Try.prog V (.ld 1 false) [v14] fun v15 =>
        Pu Try.prog (.addOff 1) [v3] fun v16 =>
        Rd Try.prog V (.ld 1 false) [v16] fun v17 =>
        CaV Try.prog V (.fn (.func 23) [] []) [v15, v17] fun v18 =>
        GdV v18 true (fun k_14 => k_14 a0 V) V fun v20 V_15 =>
        GdV v18 true (fun k_17 => k_17 (vs.getD 0 .any) V_15) V_15 fun v21 V_18 =>
        GdV v18 true (fun k_20 => Pu Try.prog (.idx 1) [v20, v21] (fun a => k_20 a V_18)) V_18 fun v22 V_21 =>
        GdV v18 true (fun k_23 => Rd Try.prog V_21 (.ld 1 false) [v22] (fun a => k_23 a V_21)) V_21 fun v23 V_24 =>
        GdV v18 true (fun k_26 => Pu Try.prog (.addOff 2) [v3] (fun a => k_26 a V_24)) V_24 fun v24 V_27 =>
        GdV v18 true (fun k_29 => Rd Try.prog V_27 (.ld 1 false) [v24] (fun a => k_29 a V_27)) V_27 fun v25 V_30 =>
        GdV v18 true (fun k_32 => CaV Try.prog V_30 (.fn (.func 23) [] []) [v23, v25] (fun a => k_32 a V_30)) V_30 fun v26 V_33 =>
        GdV v18 true (fun k_35 => Pu Try.prog (.addOff 0) [v3] (fun a => k_35 a V_33)) V_33 fun v27 V_36 =>
        GdV v18 true (fun k_38 => Rd Try.prog V_36 (.ld 1 false) [v27] (fun a => k_38 a V_36)) V_36 fun v28 V_39 =>
        GdV v18 true (fun k_41 => Pu Try.prog (.bin .eql 4) [v26, v28] (fun a => k_41 a V_39)) V_39 fun v29 _ =>
        Pu Try.prog .pick [v18, v29, (.p (.bool false))] fun v30 =>
        CdA v30
          (
          Pu Try.prog (.addOff 0) [v3] fun v31 =>
          RdS Try.prog (.ld 1 false) [v31] fun v32 =>
          Rt Try.prog H.nx v32 Q
          ) (
          Pu Try.prog (.bin .add 3) [(vs.getD 0 .any), (.p (.int .i64 1))] fun v11 =>
          k [v11]
          )
        ) (
        Pu Try.prog (.addOff 0) [v3] fun v33 =>
        RdS Try.prog (.ld 1 false) [v33] fun v34 =>
        Pu Try.prog (.un .not) [v34] fun v35 =>
        Rt Try.prog H.nx v35 Q
        )
      ) [(.p (.int .i64 0))]
    ) H
theorem eq_wordhoardref_HoldsIn (a0 a1 : AV) (Q : AV → AH → Prop) (H : AH) : FnA Try.prog 36 (regsF Try.f12) ac_wordhoardref_HoldsIn [.tm 4] [a0, a1] H Q = S_wordhoardref_HoldsIn a0 a1 Q H := by kernel_rfl
theorem tri_wordhoardref_HoldsIn {a0 a1 : AV} {H : AH} {Q : AV → AH → Prop} (h : S_wordhoardref_HoldsIn a0 a1 Q H) : Tri Try.prog 12 [a0, a1] H Q :=
  tri_of (Ms := [#[], #[], #[], #[0, 0, 3, 7, 0, 16, 63, 127, 255, 255, 1023, 2047, 255, 4351, 16383, 255, 33023, 131071, 262143], #[], #[], #[]]) mixed Try.func12 rfl (by kernel_rfl) (by kernel_rfl) rfl (of_decide_eq_true rfl : 2 ≤ 36) ((eq_wordhoardref_HoldsIn a0 a1 Q H).symm ▸ h : FnA Try.prog 36 (regsF Try.f12) ac_wordhoardref_HoldsIn [.tm 4] [a0, a1] H Q)

/-! wordhoard/wordhoardref.CheckClaims -/
def ac_wordhoardref_CheckClaims : AC := (.seq (.reg 0) (.seq (.seq (.reg 1) (.cond (.tmp 10) (.seq (.reg 2) .ret) .skip)) (.seq (.reg 3) (.seq (.seq (.reg 4) (.block 0 (.loop [6] [(4, 5), (7, 8), (16, 30)] (.seq (.seq (.reg 5) (.cond (.tmp 19) .skip (.exit 0))) (.seq (.block 1 (.seq (.reg 6) (.seq (.reg 7) (.cond (.tmp 28) (.seq (.reg 8) .ret) .skip)))) (.reg 9)))))) (.seq (.reg 10) .ret)))))
def S_wordhoardref_CheckClaims (a0 a1 : AV) (Q : AV → AH → Prop) (H : AH) : Prop := (
    Pu Try.prog .len [a0] fun v9 =>
    Pu Try.prog (.bin .gtr 3) [v9, (.p (.int .i64 20))] fun v10 =>
    CdA v10
      (
      Rt Try.prog H.nx (.p (.int .i64 7)) Q
      ) (
      Rg 6 fun b =>
      Al (b + 0) (.bs 24 3 0 [.p (.bool false), .p (.int .i64 0), .p (.int .i64 0)] []) [] fun v11 =>
      WrS Try.prog (b + 2) (.app 24 3 24) [v11, a0] fun v13 =>
      WrS Try.prog (b + 4) (.app 24 3 24) [v13, a1] fun v15 =>
      LoopA Try.prog 1 (fun vs k =>
        Pu Try.prog .len [v15] fun v18 =>
        Pu Try.prog (.bin .lss 3) [(vs.getD 0 .any), v18] fun v19 =>
        CdA v19
          (
          Pu Try.prog (.idx 3) [v15, (vs.getD 0 .any)] fun v24 =>
          RdS Try.prog (.ld 3 true) [v24] fun v25 =>
          Ca Try.prog (.fn (.func 9) [] []) [v25] fun v26 =>
          Pu Try.prog (.bin .neq 25) [v26, (.p (.int .i64 0))] fun v28 =>
          CdA v28
            (
            Rt Try.prog H.nx v26 Q
            ) (
            Pu Try.prog (.bin .add 3) [(vs.getD 0 .any), (.p (.int .i64 1))] fun v21 =>
            k [v21]
            )
          ) (
          Rt Try.prog H.nx (.p (.int .i64 0)) Q
          )
        ) [(.p (.int .i64 0))]
      )
    ) H
theorem eq_wordhoardref_CheckClaims (a0 a1 : AV) (Q : AV → AH → Prop) (H : AH) : FnA Try.prog 30 (regsF Try.f14) ac_wordhoardref_CheckClaims [.tm 4] [a0, a1] H Q = S_wordhoardref_CheckClaims a0 a1 Q H := by kernel_rfl
theorem tri_wordhoardref_CheckClaims {a0 a1 : AV} {H : AH} {Q : AV → AH → Prop} (h : S_wordhoardref_CheckClaims a0 a1 Q H) : Tri Try.prog 14 [a0, a1] H Q :=
  tri_of (Ms := [#[], #[], #[], #[], #[], #[], #[], #[], #[], #[], #[]]) mixed Try.func14 rfl (by kernel_rfl) (by kernel_rfl) rfl (of_decide_eq_true rfl : 2 ≤ 30) ((eq_wordhoardref_CheckClaims a0 a1 Q H).symm ▸ h : FnA Try.prog 30 (regsF Try.f14) ac_wordhoardref_CheckClaims [.tm 4] [a0, a1] H Q)

/-! wordhoard/wordhoardref.Is -/
def ac_wordhoardref_Is : AC := (.seq (.reg 0) (.seq (.reg 1) (.cut [5] [(8, 12)] (.seq (.reg 2) (.cond (.tmp 9) (.reg 3) .skip)) (.seq (.seq (.reg 4) (.block 0 (.loop [0, 6] [(12, 19)] (.seq (.seq (.reg 5) (.cond (.tmp 14) .skip (.exit 0))) (.seq (.block 1 (.reg 6)) (.reg 7)))))) (.seq (.reg 8) .ret)))))
def S_wordhoardref_Is (a0 a1 : AV) (Q : AV → AH → Prop) (H : AH) : Prop := (
    CutA Try.prog 1 (fun k =>
      Pu Try.prog (.bin .lss 3) [a1, (.p (.int .i64 0))] fun v9 =>
      CdA v9
        (
        Pu Try.prog (.un .neg) [a1] fun v11 =>
        k [v11]
        ) (
        k [a1]
        )
      ) fun vs =>
    LoopA Try.prog 2 (fun vs_6 k_5 =>
      Pu Try.prog (.bin .lss 3) [(vs_6.getD 1 .any), (vs.getD 0 .any)] fun v14 =>
      CdA v14
        (
        Pu Try.prog (.bin .quo 3) [(vs_6.getD 0 .any), (.p (.int .i64 2))] fun v18 =>
        Pu Try.prog (.bin .add 3) [(vs_6.getD 1 .any), (.p (.int .i64 1))] fun v16 =>
        k_5 [v18, v16]
        ) (
        Pu Try.prog (.bin .rem 3) [(vs_6.getD 0 .any), (.p (.int .i64 2))] fun v20 =>
        Pu Try.prog (.bin .eql 3) [v20, (.p (.int .i64 1))] fun v21 =>
        Pu Try.prog (.bin .gtr 3) [a1, (.p (.int .i64 0))] fun v23 =>
        Pu Try.prog (.bin .eql 4) [v21, v23] fun v24 =>
        Rt Try.prog H.nx v24 Q
        )
      ) [a0, (.p (.int .i64 1))]
    ) H
theorem eq_wordhoardref_Is (a0 a1 : AV) (Q : AV → AH → Prop) (H : AH) : FnA Try.prog 25 (regsF Try.f23) ac_wordhoardref_Is [.tm 4] [a0, a1] H Q = S_wordhoardref_Is a0 a1 Q H := by kernel_rfl
theorem tri_wordhoardref_Is {a0 a1 : AV} {H : AH} {Q : AV → AH → Prop} (h : S_wordhoardref_Is a0 a1 Q H) : Tri Try.prog 23 [a0, a1] H Q :=
  tri_of (Ms := [#[], #[], #[], #[], #[], #[], #[], #[], #[]]) mixed Try.func23 rfl (by kernel_rfl) (by kernel_rfl) rfl (of_decide_eq_true rfl : 2 ≤ 25) ((eq_wordhoardref_Is a0 a1 Q H).symm ▸ h : FnA Try.prog 25 (regsF Try.f23) ac_wordhoardref_Is [.tm 4] [a0, a1] H Q)
end Go.Proofs.Ytcmnjoepadjioaa

/- What follows, plainly: claims, worlds, what follows from what comes of what; what has no argument has a world against it. No program in sight. -/
namespace Go.Proofs.Ytcmnjoepadjioaa
open Go.RowKit

structure Clm where
  so : Bool
  a : Int
  b : Int
theorem clm_ext {x y : Clm} (h1 : x.so = y.so) (h2 : x.a = y.a) (h3 : x.b = y.b) : x = y := by cases x; cases y; simp_all
instance : DecidableEq Clm := fun x y => if h : x.so = y.so ∧ x.a = y.a ∧ x.b = y.b then isTrue (clm_ext h.1 h.2.1 h.2.2) else isFalse (fun e => h (by subst e; exact ⟨rfl, rfl, rfl⟩))
def litOk (x : Int) : Prop := x ≠ 0 ∧ -6 ≤ x ∧ x ≤ 6
instance (x : Int) : Decidable (litOk x) := by unfold litOk; infer_instance
def Clm.ok (c : Clm) : Prop := litOk c.a ∧ litOk c.b
instance (c : Clm) : Decidable c.ok := by unfold Clm.ok; infer_instance
/-- is an individual what a literal says? -/
def isL (w : Nat) (x : Int) : Bool := if x < 0 then !w.testBit ((-x).toNat - 1) else w.testBit (x.toNat - 1)
theorem isL_neg {w : Nat} {x : Int} (h : litOk x) : isL w (-x) = !isL w x := by
  unfold isL
  unfold litOk at h
  by_cases hx : x < 0
  · rw [if_pos hx, if_neg (by omega)]; simp
  · rw [if_neg hx, if_pos (by omega)]; simp
/-- does a claim hold of one? -/
def holds1 (w : Nat) (c : Clm) : Bool := isL w c.a && (isL w c.b == c.so)
def holdsC (l : List Nat) (c : Clm) : Bool := l.any (fun w => holds1 w c) == c.so
theorem holdsC_all {l : List Nat} {a b : Int} : holdsC l ⟨false, a, b⟩ = true ↔ ∀ w ∈ l, isL w a = true → isL w b = true := by
  unfold holdsC holds1
  simp only [beq_false, Bool.not_eq_true']
  rw [List.any_eq_false]
  constructor
  · intro h w hw ha
    have := h w hw
    simp only [ha, Bool.true_and] at this
    simpa using this
  · intro h w hw
    have := h w hw
    cases ha : isL w a <;> simp_all
theorem holdsC_some {l : List Nat} {a b : Int} : holdsC l ⟨true, a, b⟩ = true ↔ ∃ w ∈ l, isL w a = true ∧ isL w b = true := by
  unfold holdsC holds1
  simp [List.any_eq_true]

section
variable (le : Int → Int → Prop)
structure Order : Prop where
  refl : ∀ x, litOk x → le x x
  trans : ∀ x y z, le x y → le y z → le x z
  contra : ∀ x y, le x y → le (-y) (-x)
  void : ∀ x y, le x (-x) → litOk y → le x y
  ok : ∀ x y, le x y → litOk x ∧ litOk y
structure Part1 (U : Int → Prop) : Prop where
  up : ∀ x y, U x → le x y → U y
  one : ∀ x, U x → ¬ U (-x)
  ok : ∀ x, U x → litOk x
variable {le}
theorem lit_neg {x : Int} (h : litOk x) : litOk (-x) := by unfold litOk at h ⊢; omega
theorem Part1.add {U : Int → Prop} (O : Order le) (h : Part1 le U) {n : Int} (_hn : litOk n) (h1 : ¬ U (-n)) (h2 : ¬ le n (-n)) : Part1 le (fun x => U x ∨ le n x) where
  up x y hx hl := by
    rcases hx with hx | hx
    · exact Or.inl (h.up x y hx hl)
    · exact Or.inr (O.trans _ _ _ hx hl)
  one x hx hx' := by
    rcases hx with hx | hx <;> rcases hx' with hx' | hx'
    · exact h.one x hx hx'
    · have := O.contra _ _ hx'
      rw [Int.neg_neg] at this
      exact h1 (h.up _ _ hx this)
    · have := O.contra _ _ hx
      exact h1 (h.up _ _ hx' this)
    · have := O.contra _ _ hx'
      rw [Int.neg_neg] at this
      exact h2 (O.trans _ _ _ hx this)
  ok x hx := by
    rcases hx with hx | hx
    · exact h.ok x hx
    · exact (O.ok _ _ hx).2
theorem Part1.settle {U : Int → Prop} (O : Order le) (h : Part1 le U) (hne : ∃ x, U x) {n : Int} (hn : litOk n) : ∃ U', Part1 le U' ∧ (∀ x, U x → U' x) ∧ (U' n ∨ U' (-n)) := by
  by_cases h1 : U n
  · exact ⟨U, h, fun _ h => h, Or.inl h1⟩
  · by_cases h2 : U (-n)
    · exact ⟨U, h, fun _ h => h, Or.inr h2⟩
    · have hm : litOk (-n) := lit_neg hn
      by_cases h3 : le n (-n)
      · refine ⟨_, h.add O hm (by rw [Int.neg_neg]; exact h1) (fun h4 => ?_), fun _ hx => Or.inl hx, Or.inr (Or.inr (O.refl _ hm))⟩
        -- all is under both
        rw [Int.neg_neg] at h4
        obtain ⟨x, hx⟩ := hne
        have hxo := h.ok x hx
        have h5 := O.contra _ _ (O.void (-n) (-x) (by rw [Int.neg_neg]; exact h4) (lit_neg hxo))
        rw [Int.neg_neg, Int.neg_neg] at h5
        exact h1 (h.up _ _ hx h5)
      · exact ⟨_, h.add O hn h2 h3, fun _ hx => Or.inl hx, Or.inl (Or.inr (O.refl _ hn))⟩
theorem Part1.all {U : Int → Prop} (O : Order le) (h : Part1 le U) (hne : ∃ x, U x) : ∃ U', Part1 le U' ∧ (∀ x, U x → U' x) ∧ ∀ n, litOk n → U' n ∨ U' (-n) := by
  have ne : ∀ {V : Int → Prop}, (∀ x, U x → V x) → ∃ x, V x := fun hv => by obtain ⟨x, hx⟩ := hne; exact ⟨x, hv x hx⟩
  obtain ⟨U1, p1, s1, d1⟩ := h.settle O hne (n := 1) (by decide)
  obtain ⟨U2, p2, s2, d2⟩ := p1.settle O (ne s1) (n := 2) (by decide)
  have t2 : ∀ x, U x → U2 x := fun x hx => s2 x (s1 x hx)
  obtain ⟨U3, p3, s3, d3⟩ := p2.settle O (ne t2) (n := 3) (by decide)
  have t3 : ∀ x, U x → U3 x := fun x hx => s3 x (t2 x hx)
  obtain ⟨U4, p4, s4, d4⟩ := p3.settle O (ne t3) (n := 4) (by decide)
  have t4 : ∀ x, U x → U4 x := fun x hx => s4 x (t3 x hx)
  obtain ⟨U5, p5, s5, d5⟩ := p4.settle O (ne t4) (n := 5) (by decide)
  have t5 : ∀ x, U x → U5 x := fun x hx => s5 x (t4 x hx)
  obtain ⟨U6, p6, s6, d6⟩ := p5.settle O (ne t5) (n := 6) (by decide)
  refine ⟨U6, p6, fun x hx => s6 x (t5 x hx), ?_⟩
  have e1 : U6 1 ∨ U6 (-1) := d1.imp (fun h => s6 _ (s5 _ (s4 _ (s3 _ (s2 _ h))))) (fun h => s6 _ (s5 _ (s4 _ (s3 _ (s2 _ h)))))
  have e2 : U6 2 ∨ U6 (-2) := d2.imp (fun h => s6 _ (s5 _ (s4 _ (s3 _ h)))) (fun h => s6 _ (s5 _ (s4 _ (s3 _ h))))
  have e3 : U6 3 ∨ U6 (-3) := d3.imp (fun h => s6 _ (s5 _ (s4 _ h))) (fun h => s6 _ (s5 _ (s4 _ h)))
  have e4 : U6 4 ∨ U6 (-4) := d4.imp (fun h => s6 _ (s5 _ h)) (fun h => s6 _ (s5 _ h))
  have e5 : U6 5 ∨ U6 (-5) := d5.imp (fun h => s6 _ h) (fun h => s6 _ h)
  intro n hn
  unfold litOk at hn
  have : n = 1 ∨ n = 2 ∨ n = 3 ∨ n = 4 ∨ n = 5 ∨ n = 6 ∨ n = -1 ∨ n = -2 ∨ n = -3 ∨ n = -4 ∨ n = -5 ∨ n = -6 := by omega
  rcases this with rfl | rfl | rfl | rfl | rfl | rfl | rfl | rfl | rfl | rfl | rfl | rfl
  · exact e1
  · exact e2
  · exact e3
  · exact e4
  · exact e5
  · exact d6
  · exact e1.symm
  · exact e2.symm
  · exact e3.symm
  · exact e4.symm
  · exact e5.symm
  · exact d6.symm
theorem some_world (b1 b2 b3 b4 b5 b6 : Bool) : ∃ w, w < 64 ∧ Nat.testBit w 0 = b1 ∧ Nat.testBit w 1 = b2 ∧ Nat.testBit w 2 = b3 ∧ Nat.testBit w 3 = b4 ∧ Nat.testBit w 4 = b5 ∧ Nat.testBit w 5 = b6 := by
  refine ⟨b1.toNat + 2 * b2.toNat + 4 * b3.toNat + 8 * b4.toNat + 16 * b5.toNat + 32 * b6.toNat, ?_⟩
  cases b1 <;> cases b2 <;> cases b3 <;> cases b4 <;> cases b5 <;> cases b6 <;> decide
/-- all that goes together is somebody -/
theorem Part1.who {U : Int → Prop} (O : Order le) (h : Part1 le U) (hne : ∃ x, U x) : ∃ w, w < 64 ∧ (∀ x, U x → isL w x = true) ∧ ∀ x y, le x y → isL w x = true → isL w y = true := by
  classical
  obtain ⟨V, p, s, d⟩ := h.all O hne
  obtain ⟨w, hw, b1, b2, b3, b4, b5, b6⟩ := some_world (decide (V 1)) (decide (V 2)) (decide (V 3)) (decide (V 4)) (decide (V 5)) (decide (V 6))
  have key : ∀ x, litOk x → (isL w x = true ↔ V x) := by
    have pos : ∀ n : Int, (n = 1 ∨ n = 2 ∨ n = 3 ∨ n = 4 ∨ n = 5 ∨ n = 6) → (isL w n = true ↔ V n) := by
      intro n hn
      rcases hn with rfl | rfl | rfl | rfl | rfl | rfl
      · show Nat.testBit w 0 = true ↔ _; rw [b1]; simp
      · show Nat.testBit w 1 = true ↔ _; rw [b2]; simp
      · show Nat.testBit w 2 = true ↔ _; rw [b3]; simp
      · show Nat.testBit w 3 = true ↔ _; rw [b4]; simp
      · show Nat.testBit w 4 = true ↔ _; rw [b5]; simp
      · show Nat.testBit w 5 = true ↔ _; rw [b6]; simp
    intro x hx
    by_cases hp : 0 < x
    · exact pos x (by unfold litOk at hx; omega)
    · have hn := pos (-x) (by unfold litOk at hx; omega)
      have e := isL_neg (w := w) (x := -x) (lit_neg hx)
      rw [Int.neg_neg] at e
      rw [e]
      constructor
      · intro h'
        rcases d x hx with h1 | h1
        · exact h1
        · rw [hn.2 h1] at h'; cases h'
      · intro h'
        cases hc : isL w (-x) with
        | false => rfl
        | true => exact absurd (hn.1 hc) (p.one x h')
  refine ⟨w, hw, fun x hx => (key x (h.ok x hx)).2 (s x hx), fun x y hl hx => ?_⟩
  obtain ⟨ox, oy⟩ := O.ok x y hl
  exact (key y oy).2 (p.up x y ((key x ox).1 hx) hl)
/-- two literals that go together -/
theorem two_who (O : Order le) {a b : Int} (ha : litOk a) (hb : litOk b) (h : ¬ le a (-b)) : ∃ w, w < 64 ∧ isL w a = true ∧ isL w b = true ∧ ∀ x y, le x y → isL w x = true → isL w y = true := by
  by_cases h1 : le a (-a)
  · exact absurd (O.void a (-b) h1 (lit_neg hb)) h
  · by_cases h2 : le b (-b)
    · have := O.contra _ _ (O.void b (-a) h2 (lit_neg ha))
      rw [Int.neg_neg] at this
      exact absurd this h
    · have p0 : Part1 le (fun x => le a x) := ⟨fun x y hx hl => O.trans _ _ _ hx hl, fun x hx hx' => h1 (by
          have := O.contra _ _ hx'
          rw [Int.neg_neg] at this
          exact O.trans _ _ _ hx this), fun x hx => (O.ok _ _ hx).2⟩
      have p1 := p0.add O hb h h2
      obtain ⟨w, hw, h3, h4⟩ := p1.who O ⟨a, Or.inl (O.refl a ha)⟩
      exact ⟨w, hw, h3 a (Or.inl (O.refl a ha)), h3 b (Or.inr (O.refl b hb)), h4⟩
/-- three -/
theorem three_who (O : Order le) {a b c : Int} (ha : litOk a) (hb : litOk b) (hc : litOk c) (h : ¬ le a (-b)) (h2 : ¬ le a (-c)) (h3 : ¬ le b (-c)) (h4 : ¬ le c (-c)) : ∃ w, w < 64 ∧ isL w a = true ∧ isL w b = true ∧ isL w c = true ∧ ∀ x y, le x y → isL w x = true → isL w y = true := by
  have h1 : ¬ le a (-a) := fun h1 => h (O.void a (-b) h1 (lit_neg hb))
  have hb1 : ¬ le b (-b) := fun h1 => h (by
    have := O.contra _ _ (O.void b (-a) h1 (lit_neg ha))
    rw [Int.neg_neg] at this
    exact this)
  have p0 : Part1 le (fun x => le a x) := ⟨fun x y hx hl => O.trans _ _ _ hx hl, fun x hx hx' => h1 (by
      have := O.contra _ _ hx'
      rw [Int.neg_neg] at this
      exact O.trans _ _ _ hx this), fun x hx => (O.ok _ _ hx).2⟩
  have p1 := p0.add O hb h hb1
  have p2 := p1.add O hc (fun hx => hx.elim h2 h3) h4
  obtain ⟨w, hw, q, r⟩ := p2.who O ⟨a, Or.inl (Or.inl (O.refl a ha))⟩
  exact ⟨w, hw, q a (Or.inl (Or.inl (O.refl a ha))), q b (Or.inl (Or.inr (O.refl b hb))), q c (Or.inr (O.refl c hc)), r⟩
end
end Go.Proofs.Ytcmnjoepadjioaa

/- What follows, plainly: lines and whether they are right; what is argued for follows; what has no argument, when all has come of all, has a world against it. No program in sight. -/
namespace Go.Proofs.Ytcmnjoepadjioaa

structure Lin where
  rule : Int
  c : Clm
  src : List Int
/-- what a line's numbers name -/
def pickC (l : List Clm) (n : Nat) : List Int → Option (List Clm)
  | [] => some []
  | k :: r => if 0 ≤ k ∧ k < n then (match l[k.toNat]?, pickC l n r with
    | some c, some cs => some (c :: cs)
    | _, _ => none) else none
def ruleB (rule : Int) (c : Clm) (of : List Clm) : Bool :=
  if rule = 1 then of == [c]
  else if rule = 2 then of.isEmpty && !c.so && c.a == c.b
  else if rule = 3 then (match of with
    | [p, q] => !p.so && !q.so && !c.so && p.b == q.a && c.a == p.a && c.b == q.b
    | _ => false)
  else if rule = 4 then (match of with
    | [p] => !p.so && !c.so && c.a == -p.b && c.b == -p.a
    | _ => false)
  else if rule = 5 then (match of with
    | [p] => !p.so && p.b == -p.a && !c.so && c.a == p.a
    | _ => false)
  else if rule = 6 then (match of with
    | [p] => !p.so && p.a == -p.b && !c.so && c.b == p.b
    | _ => false)
  else if rule = 7 then (match of with
    | [p] => p.so && c.so && c.a == p.b && c.b == p.a
    | _ => false)
  else if rule = 8 then (match of with
    | [p] => p.so && c.so && c.a == p.a && c.b == p.a
    | _ => false)
  else if rule = 9 then (match of with
    | [p, q] => p.so && !q.so && c.so && p.b == q.a && c.a == p.a && c.b == q.b
    | _ => false)
  else if rule = 10 then (match of with
    | [p, q] => !p.so && q.so && q.a == p.a && q.b == -p.b
    | _ => false)
  else false
/-- is a line, of which so many stand ahead, right? -/
def rightB (prem : List Clm) (cs : List Clm) (n : Nat) (x : Lin) : Bool :=
  match (if x.rule = 1 then pickC prem prem.length x.src else pickC cs n x.src) with
  | some of => ruleB x.rule x.c of
  | none => false
/-- premises hold, so what comes of them does -/
def allHold (W : List Nat) (prem : List Clm) : Prop := ∀ p ∈ prem, holdsC W p = true
theorem clm_eta (c : Clm) : c = ⟨c.so, c.a, c.b⟩ := rfl
theorem holds_all {W : List Nat} {c : Clm} (h : c.so = false) : holdsC W c = true ↔ ∀ w ∈ W, isL w c.a = true → isL w c.b = true := by
  obtain ⟨s, a, b⟩ := c; simp only at h; subst h; exact holdsC_all
theorem holds_some {W : List Nat} {c : Clm} (h : c.so = true) : holdsC W c = true ↔ ∃ w ∈ W, isL w c.a = true ∧ isL w c.b = true := by
  obtain ⟨s, a, b⟩ := c; simp only at h; subst h; exact holdsC_some
theorem rule_holds {W : List Nat} {rule : Int} {c : Clm} {of : List Clm} (h : ruleB rule c of = true) (hof : ∀ p ∈ of, holdsC W p = true) (hok : ∀ p ∈ of, p.ok) : holdsC W c = true := by
  unfold ruleB at h
  by_cases r1 : rule = 1
  · rw [if_pos r1] at h
    have h := eq_of_beq h
    subst h; exact hof c (by simp)
  rw [if_neg r1] at h
  by_cases r2 : rule = 2
  · rw [if_pos r2] at h
    simp only [Bool.and_eq_true, Bool.not_eq_true', beq_iff_eq] at h
    rw [holds_all h.1.2]
    intro w _ ha; rw [← h.2]; exact ha
  rw [if_neg r2] at h
  by_cases r3 : rule = 3
  · rw [if_pos r3] at h
    match of, h, hof with
    | [p, q], h, hof =>
      simp only [Bool.and_eq_true, Bool.not_eq_true', beq_iff_eq] at h
      obtain ⟨⟨⟨⟨⟨h1, h2⟩, h3⟩, h4⟩, h5⟩, h6⟩ := h
      rw [holds_all h3]
      have hp := (holds_all h1).1 (hof p (by simp))
      have hq := (holds_all h2).1 (hof q (by simp))
      intro w hw ha
      rw [h6]; refine hq w hw ?_; rw [← h4]; refine hp w hw ?_; rw [← h5]; exact ha
  rw [if_neg r3] at h
  by_cases r4 : rule = 4
  · rw [if_pos r4] at h
    match of, h, hof, hok with
    | [p], h, hof, hok =>
      simp only [Bool.and_eq_true, Bool.not_eq_true', beq_iff_eq] at h
      obtain ⟨⟨⟨h1, h2⟩, h3⟩, h4⟩ := h
      rw [holds_all h2]
      have hp := (holds_all h1).1 (hof p (by simp))
      have ho := hok p (by simp)
      intro w hw ha
      rw [h3, isL_neg ho.2] at ha
      rw [h4, isL_neg ho.1]
      cases hc : isL w p.a with
      | false => rfl
      | true => rw [hp w hw hc] at ha; cases ha
  rw [if_neg r4] at h
  by_cases r5 : rule = 5
  · rw [if_pos r5] at h
    match of, h, hof, hok with
    | [p], h, hof, hok =>
      simp only [Bool.and_eq_true, Bool.not_eq_true', beq_iff_eq] at h
      obtain ⟨⟨⟨h1, h2⟩, h3⟩, h4⟩ := h
      rw [holds_all h3]
      have hp := (holds_all h1).1 (hof p (by simp))
      have ho := hok p (by simp)
      intro w hw ha
      rw [h4] at ha
      have := hp w hw ha
      rw [h2, isL_neg ho.1, ha] at this
      cases this
  rw [if_neg r5] at h
  by_cases r6 : rule = 6
  · rw [if_pos r6] at h
    match of, h, hof, hok with
    | [p], h, hof, hok =>
      simp only [Bool.and_eq_true, Bool.not_eq_true', beq_iff_eq] at h
      obtain ⟨⟨⟨h1, h2⟩, h3⟩, h4⟩ := h
      rw [holds_all h3]
      have hp := (holds_all h1).1 (hof p (by simp))
      have ho := hok p (by simp)
      intro w hw _
      rw [h4]
      cases hc : isL w p.b with
      | true => rfl
      | false =>
        have := hp w hw (by rw [h2, isL_neg ho.2, hc]; rfl)
        rw [hc] at this; cases this
  rw [if_neg r6] at h
  by_cases r7 : rule = 7
  · rw [if_pos r7] at h
    match of, h, hof with
    | [p], h, hof =>
      simp only [Bool.and_eq_true, beq_iff_eq] at h
      obtain ⟨⟨⟨h1, h2⟩, h3⟩, h4⟩ := h
      obtain ⟨w, hw, q1, q2⟩ := (holds_some h1).1 (hof p (by simp))
      rw [holds_some h2, h3, h4]
      exact ⟨w, hw, q2, q1⟩
  rw [if_neg r7] at h
  by_cases r8 : rule = 8
  · rw [if_pos r8] at h
    match of, h, hof with
    | [p], h, hof =>
      simp only [Bool.and_eq_true, beq_iff_eq] at h
      obtain ⟨⟨⟨h1, h2⟩, h3⟩, h4⟩ := h
      obtain ⟨w, hw, q1, q2⟩ := (holds_some h1).1 (hof p (by simp))
      rw [holds_some h2, h3, h4]
      exact ⟨w, hw, q1, q1⟩
  rw [if_neg r8] at h
  by_cases r9 : rule = 9
  · rw [if_pos r9] at h
    match of, h, hof with
    | [p, q], h, hof =>
      simp only [Bool.and_eq_true, Bool.not_eq_true', beq_iff_eq] at h
      obtain ⟨⟨⟨⟨⟨h1, h2⟩, h3⟩, h4⟩, h5⟩, h6⟩ := h
      obtain ⟨w, hw, q1, q2⟩ := (holds_some h1).1 (hof p (by simp))
      have hq := (holds_all h2).1 (hof q (by simp))
      rw [holds_some h3, h5, h6]
      exact ⟨w, hw, q1, hq w hw (by rw [← h4]; exact q2)⟩
  rw [if_neg r9] at h
  by_cases r10 : rule = 10
  · rw [if_pos r10] at h
    match of, h, hof, hok with
    | [p, q], h, hof, hok =>
      simp only [Bool.and_eq_true, Bool.not_eq_true', beq_iff_eq] at h
      obtain ⟨⟨⟨h1, h2⟩, h3⟩, h4⟩ := h
      obtain ⟨w, hw, q1, q2⟩ := (holds_some h2).1 (hof q (by simp))
      have hp := (holds_all h1).1 (hof p (by simp))
      have ho := hok p (by simp)
      have := hp w hw (by rw [← h3]; exact q1)
      rw [h4, isL_neg ho.2, this] at q2
      cases q2
  rw [if_neg r10] at h
  cases h
theorem pick_mem {l : List Clm} {n : Nat} : ∀ {src : List Int} {of : List Clm}, pickC l n src = some of → ∀ p ∈ of, ∃ k, k < n ∧ l[k]? = some p
  | [], of, h, p, hp => by simp only [pickC, Option.some.injEq] at h; subst h; simp at hp
  | k :: r, of, h, p, hp => by
    rw [pickC] at h
    split at h
    · rename_i hk
      cases h1 : l[k.toNat]? with
      | none => rw [h1] at h; cases h
      | some c =>
        cases h2 : pickC l n r with
        | none => rw [h1, h2] at h; cases h
        | some cs =>
          rw [h1, h2] at h
          simp only [Option.some.injEq] at h
          subst h
          rcases List.mem_cons.1 hp with rfl | hp
          · exact ⟨k.toNat, by omega, h1⟩
          · exact pick_mem h2 p hp
    · cases h
/-- all lines of a list are right -/
def allRight (prem : List Clm) (l : List Lin) : Prop := ∀ (n : Nat) (x : Lin), l[n]? = some x → rightB prem (l.map (·.c)) n x = true
theorem lines_hold {prem : List Clm} {l : List Lin} (hr : allRight prem l) (hp : ∀ p ∈ prem, p.ok) (hl : ∀ x ∈ l, x.c.ok) {W : List Nat} (hW : allHold W prem) : ∀ (n : Nat) (x : Lin), l[n]? = some x → holdsC W x.c = true := by
  intro n
  induction n using Nat.strongRecOn with
  | _ n ih =>
    intro x hx
    have h := hr n x hx
    unfold rightB at h
    split at h
    · rename_i of hof
      split at hof
      · refine rule_holds h (fun p hp' => ?_) (fun p hp' => ?_)
        · obtain ⟨k, _, hk⟩ := pick_mem hof p hp'
          exact hW p (List.mem_of_getElem? hk)
        · obtain ⟨k, _, hk⟩ := pick_mem hof p hp'
          exact hp p (List.mem_of_getElem? hk)
      · refine rule_holds h (fun p hp' => ?_) (fun p hp' => ?_)
        · obtain ⟨k, hk1, hk⟩ := pick_mem hof p hp'
          rw [List.getElem?_map] at hk
          cases hy : l[k]? with
          | none => rw [hy] at hk; cases hk
          | some y =>
            rw [hy] at hk; simp at hk; subst hk
            exact ih k hk1 y hy
        · obtain ⟨k, hk1, hk⟩ := pick_mem hof p hp'
          rw [List.getElem?_map] at hk
          cases hy : l[k]? with
          | none => rw [hy] at hk; cases hk
          | some y =>
            rw [hy] at hk; simp at hk; subst hk
            exact hl y (List.mem_of_getElem? hy)
    · cases h

/-- who may be there -/
def mayB (prem : List Clm) (w : Nat) : Bool := prem.all fun p => p.so || holdsC [w] p
def mayL (prem : List Clm) : List Nat := (List.range 64).filter (mayB prem)
def agW (prem : List Clm) (c : Clm) : List Nat := if c.so then (mayL prem).filter (fun w => !holds1 w c) else mayL prem
def agB (prem : List Clm) (c : Clm) : Bool := (c.so || (mayL prem).any (fun w => holds1 w c)) && prem.all (fun p => holdsC (agW prem c) p)
theorem mem_may {prem : List Clm} {w : Nat} : w ∈ mayL prem ↔ w < 64 ∧ ∀ p ∈ prem, p.so = false → isL w p.a = true → isL w p.b = true := by
  unfold mayL mayB
  rw [List.mem_filter, List.mem_range, List.all_eq_true]
  constructor
  · rintro ⟨h1, h2⟩
    refine ⟨h1, fun p hp hs ha => ?_⟩
    have := h2 p hp
    rw [hs, Bool.false_or] at this
    exact (holds_all hs).1 this w (by simp) ha
  · rintro ⟨h1, h2⟩
    refine ⟨h1, fun p hp => ?_⟩
    cases hs : p.so with
    | true => rfl
    | false =>
      rw [Bool.false_or, holds_all hs]
      intro w' hw' ha
      rw [List.mem_singleton] at hw'; subst hw'
      exact h2 p hp hs ha
theorem agW_may {prem : List Clm} {c : Clm} {w : Nat} (h : w ∈ agW prem c) : w ∈ mayL prem := by
  unfold agW at h
  split at h
  · exact (List.mem_filter.1 h).1
  · exact h
theorem agB_iff {prem : List Clm} {c : Clm} : agB prem c = true ↔ (c.so = false → ∃ w ∈ mayL prem, holds1 w c = true) ∧ ∀ p ∈ prem, p.so = true → ∃ w ∈ agW prem c, isL w p.a = true ∧ isL w p.b = true := by
  unfold agB
  rw [Bool.and_eq_true, Bool.or_eq_true, List.any_eq_true, List.all_eq_true]
  constructor
  · rintro ⟨h1, h2⟩
    refine ⟨fun hs => ?_, fun p hp hs => (holds_some hs).1 (h2 p hp)⟩
    rcases h1 with h1 | h1
    · rw [hs] at h1; cases h1
    · exact h1
  · rintro ⟨h1, h2⟩
    refine ⟨?_, fun p hp => ?_⟩
    · cases hs : c.so with
      | true => exact Or.inl rfl
      | false => exact Or.inr (h1 hs)
    · cases hs : p.so with
      | true => rw [holds_some hs]; exact h2 p hp hs
      | false =>
        rw [holds_all hs]
        intro w hw ha
        exact (mem_may.1 (agW_may hw)).2 p hp hs ha
/-- the world against it is one -/
theorem agW_against {prem : List Clm} {c : Clm} (h : agB prem c = true) : allHold (agW prem c) prem ∧ holdsC (agW prem c) c = false := by
  have h0 := h
  unfold agB at h
  rw [Bool.and_eq_true, List.all_eq_true] at h
  refine ⟨fun p hp => h.2 p hp, ?_⟩
  cases hc : holdsC (agW prem c) c with
  | false => rfl
  | true =>
    obtain ⟨h1, _⟩ := agB_iff.1 h0
    cases hs : c.so with
    | true =>
      obtain ⟨w, hw, q1, q2⟩ := (holds_some hs).1 hc
      unfold agW at hw
      rw [if_pos hs] at hw
      have := (List.mem_filter.1 hw).2
      unfold holds1 at this
      rw [q1, q2, hs] at this
      cases this
    | false =>
      obtain ⟨w, hw, hh⟩ := h1 hs
      have := (holds_all hs).1 hc w (by unfold agW; rw [if_neg (by rw [hs]; decide)]; exact hw)
      unfold holds1 at hh
      rw [Bool.and_eq_true, hs] at hh
      rw [this hh.1] at hh
      cases hh.2

/-- all has come of all -/
structure Closed (prem L : List Clm) : Prop where
  ok : ∀ c ∈ L, c.ok
  prem : ∀ p ∈ prem, p ∈ L
  self : ∀ x, litOk x → ⟨false, x, x⟩ ∈ L
  chain : ∀ a b c, ⟨false, a, b⟩ ∈ L → ⟨false, b, c⟩ ∈ L → ⟨false, a, c⟩ ∈ L
  turn : ∀ a b, ⟨false, a, b⟩ ∈ L → ⟨false, -b, -a⟩ ∈ L
  void : ∀ a y, ⟨false, a, -a⟩ ∈ L → litOk y → ⟨false, a, y⟩ ∈ L
  swap : ∀ a b, ⟨true, a, b⟩ ∈ L → ⟨true, b, a⟩ ∈ L
  there : ∀ a b, ⟨true, a, b⟩ ∈ L → ⟨true, a, a⟩ ∈ L
  lead : ∀ a b c, ⟨true, a, b⟩ ∈ L → ⟨false, b, c⟩ ∈ L → ⟨true, a, c⟩ ∈ L
def clashed (L : List Clm) : Prop := ∃ a b, ⟨false, a, b⟩ ∈ L ∧ ⟨true, a, -b⟩ ∈ L
theorem Closed.order {prem L : List Clm} (h : Closed prem L) : Order (fun a b => (⟨false, a, b⟩ : Clm) ∈ L) :=
  ⟨h.self, h.chain, h.turn, h.void, fun x y hl => h.ok _ hl⟩
theorem may_of {prem L : List Clm} (h : Closed prem L) {w : Nat} (hw : w < 64) (hc : ∀ x y, (⟨false, x, y⟩ : Clm) ∈ L → isL w x = true → isL w y = true) : w ∈ mayL prem :=
  mem_may.2 ⟨hw, fun p hp hs ha => by
    have := h.prem p hp
    obtain ⟨s, a, b⟩ := p
    simp only at hs ha ⊢
    subst hs
    exact hc a b this ha⟩
/-- what has no argument has a world against it -/
theorem complete {prem L : List Clm} (h : Closed prem L) {c : Clm} (hok : c.ok) (hc : c ∉ L) (hcl : ¬ clashed L) : agB prem c = true := by
  have O := h.order
  have some1 : ∀ p ∈ prem, p.so = true → ¬ (⟨false, p.a, -p.b⟩ : Clm) ∈ L := fun p hp hs hl => hcl ⟨p.a, -p.b, hl, by
    have := h.prem p hp
    obtain ⟨s, a, b⟩ := p
    simp only at hs
    subst hs
    rw [Int.neg_neg]; exact this⟩
  rw [agB_iff]
  obtain ⟨s, a, b⟩ := c
  cases s with
  | false =>
    refine ⟨fun _ => ?_, fun p hp hs => ?_⟩
    · obtain ⟨w, hw, q1, q2, q3⟩ := two_who O (a := a) (b := -b) hok.1 (lit_neg hok.2) (by rw [Int.neg_neg]; exact hc)
      refine ⟨w, may_of h hw q3, ?_⟩
      unfold holds1
      rw [isL_neg hok.2] at q2
      simp only [Bool.not_eq_true'] at q2
      simp [q1, q2]
    · have ho := h.ok p (h.prem p hp)
      obtain ⟨w, hw, q1, q2, q3⟩ := two_who O (a := p.a) (b := p.b) ho.1 ho.2 (some1 p hp hs)
      exact ⟨w, by unfold agW; rw [if_neg (by simp)]; exact may_of h hw q3, q1, q2⟩
  | true =>
    refine ⟨(fun e => by cases e), fun p hp hs => ?_⟩
    have ho := h.ok p (h.prem p hp)
    have hpl := h.prem p hp
    have hp1 := some1 p hp hs
    obtain ⟨s, pa, pb⟩ := p
    simp only at hs hp1 ho
    subst hs
    have key : ∀ x, litOk x → ¬ (⟨false, pa, x⟩ : Clm) ∈ L → ¬ (⟨false, pb, x⟩ : Clm) ∈ L → ∃ w, w < 64 ∧ isL w pa = true ∧ isL w pb = true ∧ isL w x = false ∧ ∀ x y, (⟨false, x, y⟩ : Clm) ∈ L → isL w x = true → isL w y = true := by
      intro x hx h1 h2
      obtain ⟨w, hw, q1, q2, q3, q4⟩ := three_who O (a := pa) (b := pb) (c := -x) ho.1 ho.2 (lit_neg hx) hp1 (by rw [Int.neg_neg]; exact h1) (by rw [Int.neg_neg]; exact h2) (fun hv => by
        -- -x is nothing: all is x
        have := h.turn _ _ (h.void (-x) (-pa) hv (lit_neg ho.1))
        rw [Int.neg_neg, Int.neg_neg] at this
        exact h1 this)
      rw [isL_neg hx] at q3
      simp only [Bool.not_eq_true'] at q3
      exact ⟨w, hw, q1, q2, q3, q4⟩
    have fin : ∀ w, w < 64 → isL w pa = true → isL w pb = true → (isL w a = false ∨ isL w b = false) → (∀ x y, (⟨false, x, y⟩ : Clm) ∈ L → isL w x = true → isL w y = true) → ∃ w ∈ agW prem ⟨true, a, b⟩, isL w pa = true ∧ isL w pb = true := by
      intro w hw q1 q2 q3 q4
      refine ⟨w, ?_, q1, q2⟩
      unfold agW
      rw [if_pos rfl]
      refine List.mem_filter.2 ⟨may_of h hw q4, ?_⟩
      unfold holds1
      rcases q3 with q3 | q3 <;> simp [q3]
    by_cases hA : (⟨false, pa, a⟩ : Clm) ∈ L ∨ (⟨false, pb, a⟩ : Clm) ∈ L
    · by_cases hB : (⟨false, pa, b⟩ : Clm) ∈ L ∨ (⟨false, pb, b⟩ : Clm) ∈ L
      · exfalso
        apply hc
        -- some a is b
        have sw := h.swap _ _ hpl
        have ta := h.there _ _ hpl
        have tb := h.there _ _ sw
        rcases hA with hA | hA <;> rcases hB with hB | hB
        · exact h.lead _ _ _ (h.swap _ _ (h.lead _ _ _ ta hA)) hB
        · exact h.lead _ _ _ (h.swap _ _ (h.lead _ _ _ sw hA)) hB
        · exact h.lead _ _ _ (h.swap _ _ (h.lead _ _ _ hpl hA)) hB
        · exact h.lead _ _ _ (h.swap _ _ (h.lead _ _ _ tb hA)) hB
      · have h1 : ¬ (⟨false, pa, b⟩ : Clm) ∈ L := fun hx => hB (Or.inl hx)
        have h2 : ¬ (⟨false, pb, b⟩ : Clm) ∈ L := fun hx => hB (Or.inr hx)
        obtain ⟨w, hw, q1, q2, q3, q4⟩ := key b hok.2 h1 h2
        exact fin w hw q1 q2 (Or.inr q3) q4
    · have h1 : ¬ (⟨false, pa, a⟩ : Clm) ∈ L := fun hx => hA (Or.inl hx)
      have h2 : ¬ (⟨false, pb, a⟩ : Clm) ∈ L := fun hx => hA (Or.inr hx)
      obtain ⟨w, hw, q1, q2, q3, q4⟩ := key a hok.1 h1 h2
      exact fin w hw q1 q2 (Or.inl q3) q4
/-- what is argued for has none -/
theorem sound_no {prem : List Clm} {l : List Lin} (hr : allRight prem l) (hp : ∀ p ∈ prem, p.ok) (hl : ∀ x ∈ l, x.c.ok) {c : Clm} (hc : c ∈ l.map (·.c)) : agB prem c = false := by
  cases h : agB prem c with
  | false => rfl
  | true =>
    obtain ⟨h1, h2⟩ := agW_against h
    obtain ⟨x, hx, rfl⟩ := List.mem_map.1 hc
    obtain ⟨n, hn⟩ := List.getElem?_of_mem hx
    rw [lines_hold hr hp hl h1 n x hn] at h2
    cases h2
end Go.Proofs.Ytcmnjoepadjioaa

/- The rules of abstract walks as equations, so that a walk is simplified to what is left to be shown. Nothing of the program is named here. -/
namespace Go.Proofs.Ytcmnjoepadjioaa
open Go.RowKit Go.Maps

def bit_and (q : IntKind) (x y : Int) : Int := q.wrap (BitVec.ofInt q.bits x &&& BitVec.ofInt q.bits y).toNat
def bit_or (q : IntKind) (x y : Int) : Int := q.wrap (BitVec.ofInt q.bits x ||| BitVec.ofInt q.bits y).toNat
def bit_xor (q : IntKind) (x y : Int) : Int := q.wrap (BitVec.ofInt q.bits x ^^^ BitVec.ofInt q.bits y).toNat
/-- what is there is handed on -/
def onSome {α : Type} : Option α → (α → Prop) → Prop
  | some a, k => k a
  | none, _ => False
theorem onSome_some {α : Type} (a : α) (k : α → Prop) : onSome (some a) k = k a := rfl
theorem onSome_iff {α : Type} {o : Option α} {k : α → Prop} : onSome o k ↔ ∃ a, o = some a ∧ k a := by
  cases o with
  | none => exact ⟨fun h => h.elim, fun ⟨a, h, _⟩ => by cases h⟩
  | some a => exact ⟨fun h => ⟨a, rfl, h⟩, fun ⟨b, h, hk⟩ => by injection h with h; subst h; exact hk⟩
section
variable {P : Program} {H V : AH} {k : AV → AH → Prop}

theorem q_mv (a : AV) : Pu P .mv [a] k H = (k a H) := propext ⟨by rintro ⟨_, h, hk⟩; cases h <;> (try subst_vars) <;> (first | exact hk | (exact ⟨⟨_, by assumption⟩, hk⟩) | (exfalso; simp_all [AV.val]; done)), fun h => ⟨_, .mv .., h⟩⟩
theorem q_pick (c : Bool) (a b : AV) : Pu P .pick [.p (.bool c), a, b] k H = (k (if c then a else b) H) := propext ⟨by rintro ⟨_, h, hk⟩; cases h <;> (try subst_vars) <;> (first | exact hk | (exact ⟨⟨_, by assumption⟩, hk⟩) | (exfalso; simp_all [AV.val]; done)), fun h => ⟨_, .pick .., h⟩⟩
theorem q_nil_ptr (id off : Nat) : Pu P .nilck [.ptr id off] k H = (k (.ptr id off) H) := propext ⟨by rintro ⟨_, h, hk⟩; cases h <;> (try subst_vars) <;> (first | exact hk | (exact ⟨⟨_, by assumption⟩, hk⟩) | (exfalso; simp_all [AV.val]; done)), fun h => ⟨_, .nil_ptr .., h⟩⟩
theorem q_nil_eptr (id sz i j : Nat) : Pu P .nilck [.eptr id sz i j] k H = (k (.eptr id sz i j) H) := propext ⟨by rintro ⟨_, h, hk⟩; cases h <;> (try subst_vars) <;> (first | exact hk | (exact ⟨⟨_, by assumption⟩, hk⟩) | (exfalso; simp_all [AV.val]; done)), fun h => ⟨_, .nil_eptr .., h⟩⟩
theorem q_nil_dptr (sz : Nat) (xs : List (List AV)) (i j : Nat) : Pu P .nilck [.dptr sz xs i j] k H = (k (.dptr sz xs i j) H) := propext ⟨by rintro ⟨_, h, hk⟩; cases h <;> (try subst_vars) <;> (first | exact hk | (exact ⟨⟨_, by assumption⟩, hk⟩) | (exfalso; simp_all [AV.val]; done)), fun h => ⟨_, .nil_dptr .., h⟩⟩
theorem q_nil_fn (f : Nat) (xs ys : List AV) : Pu P .nilck [.fn (.func f) xs ys] k H = (k (.fn (.func f) xs ys) H) := propext ⟨by rintro ⟨_, h, hk⟩; cases h <;> (try subst_vars) <;> (first | exact hk | (exact ⟨⟨_, by assumption⟩, hk⟩) | (exfalso; simp_all [AV.val]; done)), fun h => ⟨_, .nil_fn .., h⟩⟩
theorem q_add_ptr (n id off : Nat) : Pu P (.addOff n) [.ptr id off] k H = (k (.ptr id (off + n)) H) := propext ⟨by rintro ⟨_, h, hk⟩; cases h <;> (try subst_vars) <;> (first | exact hk | (exact ⟨⟨_, by assumption⟩, hk⟩) | (exfalso; simp_all [AV.val]; done)), fun h => ⟨_, .add_ptr .., h⟩⟩
theorem q_add_eptr (n id sz i j : Nat) : Pu P (.addOff n) [.eptr id sz i j] k H = (k (.eptr id sz i (j + n)) H) := propext ⟨by rintro ⟨_, h, hk⟩; cases h <;> (try subst_vars) <;> (first | exact hk | (exact ⟨⟨_, by assumption⟩, hk⟩) | (exfalso; simp_all [AV.val]; done)), fun h => ⟨_, .add_eptr .., h⟩⟩
theorem q_add_dptr (n sz : Nat) (xs : List (List AV)) (i j : Nat) : Pu P (.addOff n) [.dptr sz xs i j] k H = (k (.dptr sz xs i (j + n)) H) := propext ⟨by rintro ⟨_, h, hk⟩; cases h <;> (try subst_vars) <;> (first | exact hk | (exact ⟨⟨_, by assumption⟩, hk⟩) | (exfalso; simp_all [AV.val]; done)), fun h => ⟨_, .add_dptr .., h⟩⟩
theorem q_idx_dsl (sz : Nat) (xs : List (List AV)) (q : IntKind) (i : Int) : Pu P (.idx sz) [.dsl sz xs, .p (.int q i)] k H = ((0 < sz) ∧ (0 ≤ i) ∧ (i < xs.length) ∧ k (.dptr sz xs i.toNat 0) H) := propext ⟨by rintro ⟨_, h, hk⟩; cases h <;> (try subst_vars) <;> (first | exact hk | (exact ⟨by assumption, by assumption, by assumption, hk⟩) | (exact ⟨⟨_, by assumption⟩, by assumption, by assumption, hk⟩) | (exfalso; simp_all [AV.val]; done)), fun ⟨h0, h1, h2, h⟩ => ⟨_, by constructor <;> (first | assumption | rfl), h⟩⟩
theorem q_idx_osl (sz id off n : Nat) (q : IntKind) (i : Int) : Pu P (.idx sz) [.osl id sz off n, .p (.int q i)] k H = ((0 ≤ i) ∧ (i < n) ∧ k (.eptr id sz (off + i.toNat) 0) H) := propext ⟨by rintro ⟨_, h, hk⟩; cases h <;> (try subst_vars) <;> (first | exact hk | (exact ⟨by assumption, by assumption, hk⟩) | (exact ⟨⟨_, by assumption⟩, by assumption, hk⟩) | (exfalso; simp_all [AV.val]; done)), fun ⟨h0, h1, h⟩ => ⟨_, by constructor <;> (first | assumption | rfl), h⟩⟩
theorem q_aidx_ptr (len sz id off : Nat) (q : IntKind) (i : Int) : Pu P (.aidx len sz) [.ptr id off, .p (.int q i)] k H = ((0 ≤ i) ∧ (i < len) ∧ k (.ptr id (off + i.toNat * sz)) H) := propext ⟨by rintro ⟨_, h, hk⟩; cases h <;> (try subst_vars) <;> (first | exact hk | (exact ⟨by assumption, by assumption, hk⟩) | (exact ⟨⟨_, by assumption⟩, by assumption, hk⟩) | (exfalso; simp_all [AV.val]; done)), fun ⟨h0, h1, h⟩ => ⟨_, by constructor <;> (first | assumption | rfl), h⟩⟩
theorem q_aidx_eptr (len sz id sz2 i2 j : Nat) (q : IntKind) (i : Int) : Pu P (.aidx len sz) [.eptr id sz2 i2 j, .p (.int q i)] k H = ((0 ≤ i) ∧ (i < len) ∧ k (.eptr id sz2 i2 (j + i.toNat * sz)) H) := propext ⟨by rintro ⟨_, h, hk⟩; cases h <;> (try subst_vars) <;> (first | exact hk | (exact ⟨by assumption, by assumption, hk⟩) | (exact ⟨⟨_, by assumption⟩, by assumption, hk⟩) | (exfalso; simp_all [AV.val]; done)), fun ⟨h0, h1, h⟩ => ⟨_, by constructor <;> (first | assumption | rfl), h⟩⟩
theorem q_aidx_dptr (len sz sz2 i2 j : Nat) (xs : List (List AV)) (q : IntKind) (i : Int) : Pu P (.aidx len sz) [.dptr sz2 xs i2 j, .p (.int q i)] k H = ((0 ≤ i) ∧ (i < len) ∧ k (.dptr sz2 xs i2 (j + i.toNat * sz)) H) := propext ⟨by rintro ⟨_, h, hk⟩; cases h <;> (try subst_vars) <;> (first | exact hk | (exact ⟨by assumption, by assumption, hk⟩) | (exact ⟨⟨_, by assumption⟩, by assumption, hk⟩) | (exfalso; simp_all [AV.val]; done)), fun ⟨h0, h1, h⟩ => ⟨_, by constructor <;> (first | assumption | rfl), h⟩⟩
theorem q_fld_agg (off n : Nat) (cs : List AV) : Pu P (.fld off n true) [.agg cs] k H = ((off + n ≤ cs.length) ∧ k (.agg ((cs.drop off).take n)) H) := propext ⟨by rintro ⟨_, h, hk⟩; cases h <;> (try subst_vars) <;> (first | exact hk | (exact ⟨by assumption, hk⟩) | (exact ⟨⟨_, by assumption⟩, hk⟩) | (exfalso; simp_all [AV.val]; done)), fun ⟨h0, h⟩ => ⟨_, by constructor <;> (first | assumption | rfl), h⟩⟩
theorem q_add_i (t : TypeId) (q : IntKind) (x y : Int) : Pu P (.bin .add t) [.p (.int q x), .p (.int q y)] k H = (k (.p (.int q (q.wrap (x + y)))) H) := propext ⟨by rintro ⟨_, h, hk⟩; cases h <;> (try subst_vars) <;> (first | exact hk | (exact ⟨⟨_, by assumption⟩, hk⟩) | (exfalso; simp_all [AV.val]; done)), fun h => ⟨_, by constructor <;> rfl, h⟩⟩
theorem q_sub_i (t : TypeId) (q : IntKind) (x y : Int) : Pu P (.bin .sub t) [.p (.int q x), .p (.int q y)] k H = (k (.p (.int q (q.wrap (x - y)))) H) := propext ⟨by rintro ⟨_, h, hk⟩; cases h <;> (try subst_vars) <;> (first | exact hk | (exact ⟨⟨_, by assumption⟩, hk⟩) | (exfalso; simp_all [AV.val]; done)), fun h => ⟨_, by constructor <;> rfl, h⟩⟩
theorem q_mul_i (t : TypeId) (q : IntKind) (x y : Int) : Pu P (.bin .mul t) [.p (.int q x), .p (.int q y)] k H = (k (.p (.int q (q.wrap (x * y)))) H) := propext ⟨by rintro ⟨_, h, hk⟩; cases h <;> (try subst_vars) <;> (first | exact hk | (exact ⟨⟨_, by assumption⟩, hk⟩) | (exfalso; simp_all [AV.val]; done)), fun h => ⟨_, by constructor <;> rfl, h⟩⟩
theorem q_quo_i (t : TypeId) (q : IntKind) (x y : Int) : Pu P (.bin .quo t) [.p (.int q x), .p (.int q y)] k H = ((y ≠ 0) ∧ k (.p (.int q (q.wrap (x.tdiv y)))) H) := propext ⟨by rintro ⟨_, h, hk⟩; cases h <;> (try subst_vars) <;> (first | exact hk | (exact ⟨by assumption, hk⟩) | (exact ⟨⟨_, by assumption⟩, hk⟩) | (exfalso; simp_all [AV.val]; done)), fun ⟨h0, h⟩ => ⟨_, by constructor <;> (first | assumption | rfl), h⟩⟩
theorem q_rem_i (t : TypeId) (q : IntKind) (x y : Int) : Pu P (.bin .rem t) [.p (.int q x), .p (.int q y)] k H = ((y ≠ 0) ∧ k (.p (.int q (x.tmod y))) H) := propext ⟨by rintro ⟨_, h, hk⟩; cases h <;> (try subst_vars) <;> (first | exact hk | (exact ⟨by assumption, hk⟩) | (exact ⟨⟨_, by assumption⟩, hk⟩) | (exfalso; simp_all [AV.val]; done)), fun ⟨h0, h⟩ => ⟨_, by constructor <;> (first | assumption | rfl), h⟩⟩
theorem q_and_i (t : TypeId) (q : IntKind) (x y : Int) : Pu P (.bin .and t) [.p (.int q x), .p (.int q y)] k H = (k (.p (.int q (bit_and q x y))) H) := propext ⟨by rintro ⟨_, h, hk⟩; cases h <;> (try subst_vars) <;> (first | exact hk | (exact ⟨⟨_, by assumption⟩, hk⟩) | (exfalso; simp_all [AV.val]; done)), fun h => ⟨_, by constructor <;> rfl, h⟩⟩
theorem q_or_i (t : TypeId) (q : IntKind) (x y : Int) : Pu P (.bin .or t) [.p (.int q x), .p (.int q y)] k H = (k (.p (.int q (bit_or q x y))) H) := propext ⟨by rintro ⟨_, h, hk⟩; cases h <;> (try subst_vars) <;> (first | exact hk | (exact ⟨⟨_, by assumption⟩, hk⟩) | (exfalso; simp_all [AV.val]; done)), fun h => ⟨_, by constructor <;> rfl, h⟩⟩
theorem q_xor_i (t : TypeId) (q : IntKind) (x y : Int) : Pu P (.bin .xor t) [.p (.int q x), .p (.int q y)] k H = (k (.p (.int q (bit_xor q x y))) H) := propext ⟨by rintro ⟨_, h, hk⟩; cases h <;> (try subst_vars) <;> (first | exact hk | (exact ⟨⟨_, by assumption⟩, hk⟩) | (exfalso; simp_all [AV.val]; done)), fun h => ⟨_, by constructor <;> rfl, h⟩⟩
theorem q_eql_i (t : TypeId) (q : IntKind) (x y : Int) : Pu P (.bin .eql t) [.p (.int q x), .p (.int q y)] k H = (k (.p (.bool (decide (x = y)))) H) := propext ⟨by rintro ⟨_, h, hk⟩; cases h <;> (try subst_vars) <;> (first | exact hk | (exact ⟨⟨_, by assumption⟩, hk⟩) | (exfalso; simp_all [AV.val]; done)), fun h => ⟨_, .eql_i .., h⟩⟩
theorem q_neq_i (t : TypeId) (q : IntKind) (x y : Int) : Pu P (.bin .neq t) [.p (.int q x), .p (.int q y)] k H = (k (.p (.bool (decide (x ≠ y)))) H) := propext ⟨by rintro ⟨_, h, hk⟩; cases h <;> (try subst_vars) <;> (first | exact hk | (exact ⟨⟨_, by assumption⟩, hk⟩) | (exfalso; simp_all [AV.val]; done)), fun h => ⟨_, .neq_i .., h⟩⟩
theorem q_lss_i (t : TypeId) (q : IntKind) (x y : Int) : Pu P (.bin .lss t) [.p (.int q x), .p (.int q y)] k H = (k (.p (.bool (decide (x < y)))) H) := propext ⟨by rintro ⟨_, h, hk⟩; cases h <;> (try subst_vars) <;> (first | exact hk | (exact ⟨⟨_, by assumption⟩, hk⟩) | (exfalso; simp_all [AV.val]; done)), fun h => ⟨_, .lss_i .., h⟩⟩
theorem q_leq_i (t : TypeId) (q : IntKind) (x y : Int) : Pu P (.bin .leq t) [.p (.int q x), .p (.int q y)] k H = (k (.p (.bool (decide (x ≤ y)))) H) := propext ⟨by rintro ⟨_, h, hk⟩; cases h <;> (try subst_vars) <;> (first | exact hk | (exact ⟨⟨_, by assumption⟩, hk⟩) | (exfalso; simp_all [AV.val]; done)), fun h => ⟨_, .leq_i .., h⟩⟩
theorem q_gtr_i (t : TypeId) (q : IntKind) (x y : Int) : Pu P (.bin .gtr t) [.p (.int q x), .p (.int q y)] k H = (k (.p (.bool (decide (x > y)))) H) := propext ⟨by rintro ⟨_, h, hk⟩; cases h <;> (try subst_vars) <;> (first | exact hk | (exact ⟨⟨_, by assumption⟩, hk⟩) | (exfalso; simp_all [AV.val]; done)), fun h => ⟨_, .gtr_i .., h⟩⟩
theorem q_geq_i (t : TypeId) (q : IntKind) (x y : Int) : Pu P (.bin .geq t) [.p (.int q x), .p (.int q y)] k H = (k (.p (.bool (decide (x ≥ y)))) H) := propext ⟨by rintro ⟨_, h, hk⟩; cases h <;> (try subst_vars) <;> (first | exact hk | (exact ⟨⟨_, by assumption⟩, hk⟩) | (exfalso; simp_all [AV.val]; done)), fun h => ⟨_, .geq_i .., h⟩⟩
theorem q_shl_i (t : TypeId) (q q2 : IntKind) (x y : Int) : Pu P (.bin .shl t) [.p (.int q x), .p (.int q2 y)] k H = ((0 ≤ y) ∧ k (.p (.int q (q.wrap (x * 2 ^ (min y.toNat q.bits))))) H) := propext ⟨by rintro ⟨_, h, hk⟩; cases h <;> (try subst_vars) <;> (first | exact hk | (exact ⟨by assumption, hk⟩) | (exact ⟨⟨_, by assumption⟩, hk⟩) | (exfalso; simp_all [AV.val]; done)), fun ⟨h0, h⟩ => ⟨_, by constructor <;> (first | assumption | rfl), h⟩⟩
theorem q_shr_i (t : TypeId) (q q2 : IntKind) (x y : Int) : Pu P (.bin .shr t) [.p (.int q x), .p (.int q2 y)] k H = ((0 ≤ y) ∧ k (.p (.int q (x.fdiv (2 ^ (min y.toNat q.bits))))) H) := propext ⟨by rintro ⟨_, h, hk⟩; cases h <;> (try subst_vars) <;> (first | exact hk | (exact ⟨by assumption, hk⟩) | (exact ⟨⟨_, by assumption⟩, hk⟩) | (exfalso; simp_all [AV.val]; done)), fun ⟨h0, h⟩ => ⟨_, by constructor <;> (first | assumption | rfl), h⟩⟩
theorem q_eql_b (t : TypeId) (x y : Bool) : Pu P (.bin .eql t) [.p (.bool x), .p (.bool y)] k H = ((P.underlying t = some .bool) ∧ k (.p (.bool (x == y))) H) := propext ⟨by rintro ⟨_, h, hk⟩; cases h <;> (try subst_vars) <;> (first | exact hk | (exact ⟨by assumption, hk⟩) | (exact ⟨⟨_, by assumption⟩, hk⟩) | (exfalso; simp_all [AV.val]; done)), fun ⟨h0, h⟩ => ⟨_, by constructor <;> (first | assumption | rfl), h⟩⟩
theorem q_neq_b (t : TypeId) (x y : Bool) : Pu P (.bin .neq t) [.p (.bool x), .p (.bool y)] k H = ((P.underlying t = some .bool) ∧ k (.p (.bool (!(x == y)))) H) := propext ⟨by rintro ⟨_, h, hk⟩; cases h <;> (try subst_vars) <;> (first | exact hk | (exact ⟨by assumption, hk⟩) | (exact ⟨⟨_, by assumption⟩, hk⟩) | (exfalso; simp_all [AV.val]; done)), fun ⟨h0, h⟩ => ⟨_, by constructor <;> (first | assumption | rfl), h⟩⟩
theorem q_eql_s (t : TypeId) (x y : ByteArray) : Pu P (.bin .eql t) [.p (.string x), .p (.string y)] k H = (k (.p (.bool (x.toList == y.toList))) H) := propext ⟨by rintro ⟨_, h, hk⟩; cases h <;> (try subst_vars) <;> (first | exact hk | (exact ⟨⟨_, by assumption⟩, hk⟩) | (exfalso; simp_all [AV.val]; done)), fun h => ⟨_, .eql_s .., h⟩⟩
theorem q_neq_s (t : TypeId) (x y : ByteArray) : Pu P (.bin .neq t) [.p (.string x), .p (.string y)] k H = (k (.p (.bool (!(x.toList == y.toList)))) H) := propext ⟨by rintro ⟨_, h, hk⟩; cases h <;> (try subst_vars) <;> (first | exact hk | (exact ⟨⟨_, by assumption⟩, hk⟩) | (exfalso; simp_all [AV.val]; done)), fun h => ⟨_, .neq_s .., h⟩⟩
theorem q_add_s (t : TypeId) (x y : ByteArray) : Pu P (.bin .add t) [.p (.string x), .p (.string y)] k H = ((x.size + y.size ≤ maxLen) ∧ k (.p (.string (x ++ y))) H) := propext ⟨by rintro ⟨_, h, hk⟩; cases h <;> (try subst_vars) <;> (first | exact hk | (exact ⟨by assumption, hk⟩) | (exact ⟨⟨_, by assumption⟩, hk⟩) | (exfalso; simp_all [AV.val]; done)), fun ⟨h0, h⟩ => ⟨_, by constructor <;> (first | assumption | rfl), h⟩⟩
theorem q_lss_s (t : TypeId) (x y : ByteArray) : Pu P (.bin .lss t) [.p (.string x), .p (.string y)] k H = (k (.p (.bool (Op.bytesLess x.toList y.toList))) H) := propext ⟨by rintro ⟨_, h, hk⟩; cases h <;> (try subst_vars) <;> (first | exact hk | (exact ⟨⟨_, by assumption⟩, hk⟩) | (exfalso; simp_all [AV.val]; done)), fun h => ⟨_, .lss_s .., h⟩⟩
theorem q_neg_i (q : IntKind) (x : Int) : Pu P (.un .neg) [.p (.int q x)] k H = (k (.p (.int q (q.wrap (0 - x)))) H) := propext ⟨by rintro ⟨_, h, hk⟩; cases h <;> (try subst_vars) <;> (first | exact hk | (exact ⟨⟨_, by assumption⟩, hk⟩) | (exfalso; simp_all [AV.val]; done)), fun h => ⟨_, by constructor <;> rfl, h⟩⟩
theorem q_not_b (x : Bool) : Pu P (.un .not) [.p (.bool x)] k H = (k (.p (.bool (!x))) H) := propext ⟨by rintro ⟨_, h, hk⟩; cases h <;> (try subst_vars) <;> (first | exact hk | (exact ⟨⟨_, by assumption⟩, hk⟩) | (exfalso; simp_all [AV.val]; done)), fun h => ⟨_, .not_b .., h⟩⟩
theorem q_conv_i (q j : IntKind) (x : Int) : Pu P (.conv q) [.p (.int j x)] k H = (k (.p (.int q (q.wrap x))) H) := propext ⟨by rintro ⟨_, h, hk⟩; cases h <;> (try subst_vars) <;> (first | exact hk | (exact ⟨⟨_, by assumption⟩, hk⟩) | (exfalso; simp_all [AV.val]; done)), fun h => ⟨_, by constructor <;> rfl, h⟩⟩
theorem q_same_s (x : ByteArray) : Pu P .same [.p (.string x)] k H = (k (.p (.string x)) H) := propext ⟨by rintro ⟨_, h, hk⟩; cases h <;> (try subst_vars) <;> (first | exact hk | (exact ⟨⟨_, by assumption⟩, hk⟩) | (exfalso; simp_all [AV.val]; done)), fun h => ⟨_, .same_s .., h⟩⟩
theorem q_len_dsl (sz : Nat) (xs : List (List AV)) : Pu P .len [.dsl sz xs] k H = (k (.p (.int .i64 xs.length)) H) := propext ⟨by rintro ⟨_, h, hk⟩; cases h <;> (try subst_vars) <;> (first | exact hk | (exact ⟨⟨_, by assumption⟩, hk⟩) | (exfalso; simp_all [AV.val]; done)), fun h => ⟨_, .len_dsl .., h⟩⟩
theorem q_len_osl (id sz off n : Nat) : Pu P .len [.osl id sz off n] k H = (k (.p (.int .i64 n)) H) := propext ⟨by rintro ⟨_, h, hk⟩; cases h <;> (try subst_vars) <;> (first | exact hk | (exact ⟨⟨_, by assumption⟩, hk⟩) | (exfalso; simp_all [AV.val]; done)), fun h => ⟨_, .len_osl .., h⟩⟩
theorem q_len_nil (A : Option Addr) (c : Nat) : Pu P .len [.p (.slice A 0 c)] k H = (k (.p (.int .i64 0)) H) := propext ⟨by rintro ⟨_, h, hk⟩; cases h <;> (try subst_vars) <;> (first | exact hk | (exact ⟨⟨_, by assumption⟩, hk⟩) | (exfalso; simp_all [AV.val]; done)), fun h => ⟨_, .len_nil .., h⟩⟩
theorem q_len_s (x : ByteArray) : Pu P .slen [.p (.string x)] k H = (k (.p (.int .i64 x.size)) H) := propext ⟨by rintro ⟨_, h, hk⟩; cases h <;> (try subst_vars) <;> (first | exact hk | (exact ⟨⟨_, by assumption⟩, hk⟩) | (exfalso; simp_all [AV.val]; done)), fun h => ⟨_, .len_s .., h⟩⟩
theorem q_slc_00 (sz : Nat) (xs : List (List AV)) : Pu P (.slc sz false false) [.dsl sz xs] k H = (k (.dsl sz xs) H) := propext ⟨by rintro ⟨_, h, hk⟩; cases h <;> (try subst_vars) <;> (first | exact hk | (exact ⟨⟨_, by assumption⟩, hk⟩) | (exfalso; simp_all [AV.val]; done)), fun h => ⟨_, .slc_00 .., h⟩⟩
theorem q_slc_10 (sz : Nat) (xs : List (List AV)) (q : IntKind) (lo : Int) : Pu P (.slc sz true false) [.dsl sz xs, .p (.int q lo)] k H = ((0 ≤ lo) ∧ (lo ≤ xs.length) ∧ k (.dsl sz (xs.drop lo.toNat)) H) := propext ⟨by rintro ⟨_, h, hk⟩; cases h <;> (try subst_vars) <;> (first | exact hk | (exact ⟨by assumption, by assumption, hk⟩) | (exact ⟨⟨_, by assumption⟩, by assumption, hk⟩) | (exfalso; simp_all [AV.val]; done)), fun ⟨h0, h1, h⟩ => ⟨_, by constructor <;> (first | assumption | rfl), h⟩⟩
theorem q_slc_01 (sz : Nat) (xs : List (List AV)) (q : IntKind) (hi : Int) : Pu P (.slc sz false true) [.dsl sz xs, .p (.int q hi)] k H = ((0 ≤ hi) ∧ (hi ≤ xs.length) ∧ k (.dsl sz (xs.take hi.toNat)) H) := propext ⟨by rintro ⟨_, h, hk⟩; cases h <;> (try subst_vars) <;> (first | exact hk | (exact ⟨by assumption, by assumption, hk⟩) | (exact ⟨⟨_, by assumption⟩, by assumption, hk⟩) | (exfalso; simp_all [AV.val]; done)), fun ⟨h0, h1, h⟩ => ⟨_, by constructor <;> (first | assumption | rfl), h⟩⟩
theorem q_slc_11 (sz : Nat) (xs : List (List AV)) (q q2 : IntKind) (lo hi : Int) : Pu P (.slc sz true true) [.dsl sz xs, .p (.int q lo), .p (.int q2 hi)] k H = ((0 ≤ lo) ∧ (lo ≤ hi) ∧ (hi ≤ xs.length) ∧ k (.dsl sz ((xs.drop lo.toNat).take (hi.toNat - lo.toNat))) H) := propext ⟨by rintro ⟨_, h, hk⟩; cases h <;> (try subst_vars) <;> (first | exact hk | (exact ⟨by assumption, by assumption, by assumption, hk⟩) | (exact ⟨⟨_, by assumption⟩, by assumption, by assumption, hk⟩) | (exfalso; simp_all [AV.val]; done)), fun ⟨h0, h1, h2, h⟩ => ⟨_, by constructor <;> (first | assumption | rfl), h⟩⟩
theorem q_slo_00 (sz id off n : Nat) : Pu P (.slc sz false false) [.osl id sz off n] k H = (k (.osl id sz off n) H) := propext ⟨by rintro ⟨_, h, hk⟩; cases h <;> (try subst_vars) <;> (first | exact hk | (exact ⟨⟨_, by assumption⟩, hk⟩) | (exfalso; simp_all [AV.val]; done)), fun h => ⟨_, .slo_00 .., h⟩⟩
theorem q_slo_10 (sz id off n : Nat) (q : IntKind) (lo : Int) : Pu P (.slc sz true false) [.osl id sz off n, .p (.int q lo)] k H = ((0 ≤ lo) ∧ (lo ≤ n) ∧ k (.osl id sz (off + lo.toNat) (n - lo.toNat)) H) := propext ⟨by rintro ⟨_, h, hk⟩; cases h <;> (try subst_vars) <;> (first | exact hk | (exact ⟨by assumption, by assumption, hk⟩) | (exact ⟨⟨_, by assumption⟩, by assumption, hk⟩) | (exfalso; simp_all [AV.val]; done)), fun ⟨h0, h1, h⟩ => ⟨_, by constructor <;> (first | assumption | rfl), h⟩⟩
theorem q_slo_01 (sz id off n : Nat) (q : IntKind) (hi : Int) : Pu P (.slc sz false true) [.osl id sz off n, .p (.int q hi)] k H = ((0 ≤ hi) ∧ (hi ≤ n) ∧ k (.osl id sz off hi.toNat) H) := propext ⟨by rintro ⟨_, h, hk⟩; cases h <;> (try subst_vars) <;> (first | exact hk | (exact ⟨by assumption, by assumption, hk⟩) | (exact ⟨⟨_, by assumption⟩, by assumption, hk⟩) | (exfalso; simp_all [AV.val]; done)), fun ⟨h0, h1, h⟩ => ⟨_, by constructor <;> (first | assumption | rfl), h⟩⟩
theorem q_slo_11 (sz id off n : Nat) (q q2 : IntKind) (lo hi : Int) : Pu P (.slc sz true true) [.osl id sz off n, .p (.int q lo), .p (.int q2 hi)] k H = ((0 ≤ lo) ∧ (lo ≤ hi) ∧ (hi ≤ n) ∧ k (.osl id sz (off + lo.toNat) (hi.toNat - lo.toNat)) H) := propext ⟨by rintro ⟨_, h, hk⟩; cases h <;> (try subst_vars) <;> (first | exact hk | (exact ⟨by assumption, by assumption, by assumption, hk⟩) | (exact ⟨⟨_, by assumption⟩, by assumption, by assumption, hk⟩) | (exfalso; simp_all [AV.val]; done)), fun ⟨h0, h1, h2, h⟩ => ⟨_, by constructor <;> (first | assumption | rfl), h⟩⟩
theorem q_ssl_00 (s : ByteArray) : Pu P (.ssl false false) [.p (.string s)] k H = (k (.p (.string (s.extract 0 s.size))) H) := propext ⟨by rintro ⟨_, h, hk⟩; cases h <;> (try subst_vars) <;> (first | exact hk | (exact ⟨⟨_, by assumption⟩, hk⟩) | (exfalso; simp_all [AV.val]; done)), fun h => ⟨_, .ssl_00 .., h⟩⟩
theorem q_ssl_10 (s : ByteArray) (q : IntKind) (lo : Int) : Pu P (.ssl true false) [.p (.string s), .p (.int q lo)] k H = ((0 ≤ lo) ∧ (lo ≤ s.size) ∧ k (.p (.string (s.extract lo.toNat s.size))) H) := propext ⟨by rintro ⟨_, h, hk⟩; cases h <;> (try subst_vars) <;> (first | exact hk | (exact ⟨by assumption, by assumption, hk⟩) | (exact ⟨⟨_, by assumption⟩, by assumption, hk⟩) | (exfalso; simp_all [AV.val]; done)), fun ⟨h0, h1, h⟩ => ⟨_, by constructor <;> (first | assumption | rfl), h⟩⟩
theorem q_ssl_01 (s : ByteArray) (q : IntKind) (hi : Int) : Pu P (.ssl false true) [.p (.string s), .p (.int q hi)] k H = ((0 ≤ hi) ∧ (hi ≤ s.size) ∧ k (.p (.string (s.extract 0 hi.toNat))) H) := propext ⟨by rintro ⟨_, h, hk⟩; cases h <;> (try subst_vars) <;> (first | exact hk | (exact ⟨by assumption, by assumption, hk⟩) | (exact ⟨⟨_, by assumption⟩, by assumption, hk⟩) | (exfalso; simp_all [AV.val]; done)), fun ⟨h0, h1, h⟩ => ⟨_, by constructor <;> (first | assumption | rfl), h⟩⟩
theorem q_ssl_11 (s : ByteArray) (q q2 : IntKind) (lo hi : Int) : Pu P (.ssl true true) [.p (.string s), .p (.int q lo), .p (.int q2 hi)] k H = ((0 ≤ lo) ∧ (lo ≤ hi) ∧ (hi ≤ s.size) ∧ k (.p (.string (s.extract lo.toNat hi.toNat))) H) := propext ⟨by rintro ⟨_, h, hk⟩; cases h <;> (try subst_vars) <;> (first | exact hk | (exact ⟨by assumption, by assumption, by assumption, hk⟩) | (exact ⟨⟨_, by assumption⟩, by assumption, by assumption, hk⟩) | (exfalso; simp_all [AV.val]; done)), fun ⟨h0, h1, h2, h⟩ => ⟨_, by constructor <;> (first | assumption | rfl), h⟩⟩
theorem q_cap_nil (c : Nat) : Pu P .cap [.p (.slice none 0 c)] k H = (k (.p (.int .i64 c)) H) := propext ⟨by rintro ⟨_, h, hk⟩; cases h <;> (try subst_vars) <;> (first | exact hk | (exact ⟨⟨_, by assumption⟩, hk⟩) | (exfalso; simp_all [AV.val]; done)), fun h => ⟨_, .cap_nil .., h⟩⟩
theorem q_slc_nil (sz : Nat) (q : IntKind) : Pu P (.slc sz false true) [.p (.slice none 0 0), .p (.int q 0)] k H = (k (.p (.slice none 0 0)) H) := propext ⟨by rintro ⟨_, h, hk⟩; cases h <;> (try subst_vars) <;> (first | exact hk | (exact ⟨⟨_, by assumption⟩, hk⟩) | (exfalso; simp_all [AV.val]; done)), fun h => ⟨_, .slc_nil .., h⟩⟩
theorem q_eqnil_p (t : TypeId) (A : Option Addr) (n c : Nat) : Pu P (.bin .eql t) [.p (.slice A n c), .p (.slice none 0 0)] k H = ((∃ e, P.underlying t = some (.slice e)) ∧ k (.p (.bool (A.isNone))) H) := propext ⟨by rintro ⟨_, h, hk⟩; cases h <;> (try subst_vars) <;> (first | exact hk | (exact ⟨by assumption, hk⟩) | (exact ⟨⟨_, by assumption⟩, hk⟩) | (exfalso; simp_all [AV.val]; done)), by rintro ⟨⟨e, he⟩, h⟩; exact ⟨_, .eqnil_p _ _ _ _ _ he, h⟩⟩
theorem q_eqnil_dsl (t : TypeId) (sz : Nat) (xs : List (List AV)) : Pu P (.bin .eql t) [.dsl sz xs, .p (.slice none 0 0)] k H = ((∃ e, P.underlying t = some (.slice e)) ∧ (0 < sz) ∧ (0 < xs.length) ∧ k (.p (.bool false)) H) := propext ⟨by rintro ⟨_, h, hk⟩; cases h <;> (try subst_vars) <;> (first | exact hk | (exact ⟨by assumption, by assumption, by assumption, hk⟩) | (exact ⟨⟨_, by assumption⟩, by assumption, by assumption, hk⟩) | (exfalso; simp_all [AV.val]; done)), by rintro ⟨⟨e, he⟩, h1, h2, h⟩; exact ⟨_, .eqnil_dsl _ _ _ _ he h1 h2, h⟩⟩
theorem q_eqnil_osl (t : TypeId) (id sz off n : Nat) : Pu P (.bin .eql t) [.osl id sz off n, .p (.slice none 0 0)] k H = ((∃ e, P.underlying t = some (.slice e)) ∧ (0 < n) ∧ k (.p (.bool false)) H) := propext ⟨by rintro ⟨_, h, hk⟩; cases h <;> (try subst_vars) <;> (first | exact hk | (exact ⟨by assumption, by assumption, hk⟩) | (exact ⟨⟨_, by assumption⟩, by assumption, hk⟩) | (exfalso; simp_all [AV.val]; done)), by rintro ⟨⟨e, he⟩, h1, h⟩; exact ⟨_, .eqnil_osl _ _ _ _ _ _ he h1, h⟩⟩
theorem q_nenil_p (t : TypeId) (A : Option Addr) (n c : Nat) : Pu P (.bin .neq t) [.p (.slice A n c), .p (.slice none 0 0)] k H = ((∃ e, P.underlying t = some (.slice e)) ∧ k (.p (.bool (!A.isNone))) H) := propext ⟨by rintro ⟨_, h, hk⟩; cases h <;> (try subst_vars) <;> (first | exact hk | (exact ⟨by assumption, hk⟩) | (exact ⟨⟨_, by assumption⟩, hk⟩) | (exfalso; simp_all [AV.val]; done)), by rintro ⟨⟨e, he⟩, h⟩; exact ⟨_, .nenil_p _ _ _ _ _ he, h⟩⟩
theorem q_nenil_dsl (t : TypeId) (sz : Nat) (xs : List (List AV)) : Pu P (.bin .neq t) [.dsl sz xs, .p (.slice none 0 0)] k H = ((∃ e, P.underlying t = some (.slice e)) ∧ (0 < sz) ∧ (0 < xs.length) ∧ k (.p (.bool true)) H) := propext ⟨by rintro ⟨_, h, hk⟩; cases h <;> (try subst_vars) <;> (first | exact hk | (exact ⟨by assumption, by assumption, by assumption, hk⟩) | (exact ⟨⟨_, by assumption⟩, by assumption, by assumption, hk⟩) | (exfalso; simp_all [AV.val]; done)), by rintro ⟨⟨e, he⟩, h1, h2, h⟩; exact ⟨_, .nenil_dsl _ _ _ _ he h1 h2, h⟩⟩
theorem q_nenil_osl (t : TypeId) (id sz off n : Nat) : Pu P (.bin .neq t) [.osl id sz off n, .p (.slice none 0 0)] k H = ((∃ e, P.underlying t = some (.slice e)) ∧ (0 < n) ∧ k (.p (.bool true)) H) := propext ⟨by rintro ⟨_, h, hk⟩; cases h <;> (try subst_vars) <;> (first | exact hk | (exact ⟨by assumption, by assumption, hk⟩) | (exact ⟨⟨_, by assumption⟩, by assumption, hk⟩) | (exfalso; simp_all [AV.val]; done)), by rintro ⟨⟨e, he⟩, h1, h⟩; exact ⟨_, .nenil_osl _ _ _ _ _ _ he h1, h⟩⟩
theorem q_mn_i (q : IntKind) (x y : Int) : Pu P .mn [.p (.int q x), .p (.int q y)] k H = (k (.p (.int q (if y < x then y else x))) H) := propext ⟨by rintro ⟨_, h, hk⟩; cases h <;> (try subst_vars) <;> (first | exact hk | (exact ⟨⟨_, by assumption⟩, hk⟩) | (exfalso; simp_all [AV.val]; done)), fun h => ⟨_, .mn_i .., h⟩⟩
theorem q_mx_i (q : IntKind) (x y : Int) : Pu P .mx [.p (.int q x), .p (.int q y)] k H = (k (.p (.int q (if y > x then y else x))) H) := propext ⟨by rintro ⟨_, h, hk⟩; cases h <;> (try subst_vars) <;> (first | exact hk | (exact ⟨⟨_, by assumption⟩, hk⟩) | (exfalso; simp_all [AV.val]; done)), fun h => ⟨_, .mx_i .., h⟩⟩
theorem q_mkfn (f : Fn) (nf : Nat) (xs : List AV) : Pu P (.mkfn f nf) xs k H = ((nf ≤ xs.length) ∧ k (.fn f (xs.take nf) (xs.drop nf)) H) := propext ⟨by rintro ⟨_, h, hk⟩; cases h <;> (try subst_vars) <;> (first | exact hk | (exact ⟨by assumption, hk⟩) | (exact ⟨⟨_, by assumption⟩, hk⟩) | (exfalso; simp_all [AV.val]; done)), fun ⟨h0, h⟩ => ⟨_, by constructor <;> (first | assumption | rfl), h⟩⟩

theorem q_fld_one (off n : Nat) (cs : List AV) : Pu P (.fld off n false) [.agg cs] k H = onSome cs[off]? (fun a => k a H) := propext ⟨by rintro ⟨a, h, hk⟩; cases h; exact onSome_iff.2 ⟨a, by assumption, hk⟩, fun h => by obtain ⟨a, h, hk⟩ := onSome_iff.1 h; exact ⟨a, .fld_one _ _ _ _ h, hk⟩⟩
theorem q_ext (i : Nat) (cs : List AV) : Pu P (.ext i) [.tup cs] k H = onSome cs[i]? (fun a => k a H) := propext ⟨by rintro ⟨a, h, hk⟩; cases h; exact onSome_iff.2 ⟨a, by assumption, hk⟩, fun h => by obtain ⟨a, h, hk⟩ := onSome_iff.1 h; exact ⟨a, .ext _ _ _ h, hk⟩⟩
theorem q_sidx (s : ByteArray) (q : IntKind) (i : Int) : Pu P .sidx [.p (.string s), .p (.int q i)] k H = (0 ≤ i ∧ onSome s[i.toNat]? (fun b => k (.p (.int .u8 b.toNat)) H)) := propext ⟨by rintro ⟨a, h, hk⟩; cases h; exact ⟨by assumption, onSome_iff.2 ⟨_, by assumption, hk⟩⟩, fun ⟨h, h3⟩ => by obtain ⟨b, h2, hk⟩ := onSome_iff.1 h3; exact ⟨_, .sidx _ _ _ _ h h2, hk⟩⟩
theorem q_bld (z : List AV) (pl : List (Nat × Nat)) (xs : List AV) : Pu P (.bld z pl) xs k H = (xs.all AV.part = true ∧ onSome (fillA z pl xs) (fun cs => k (.agg cs) H)) := propext ⟨by rintro ⟨a, h, hk⟩; cases h; exact ⟨by assumption, onSome_iff.2 ⟨_, by assumption, hk⟩⟩, fun ⟨h, h3⟩ => by obtain ⟨cs, h2, hk⟩ := onSome_iff.1 h3; exact ⟨_, .bld _ _ _ _ h h2, hk⟩⟩
theorem q_eql_v (t : TypeId) (a b : AV) (us vs : Array Value) (r : Bool) (h1 : a.val = some (.agg us)) (h2 : b.val = some (.agg vs)) (h3 : P.eqGuardType P.depth t = false) (h4 : ∀ w, (Op.equal t (.agg us) (.agg vs)).run P w = .ok r w) (h : k (.p (.bool r)) H) : Pu P (.bin .eql t) [a, b] k H := ⟨_, .eql_v _ _ _ _ _ _ h1 h2 h3 h4, h⟩
theorem q_neq_v (t : TypeId) (a b : AV) (us vs : Array Value) (r : Bool) (h1 : a.val = some (.agg us)) (h2 : b.val = some (.agg vs)) (h3 : P.eqGuardType P.depth t = false) (h4 : ∀ w, (Op.equal t (.agg us) (.agg vs)).run P w = .ok r w) (h : k (.p (.bool (!r))) H) : Pu P (.bin .neq t) [a, b] k H := ⟨_, .neq_v _ _ _ _ _ _ h1 h2 h3 h4, h⟩

def boxAt : Option AO → Nat → Option (List AV)
  | some (.box _ cs), off => some (cs.drop off)
  | _, _ => none
def rowAt : Option AO → Nat → Nat → Nat → Option (List AV)
  | some (.row _ sz es), sz', i, j => if sz = sz' then es[i]?.map (·.drop j) else none
  | some (.frz sz es), sz', i, j => if sz = sz' then es[i]?.map (·.drop j) else none
  | _, _, _, _ => none
def atF (H : AH) : AV → Option (List AV)
  | .ptr id off => boxAt (H.get id) off
  | .eptr id sz i j => rowAt (H.get id) sz i j
  | .dptr _ xs i j => xs[i]?.map (·.drop j)
  | _ => none
theorem boxAt_box (t : TypeId) (cs : List AV) (off : Nat) : boxAt (some (.box t cs)) off = some (cs.drop off) := rfl
theorem rowAt_row (t : TypeId) (sz : Nat) (es : List (List AV)) (i j : Nat) : rowAt (some (.row t sz es)) sz i j = es[i]?.map (·.drop j) := by simp [rowAt]
theorem rowAt_frz (sz : Nat) (es : List (List AV)) (i j : Nat) : rowAt (some (.frz sz es)) sz i j = es[i]?.map (·.drop j) := by simp [rowAt]
theorem atF_ptr (id off : Nat) : atF H (.ptr id off) = boxAt (H.get id) off := rfl
theorem atF_eptr (id sz i j : Nat) : atF H (.eptr id sz i j) = rowAt (H.get id) sz i j := rfl
theorem atF_dptr (sz : Nat) (xs : List (List AV)) (i j : Nat) : atF H (.dptr sz xs i j) = xs[i]?.map (·.drop j) := rfl
theorem atF_iff {a : AV} {ds : List AV} : AtA H a ds ↔ atF H a = some ds := by
  constructor
  · intro h
    cases h with
    | box id off t cs hg => simp [atF, boxAt, hg]
    | row id sz i j t es e hg he => simp [atF, rowAt, hg, he]
    | frz id sz i j es e hg he => simp [atF, rowAt, hg, he]
    | dat sz i j xs e he => simp [atF, he]
  · intro h
    cases a with
    | ptr id off =>
      rw [atF_ptr] at h
      cases hg : H.get id with
      | none => rw [hg] at h; cases h
      | some o =>
        rw [hg] at h
        cases o <;> simp only [boxAt, Option.some.injEq, reduceCtorEq] at h
        subst h; exact .box _ _ _ _ hg
    | eptr id sz i j =>
      rw [atF_eptr] at h
      cases hg : H.get id with
      | none => rw [hg] at h; cases h
      | some o =>
        rw [hg] at h
        cases o with
        | row t sz2 es =>
          simp only [rowAt] at h
          split at h
          · rename_i e; subst e
            cases he : es[i]? with
            | none => rw [he] at h; cases h
            | some e => rw [he] at h; injection h with h; subst h; exact .row _ _ _ _ _ _ _ hg he
          · cases h
        | frz sz2 es =>
          simp only [rowAt] at h
          split at h
          · rename_i e; subst e
            cases he : es[i]? with
            | none => rw [he] at h; cases h
            | some e => rw [he] at h; injection h with h; subst h; exact .frz _ _ _ _ _ _ hg he
          · cases h
        | _ => cases h
    | dptr sz xs i j =>
      rw [atF_dptr] at h
      cases he : xs[i]? with
      | none => rw [he] at h; cases h
      | some e => rw [he] at h; injection h with h; subst h; exact .dat _ _ _ _ _ he
    | _ => cases h
def ldF (n : Nat) : Bool → Option (List AV) → (AV → Prop) → Prop
  | true, some ds, k => n ≤ ds.length ∧ k (.agg (ds.take n))
  | false, some ds, k => onSome ds[0]? k
  | _, none, _ => False
theorem ldF_t (n : Nat) (ds : List AV) (k : AV → Prop) : ldF n true (some ds) k = (n ≤ ds.length ∧ k (.agg (ds.take n))) := rfl
theorem ldF_f (n : Nat) (ds : List AV) (k : AV → Prop) : ldF n false (some ds) k = onSome ds[0]? k := rfl
theorem rd_ld (n : Nat) (agg : Bool) (a : AV) : Rd P V (.ld n agg) [a] k H = ldF n agg (atF V a) (fun v => k v H) := propext <| by
  constructor
  · rintro ⟨v, h, hk⟩
    cases h with
    | ld_agg _ _ ds hat hn => rw [atF_iff.1 hat]; exact ⟨hn, hk⟩
    | ld_one _ _ b ds hat hb => rw [atF_iff.1 hat]; exact onSome_iff.2 ⟨_, hb, hk⟩
  · intro h
    cases ha : atF V a with
    | none => rw [ha] at h; cases agg <;> exact h.elim
    | some ds =>
      rw [ha] at h
      cases agg with
      | false => obtain ⟨b, hb, hk⟩ := onSome_iff.1 h; exact ⟨_, .ld_one _ _ _ _ (atF_iff.2 ha) hb, hk⟩
      | true => exact ⟨_, .ld_agg _ _ _ (atF_iff.2 ha) h.1, h.2⟩
theorem rds_eq (o : RO) (args : List AV) : RdS P o args k H = Rd P H o args k H := rfl
def lookF (P : Program) (kt : TypeId) (z : AV) (ok : Bool) (key : AV) : Option AO → (AV → Prop) → Prop
  | some (.map kt' _ f), k => kt' = kt ∧ Keyed P kt ∧ onSome key.val (fun u => (keyOf P kt u).isSome = true ∧ k (match f u with
    | none => if ok then .tup [z, .p (.bool false)] else z
    | some b => if ok then .tup [b, .p (.bool true)] else b))
  | _, _ => False
theorem rd_look (kt : TypeId) (z : AV) (ok : Bool) (id : Nat) (key : AV) : Rd P V (.look kt z ok) [.mp id, key] k H = lookF P kt z ok key (V.get id) (fun v => k v H) := propext <| by
  constructor
  · rintro ⟨v, h, hk⟩
    cases h with
    | look_no _ _ _ _ n f _ u hg K hu hi hf => rw [hg]; exact ⟨rfl, K, onSome_iff.2 ⟨u, hu, hi, by rw [hf]; exact hk⟩⟩
    | look_yes _ _ b _ _ n f _ u hg K hu hi hf => rw [hg]; exact ⟨rfl, K, onSome_iff.2 ⟨u, hu, hi, by rw [hf]; exact hk⟩⟩
  · intro h
    cases hg : V.get id with
    | none => rw [hg] at h; exact h.elim
    | some o =>
      rw [hg] at h
      cases o with
      | map kt2 n f =>
        obtain ⟨rfl, K, h⟩ := h
        obtain ⟨u, hu, hi, hk⟩ := onSome_iff.1 h
        cases hf : f u with
        | none => rw [hf] at hk; exact ⟨_, .look_no _ _ _ _ _ _ _ _ hg K hu hi hf, hk⟩
        | some b => rw [hf] at hk; exact ⟨_, .look_yes _ _ _ _ _ _ _ _ _ hg K hu hi hf, hk⟩
      | _ => exact h.elim
def chunks (sz : Nat) : Nat → List AV → List (List AV)
  | 0, _ => []
  | n + 1, cs => cs.take sz :: chunks sz n (cs.drop sz)
theorem chunks_flat {sz : Nat} : ∀ {es : List (List AV)}, (∀ e ∈ es, e.length = sz) → chunks sz es.length es.flatten = es
  | [], _ => rfl
  | e :: es, h => by
    have he : e.length = sz := h e (by simp)
    rw [List.length_cons, List.flatten_cons, chunks, List.take_append_of_le_length (by omega), List.take_of_length_le (by omega), List.drop_append_of_le_length (by omega), List.drop_of_length_le (by omega), List.nil_append, chunks_flat fun e he => h e (by simp [he])]
theorem chunks_spec {sz : Nat} : ∀ {n : Nat} {cs : List AV}, cs.length = n * sz → (chunks sz n cs).flatten = cs ∧ (chunks sz n cs).length = n ∧ ∀ e ∈ chunks sz n cs, e.length = sz
  | 0, cs, h => by simp at h; subst h; simp [chunks]
  | n + 1, cs, h => by
    rw [Nat.add_mul, Nat.one_mul] at h
    obtain ⟨h1, h2, h3⟩ := chunks_spec (sz := sz) (n := n) (cs := cs.drop sz) (by rw [List.length_drop]; omega)
    refine ⟨by rw [chunks, List.flatten_cons, h1, List.take_append_drop], by rw [chunks, List.length_cons, h2], fun e he => ?_⟩
    rw [chunks, List.mem_cons] at he
    rcases he with rfl | he
    · rw [List.length_take]; omega
    · exact h3 e he
theorem al_nw (id : Nat) (t : TypeId) (z : List AV) : Al id (.nw t z) [] k H = k (.ptr id 0) (H.put id (.box t z)) := propext ⟨by rintro ⟨_, _, h, hk⟩; cases h; exact hk, fun h => ⟨_, _, .nw _ _, h⟩⟩
theorem al_bx (id : Nat) (t : TypeId) (a : AV) : Al id (.bx t) [a] k H = (a.part = true ∧ k (.ptr id 0) (H.put id (.box t a.cells))) := propext ⟨by rintro ⟨_, _, h, hk⟩; cases h; exact ⟨by assumption, hk⟩, fun ⟨h1, h⟩ => ⟨_, _, .bx _ _ h1, h⟩⟩
theorem al_mm (id : Nat) (kt : TypeId) : Al id (.mm kt) [] k H = k (.mp id) (H.put id (.map kt 0 (fun _ => none))) := propext ⟨by rintro ⟨_, _, h, hk⟩; cases h; exact hk, fun h => ⟨_, _, .mm _, h⟩⟩
theorem al_ms (id t sz bytes : Nat) (z : List AV) (q q2 : IntKind) (l c : Int) : Al id (.ms t sz bytes z) [.p (.int q l), .p (.int q2 c)] k H = (0 ≤ l ∧ l ≤ c ∧ c ≤ maxLen ∧ c * bytes ≤ 140737488355328 ∧ k (.osl id sz 0 l.toNat) (H.put id (.row t sz (List.replicate l.toNat z)))) :=
  propext ⟨by rintro ⟨_, _, h, hk⟩; cases h; exact ⟨by assumption, by assumption, by assumption, by assumption, hk⟩, fun ⟨h1, h2, h3, h4, h⟩ => ⟨_, _, .ms _ _ _ _ _ _ _ _ h1 h2 h3 h4, h⟩⟩
theorem al_bs (id t sz len : Nat) (z : List AV) (pl : List (Nat × Nat)) (xs : List AV) : Al id (.bs t sz len z pl) xs k H = (xs.all AV.part = true ∧ onSome (fillA (List.replicate len z).flatten pl xs) (fun cs => cs.length = len * sz ∧ k (.osl id sz 0 len) (H.put id (.row t sz (chunks sz len cs))))) := propext <| by
  constructor
  · rintro ⟨_, _, h, hk⟩
    cases h with
    | bs _ _ _ _ _ _ es h1 h2 h3 h4 =>
      refine ⟨h1, onSome_iff.2 ⟨_, h4, ?_, ?_⟩⟩
      · subst h2
        clear h4 hk
        induction es with
        | nil => simp
        | cons e es ih => rw [List.flatten_cons, List.length_append, ih fun e he => h3 e (by simp [he]), h3 e (by simp), List.length_cons, Nat.add_mul]; omega
      · subst h2; rw [chunks_flat h3]; exact hk
  · rintro ⟨h1, h⟩
    obtain ⟨cs, h2, h3, h4⟩ := onSome_iff.1 h
    obtain ⟨g1, g2, g3⟩ := chunks_spec h3
    exact ⟨_, _, .bs _ _ _ _ _ _ _ h1 g2 g3 (by rw [g1]; exact h2), h4⟩
def elRow : Option AO → Nat → Nat → Nat → Option (List (List AV))
  | some (.row _ sz es), sz', off, n => if sz = sz' ∧ off + n ≤ es.length then some ((es.drop off).take n) else none
  | some (.frz sz es), sz', off, n => if sz = sz' ∧ off + n ≤ es.length then some ((es.drop off).take n) else none
  | _, _, _, _ => none
def elF (H : AH) (sz : Nat) : AV → Option (List (List AV))
  | .dsl sz' xs => if sz' = sz then some xs else none
  | .osl id sz' off n => if sz' = sz then elRow (H.get id) sz off n else none
  | .p (.slice _ 0 _) => some []
  | _ => none
theorem elF_dsl (sz : Nat) (xs : List (List AV)) : elF H sz (.dsl sz xs) = some xs := by simp [elF]
theorem elF_nil (sz c : Nat) (A : Option Addr) : elF H sz (.p (.slice A 0 c)) = some [] := rfl
theorem elF_osl (id sz off n : Nat) : elF H sz (.osl id sz off n) = elRow (H.get id) sz off n := by simp [elF]
theorem elRow_row (t : TypeId) (sz : Nat) (es : List (List AV)) (off n : Nat) (h : off + n ≤ es.length) : elRow (some (.row t sz es)) sz off n = some ((es.drop off).take n) := by simp [elRow, h]
theorem elRow_frz (sz : Nat) (es : List (List AV)) (off n : Nat) (h : off + n ≤ es.length) : elRow (some (.frz sz es)) sz off n = some ((es.drop off).take n) := by simp [elRow, h]
theorem elF_iff {sz : Nat} {a : AV} {ys : List (List AV)} : ElA H sz a ys ↔ elF H sz a = some ys := by
  constructor
  · intro h
    cases h with
    | dsl xs => simp [elF]
    | row id off n t es hg hn => simp [elF, elRow, hg, hn]
    | frz id off n es hg hn => simp [elF, elRow, hg, hn]
    | nil_ A c => rfl
  · intro h
    cases a with
    | dsl sz2 xs =>
      simp only [elF] at h
      split at h
      · rename_i e; subst e; injection h with h; subst h; exact .dsl _
      · cases h
    | osl id sz2 off n =>
      simp only [elF] at h
      split at h
      · rename_i e; subst e
        cases hg : H.get id with
        | none => rw [hg] at h; cases h
        | some o =>
          rw [hg] at h
          cases o with
          | row t sz3 es =>
            simp only [elRow] at h
            split at h
            · rename_i e; obtain ⟨rfl, e⟩ := e; injection h with h; subst h; exact .row _ _ _ _ _ hg e
            · cases h
          | frz sz3 es =>
            simp only [elRow] at h
            split at h
            · rename_i e; obtain ⟨rfl, e⟩ := e; injection h with h; subst h; exact .frz _ _ _ _ hg e
            · cases h
          | _ => cases h
      · cases h
    | p v =>
      unfold elF at h
      split at h
      · rename_i e; cases e
      · rename_i e; cases e
      · rename_i e; injection e with e; subst e; injection h with h; subst h; exact .nil_ _ _
      · cases h
    | _ => cases h
theorem wrs_eq (id : Nat) (o : WO) (args : List AV) : WrS P id o args k H = Wr P id o args (fun a _ => k a) H := rfl
variable {k2 : AV → AH → AH → Prop}
def stBox (n i off : Nat) (a : AV) (H : AH) (k : AH → Prop) : Option AO → Prop
  | some (.box t cs) => a.part = true ∧ a.cells.length = n ∧ off + n ≤ cs.length ∧ k (H.put i (.box t (cs.take off ++ a.cells ++ cs.drop (off + n))))
  | _ => False
theorem wr_st_ptr (id n i off : Nat) (a : AV) : Wr P id (.st n) [.ptr i off, a] k2 H = stBox n i off a H (fun H' => k2 .any H' H') (H.get i) := propext <| by
  constructor
  · rintro ⟨_, _, h, hk⟩
    cases h with
    | st_box _ _ _ t cs _ _ hg h1 h2 h3 => rw [hg]; exact ⟨h1, h2, h3, hk⟩
  · intro h
    cases hg : H.get i with
    | none => rw [hg] at h; exact h.elim
    | some o =>
      rw [hg] at h
      cases o with
      | box t cs => obtain ⟨h1, h2, h3, h4⟩ := h; exact ⟨_, _, .st_box _ _ _ _ _ _ _ hg h1 h2 h3, h4⟩
      | _ => exact h.elim
def stRow (n i sz q j : Nat) (a : AV) (H : AH) (k : AH → Prop) : Option AO → Prop
  | some (.row t sz' es) => sz' = sz ∧ onSome es[q]? (fun e => a.part = true ∧ a.cells.length = n ∧ j + n ≤ sz ∧ k (H.put i (.row t sz (es.set q (e.take j ++ a.cells ++ e.drop (j + n))))))
  | _ => False
theorem wr_st_eptr (id n i sz q j : Nat) (a : AV) : Wr P id (.st n) [.eptr i sz q j, a] k2 H = stRow n i sz q j a H (fun H' => k2 .any H' H') (H.get i) := propext <| by
  constructor
  · rintro ⟨_, _, h, hk⟩
    cases h with
    | st_row _ _ _ _ _ t es e _ _ hg he h1 h2 h3 => rw [hg]; exact ⟨rfl, onSome_iff.2 ⟨e, he, h1, h2, h3, hk⟩⟩
  · intro h
    cases hg : H.get i with
    | none => rw [hg] at h; exact h.elim
    | some o =>
      rw [hg] at h
      cases o with
      | row t sz2 es => obtain ⟨rfl, h⟩ := h; obtain ⟨e, he, h1, h2, h3, h4⟩ := onSome_iff.1 h; exact ⟨_, _, .st_row _ _ _ _ _ _ _ _ _ _ hg he h1 h2 h3, h4⟩
      | _ => exact h.elim
def appRow (id t sz bytes r off n : Nat) (H : AH) (k : AV → AH → Prop) : Option AO → Option (List (List AV)) → Prop
  | some (.row t' sz' es), some ys => t' = t ∧ sz' = sz ∧ off + n ≤ es.length ∧ n + ys.length ≤ maxLen ∧ (n + ys.length) * bytes ≤ 140737488355328 ∧ k (.osl id sz 0 (n + ys.length)) ((H.kill r).put id (.row t sz ((es.drop off).take n ++ ys)))
  | _, _ => False
theorem wr_app_osl (id t sz bytes r off n : Nat) (x : AV) : Wr P id (.app t sz bytes) [.osl r sz off n, x] k2 H = appRow id t sz bytes r off n H (fun a H' => k2 a H' H') (H.get r) (elF H sz x) := propext <| by
  constructor
  · rintro ⟨_, _, h, hk⟩
    cases h with
    | app_row _ _ _ _ _ _ es ys _ _ hg h1 h2 h3 h4 => rw [hg, elF_iff.1 h2]; exact ⟨rfl, rfl, h1, h3, h4, hk⟩
  · intro h
    cases hg : H.get r with
    | none => rw [hg] at h; exact h.elim
    | some o =>
      cases he : elF H sz x with
      | none => rw [hg, he] at h; cases o <;> exact h.elim
      | some ys =>
        rw [hg, he] at h
        cases o with
        | row t2 sz2 es => obtain ⟨rfl, rfl, h1, h2, h3, h4⟩ := h; exact ⟨_, _, .app_row _ _ _ _ _ _ _ _ _ _ hg h1 (elF_iff.2 he) h2 h3, h4⟩
        | _ => exact h.elim
def appNil (id t sz bytes : Nat) (H : AH) (k : AV → AH → Prop) : Option (List (List AV)) → Prop
  | some ys => ys.length ≤ maxLen ∧ ys.length * bytes ≤ 140737488355328 ∧ k (.osl id sz 0 ys.length) (H.put id (.row t sz ys))
  | _ => False
theorem wr_app_nil (id t sz bytes : Nat) (x : AV) : Wr P id (.app t sz bytes) [.p (.slice none 0 0), x] k2 H = appNil id t sz bytes H (fun a H' => k2 a H' H') (elF H sz x) := propext <| by
  constructor
  · rintro ⟨_, _, h, hk⟩
    cases h with
    | app_nil _ _ _ ys _ _ h2 h3 h4 => rw [elF_iff.1 h2]; exact ⟨h3, h4, hk⟩
  · intro h
    cases he : elF H sz x with
    | none => rw [he] at h; exact h.elim
    | some ys => rw [he] at h; exact ⟨_, _, .app_nil _ _ _ _ _ _ (elF_iff.2 he) h.1 h.2.1, h.2.2⟩
def msetF (P : Program) (kt i : Nat) (key a : AV) (H : AH) (k : AH → Prop) : Option AO → Prop
  | some (.map kt' n f) => kt' = kt ∧ Keyed P kt ∧ onSome key.val (fun u => (keyOf P kt u).isSome = true ∧ n < maxLen ∧ k (H.put i (.map kt (n + 1) (putA f u a))))
  | _ => False
theorem q_mset (id kt i : Nat) (key a : AV) : Wr P id (.mset kt) [.mp i, key, a] k2 H = msetF P kt i key a H (fun H' => k2 .any H' H') (H.get i) := propext <| by
  constructor
  · rintro ⟨_, _, h, hk⟩
    cases h with
    | mset _ _ n f _ _ u _ hg K hu hi hn => rw [hg]; exact ⟨rfl, K, onSome_iff.2 ⟨u, hu, hi, hn, hk⟩⟩
  · intro h
    cases hg : H.get i with
    | none => rw [hg] at h; exact h.elim
    | some o =>
      rw [hg] at h
      cases o with
      | map kt2 n f => obtain ⟨rfl, K, h⟩ := h; obtain ⟨u, hu, hi, hn, hk⟩ := onSome_iff.1 h; exact ⟨_, _, .mset _ _ _ _ _ _ _ _ hg K hu hi hn, hk⟩
      | _ => exact h.elim
theorem wr_apz_nil (id t sz bytes : Nat) (z : List AV) (q : IntKind) (n : Int) : Wr P id (.apz t sz bytes z) [.p (.slice none 0 0), .p (.int q n)] k2 H = (0 ≤ n ∧ n ≤ maxLen ∧ n * bytes ≤ 140737488355328 ∧ k2 (.osl id sz 0 n.toNat) (H.put id (.row t sz (List.replicate n.toNat z))) (H.put id (.row t sz (List.replicate n.toNat z)))) := propext <| by
  constructor
  · rintro ⟨_, _, h, hk⟩
    cases h with
    | apz _ _ _ _ _ _ _ h1 h2 h3 => exact ⟨h1, h2, h3, hk⟩
  · rintro ⟨h1, h2, h3, hk⟩
    exact ⟨_, _, .apz _ _ _ _ _ _ _ h1 h2 h3, hk⟩
def clrRow (r sz off n : Nat) (z : List AV) (H : AH) (k : AH → Prop) : Option AO → Prop
  | some (.row t sz' es) => sz' = sz ∧ off + n ≤ es.length ∧ k (H.put r (.row t sz (es.take off ++ List.replicate n z ++ es.drop (off + n))))
  | _ => False
theorem wr_clr_osl (id sz r off n : Nat) (z : List AV) : Wr P id (.clr sz z) [.osl r sz off n] k2 H = clrRow r sz off n z H (fun H' => k2 .any H' H') (H.get r) := propext <| by
  constructor
  · rintro ⟨_, _, h, hk⟩
    cases h with
    | clr _ _ _ _ _ t es _ hg h1 => rw [hg]; exact ⟨rfl, h1, hk⟩
  · intro h
    cases hg : H.get r with
    | none => rw [hg] at h; exact h.elim
    | some o =>
      rw [hg] at h
      cases o with
      | row t sz2 es => obtain ⟨rfl, h1, h2⟩ := h; exact ⟨_, _, .clr _ _ _ _ _ _ _ _ hg h1, h2⟩
      | _ => exact h.elim
theorem wf_st (V : AH) (tgt src : Option Nat) (id n i off : Nat) (a : AV) : WrF V tgt src id (.st n) [.ptr i off, a] k H = (tgt = some i ∧ V.get i = none ∧ stBox n i off a H (fun H' => k .any H') (H.get i)) := propext <| by
  constructor
  · rintro ⟨_, _, h, hk⟩
    cases h with
    | st _ _ _ t cs _ _ h1 h2 hg h3 h4 h5 => rw [hg]; exact ⟨h1, h2, h3, h4, h5, hk⟩
  · rintro ⟨h1, h2, h⟩
    cases hg : H.get i with
    | none => rw [hg] at h; exact h.elim
    | some o =>
      rw [hg] at h
      cases o with
      | box t cs => obtain ⟨h3, h4, h5, h6⟩ := h; exact ⟨_, _, .st _ _ _ _ _ _ _ h1 h2 hg h3 h4 h5, h6⟩
      | _ => exact h.elim
theorem cd_eq (c : Bool) (X Y : AH → Prop) : CdA (.p (.bool c)) X Y H = ((c = true → X H) ∧ (c = false → Y H)) := propext ⟨by rintro ⟨b, h, hk⟩; cases h; exact hk, fun h => ⟨c, rfl, h⟩⟩
theorem gd_eq (c want : Bool) (F : (AV → AH → Prop) → AH → Prop) : Gd (.p (.bool c)) want F k H = ((c = want → F k H) ∧ (c ≠ want → k (.tup []) H)) := propext ⟨by
  rintro ⟨b, h, h1, h2⟩
  cases b with
  | none => cases h
  | some b => cases h; exact ⟨fun e => h1 (by rw [e]), fun e => h2 (fun e2 => e (by injection e2))⟩, fun ⟨h1, h2⟩ => ⟨some c, rfl, fun e => h1 (by injection e), fun e => h2 (fun e2 => e (by rw [e2]))⟩⟩
theorem gdv_eq (c want : Bool) (F : (AV → AH → AH → Prop) → AH → Prop) : GdV (.p (.bool c)) want F V k2 H = ((c = want → F k2 H) ∧ (c ≠ want → k2 (.tup []) V H)) := propext ⟨by
  rintro ⟨b, h, h1, h2⟩
  cases b with
  | none => cases h
  | some b => cases h; exact ⟨fun e => h1 (by rw [e]), fun e => h2 (fun e2 => e (by injection e2))⟩, fun ⟨h1, h2⟩ => ⟨some c, rfl, fun e => h1 (by injection e), fun e => h2 (fun e2 => e (by rw [e2]))⟩⟩
theorem gd_sk (want : Bool) (F : (AV → AH → Prop) → AH → Prop) : Gd (.tup []) want F k H = k (.tup []) H := propext ⟨by
  rintro ⟨b, h, h1, h2⟩
  cases b with
  | some b => cases h
  | none => exact h2 (by simp), fun h => ⟨none, rfl, fun e => (by cases e), fun _ => h⟩⟩
theorem gdv_sk (want : Bool) (F : (AV → AH → AH → Prop) → AH → Prop) : GdV (.tup []) want F V k2 H = k2 (.tup []) V H := propext ⟨by
  rintro ⟨b, h, h1, h2⟩
  cases b with
  | some b => cases h
  | none => exact h2 (by simp), fun h => ⟨none, rfl, fun e => (by cases e), fun _ => h⟩⟩
theorem cd_t (X Y : AH → Prop) : CdA (.p (.bool true)) X Y H = X H := by rw [cd_eq]; simp
theorem cd_f (X Y : AH → Prop) : CdA (.p (.bool false)) X Y H = Y H := by rw [cd_eq]; simp
theorem gd_tt (F : (AV → AH → Prop) → AH → Prop) : Gd (.p (.bool true)) true F k H = F k H := by rw [gd_eq]; simp
theorem gd_ff (F : (AV → AH → Prop) → AH → Prop) : Gd (.p (.bool false)) false F k H = F k H := by rw [gd_eq]; simp
theorem gd_tf (F : (AV → AH → Prop) → AH → Prop) : Gd (.p (.bool true)) false F k H = k (.tup []) H := by rw [gd_eq]; simp
theorem gd_ft (F : (AV → AH → Prop) → AH → Prop) : Gd (.p (.bool false)) true F k H = k (.tup []) H := by rw [gd_eq]; simp
theorem gdv_tt (F : (AV → AH → AH → Prop) → AH → Prop) : GdV (.p (.bool true)) true F V k2 H = F k2 H := by rw [gdv_eq]; simp
theorem gdv_ff (F : (AV → AH → AH → Prop) → AH → Prop) : GdV (.p (.bool false)) false F V k2 H = F k2 H := by rw [gdv_eq]; simp
theorem gdv_tf (F : (AV → AH → AH → Prop) → AH → Prop) : GdV (.p (.bool true)) false F V k2 H = k2 (.tup []) V H := by rw [gdv_eq]; simp
theorem gdv_ft (F : (AV → AH → AH → Prop) → AH → Prop) : GdV (.p (.bool false)) true F V k2 H = k2 (.tup []) V H := by rw [gdv_eq]; simp
/-- a truth that is first told as short as can be: what waits behind it is not looked at -/
def bm (b : Bool) : Bool := b
def bm' (b : Bool) : Bool := b
theorem bm_eq (b : Bool) : bm b = bm' b := rfl
def CdB (c : Bool) (X Y : AH → Prop) (H : AH) : Prop := (c = true → X H) ∧ (c = false → Y H)
def GdB (c want : Bool) (F : (AV → AH → Prop) → AH → Prop) (k : AV → AH → Prop) (H : AH) : Prop := (c = want → F k H) ∧ (c ≠ want → k (.tup []) H)
def GvB (c want : Bool) (F : (AV → AH → AH → Prop) → AH → Prop) (V : AH) (k : AV → AH → AH → Prop) (H : AH) : Prop := (c = want → F k H) ∧ (c ≠ want → k (.tup []) V H)
theorem cd_b (c : Bool) (X Y : AH → Prop) : CdA (.p (.bool c)) X Y H = CdB (bm c) X Y H := cd_eq c X Y
theorem gd_b (c want : Bool) (F : (AV → AH → Prop) → AH → Prop) : Gd (.p (.bool c)) want F k H = GdB (bm c) want F k H := gd_eq c want F
theorem gdv_b (c want : Bool) (F : (AV → AH → AH → Prop) → AH → Prop) : GdV (.p (.bool c)) want F V k2 H = GvB (bm c) want F V k2 H := gdv_eq c want F
theorem cdb_congr {c c' : Bool} {X Y : AH → Prop} (h : c = c') : CdB c X Y H = CdB c' X Y H := by rw [h]
theorem gdb_congr {c c' b : Bool} {F : (AV → AH → Prop) → AH → Prop} (h : c = c') : GdB c b F k H = GdB c' b F k H := by rw [h]
theorem gvb_congr {c c' b : Bool} {F : (AV → AH → AH → Prop) → AH → Prop} (h : c = c') : GvB c b F V k2 H = GvB c' b F V k2 H := by rw [h]
theorem cdb_t (X Y : AH → Prop) : CdB (bm' true) X Y H = X H := propext ⟨fun h => h.1 rfl, fun h => ⟨fun _ => h, fun e => by cases e⟩⟩
theorem cdb_f (X Y : AH → Prop) : CdB (bm' false) X Y H = Y H := propext ⟨fun h => h.2 rfl, fun h => ⟨fun e => (by cases e), fun _ => h⟩⟩
theorem cdb_eq (c : Bool) (X Y : AH → Prop) : CdB (bm' c) X Y H = ((c = true → X H) ∧ (c = false → Y H)) := rfl
theorem gdb_tt (F : (AV → AH → Prop) → AH → Prop) : GdB (bm' true) true F k H = F k H := propext ⟨fun h => h.1 rfl, fun h => ⟨fun _ => h, fun e => absurd rfl e⟩⟩
theorem gdb_ff (F : (AV → AH → Prop) → AH → Prop) : GdB (bm' false) false F k H = F k H := propext ⟨fun h => h.1 rfl, fun h => ⟨fun _ => h, fun e => absurd rfl e⟩⟩
theorem gdb_tf (F : (AV → AH → Prop) → AH → Prop) : GdB (bm' true) false F k H = k (.tup []) H := propext ⟨fun h => h.2 (by decide), fun h => ⟨fun e => (by cases e), fun _ => h⟩⟩
theorem gdb_ft (F : (AV → AH → Prop) → AH → Prop) : GdB (bm' false) true F k H = k (.tup []) H := propext ⟨fun h => h.2 (by decide), fun h => ⟨fun e => (by cases e), fun _ => h⟩⟩
theorem gdb_eq (c want : Bool) (F : (AV → AH → Prop) → AH → Prop) : GdB (bm' c) want F k H = ((c = want → F k H) ∧ (c ≠ want → k (.tup []) H)) := rfl
theorem gvb_tt (F : (AV → AH → AH → Prop) → AH → Prop) : GvB (bm' true) true F V k2 H = F k2 H := propext ⟨fun h => h.1 rfl, fun h => ⟨fun _ => h, fun e => absurd rfl e⟩⟩
theorem gvb_ff (F : (AV → AH → AH → Prop) → AH → Prop) : GvB (bm' false) false F V k2 H = F k2 H := propext ⟨fun h => h.1 rfl, fun h => ⟨fun _ => h, fun e => absurd rfl e⟩⟩
theorem gvb_tf (F : (AV → AH → AH → Prop) → AH → Prop) : GvB (bm' true) false F V k2 H = k2 (.tup []) V H := propext ⟨fun h => h.2 (by decide), fun h => ⟨fun e => (by cases e), fun _ => h⟩⟩
theorem gvb_ft (F : (AV → AH → AH → Prop) → AH → Prop) : GvB (bm' false) true F V k2 H = k2 (.tup []) V H := propext ⟨fun h => h.2 (by decide), fun h => ⟨fun e => (by cases e), fun _ => h⟩⟩
theorem gvb_eq (c want : Bool) (F : (AV → AH → AH → Prop) → AH → Prop) : GvB (bm' c) want F V k2 H = ((c = want → F k2 H) ∧ (c ≠ want → k2 (.tup []) V H)) := rfl
theorem pick_t (a b : AV) : Pu P .pick [.p (.bool true), a, b] k H = k a H := by rw [q_pick]; simp
theorem pick_f (a b : AV) : Pu P .pick [.p (.bool false), a, b] k H = k b H := by rw [q_pick]; simp
theorem onSome_congr {α : Type} {o o' : Option α} {k : α → Prop} (h : o = o') : onSome o k = onSome o' k := by rw [h]
theorem pu_congr {o : PO} {a a' : List AV} (h : a = a') : Pu P o a k H = Pu P o a' k H := by rw [h]
theorem rds_congr {o : RO} {a a' : List AV} (h : a = a') : RdS P o a k H = RdS P o a' k H := by rw [h]
theorem rd_congr {o : RO} {a a' : List AV} (h : a = a') : Rd P V o a k H = Rd P V o a' k H := by rw [h]
theorem al_congr {id : Nat} {o : AOp} {a a' : List AV} (h : a = a') : Al id o a k H = Al id o a' k H := by rw [h]
theorem wr_congr {id : Nat} {o : WO} {a a' : List AV} (h : a = a') : Wr P id o a k2 H = Wr P id o a' k2 H := by rw [h]
theorem wrs_congr {id : Nat} {o : WO} {a a' : List AV} (h : a = a') : WrS P id o a k H = WrS P id o a' k H := by rw [h]
theorem wrf_congr {tgt src : Option Nat} {id : Nat} {o : WO} {a a' : List AV} (h : a = a') : WrF V tgt src id o a k H = WrF V tgt src id o a' k H := by rw [h]
theorem ca_congr {f f' : AV} {a a' : List AV} (h1 : f = f') (h : a = a') : Ca P f a k H = Ca P f' a' k H := by rw [h, h1]
theorem cav_congr {f f' : AV} {a a' : List AV} (h1 : f = f') (h : a = a') : CaV P V f a k H = CaV P V f' a' k H := by rw [h, h1]
theorem cd_congr {c c' : AV} {X Y : AH → Prop} (h : c = c') : CdA c X Y H = CdA c' X Y H := by rw [h]
theorem gd_congr {c c' : AV} {b : Bool} {F : (AV → AH → Prop) → AH → Prop} (h : c = c') : Gd c b F k H = Gd c' b F k H := by rw [h]
theorem gdv_congr {c c' : AV} {b : Bool} {F : (AV → AH → AH → Prop) → AH → Prop} (h : c = c') : GdV c b F V k2 H = GdV c' b F V k2 H := by rw [h]
theorem loop_congr {m : Nat} {F : List AV → (List AV → AH → Prop) → AH → Prop} {a a' : List AV} (h : a = a') : LoopA P m F a H = LoopA P m F a' H := by rw [h]
theorem cut_congr {m : Nat} {A : (List AV → AH → Prop) → AH → Prop} {K : List AV → AH → Prop} : CutA P m A K H = CutA P m A K H := rfl
theorem rt_congr {B : Nat} {a a' : AV} {Q : AV → AH → Prop} (h : a = a') : Rt P B a Q H = Rt P B a' Q H := by rw [h]
theorem ldF_congr {n : Nat} {b : Bool} {o o' : Option (List AV)} {k : AV → Prop} (h : o = o') : ldF n b o k = ldF n b o' k := by rw [h]
theorem lookF_congr {kt : TypeId} {z key : AV} {ok : Bool} {o o' : Option AO} {k : AV → Prop} (h : o = o') : lookF P kt z ok key o k = lookF P kt z ok key o' k := by rw [h]
theorem stBox_congr {n i off : Nat} {a : AV} {k : AH → Prop} {o o' : Option AO} (h : o = o') : stBox n i off a H k o = stBox n i off a H k o' := by rw [h]
theorem stRow_congr {n i sz q j : Nat} {a : AV} {k : AH → Prop} {o o' : Option AO} (h : o = o') : stRow n i sz q j a H k o = stRow n i sz q j a H k o' := by rw [h]
theorem appRow_congr {id t sz bytes r off n : Nat} {o o' : Option AO} {e e' : Option (List (List AV))} (h : o = o') (h2 : e = e') : appRow id t sz bytes r off n H k o e = appRow id t sz bytes r off n H k o' e' := by rw [h, h2]
theorem appNil_congr {id t sz bytes : Nat} {e e' : Option (List (List AV))} (h2 : e = e') : appNil id t sz bytes H k e = appNil id t sz bytes H k e' := by rw [h2]
theorem msetF_congr {kt i : Nat} {key a : AV} {k : AH → Prop} {o o' : Option AO} (h : o = o') : msetF P kt i key a H k o = msetF P kt i key a H k o' := by rw [h]
theorem clrRow_congr {r sz off n : Nat} {z : List AV} {k : AH → Prop} {o o' : Option AO} (h : o = o') : clrRow r sz off n z H k o = clrRow r sz off n z H k o' := by rw [h]
theorem rdn_eq (sl : List Nat) (o : RO) (args : List AV) : RdN P V sl o args k H = Rd P (mixV V H sl) o args k H := rfl
theorem mixV_nil : mixV V H [] = V := rfl
theorem mixV_cons (i : Nat) (r : List Nat) : mixV V H (i :: r) = mixO (H.get i) i (mixV V H r) := rfl
theorem mixO_some (o : AO) (i : Nat) : mixO (some o) i H = H.put i o := rfl
theorem mixO_none (i : Nat) : mixO none i H = H := rfl
theorem can_congr {sl : List Nat} {f f' : AV} {a a' : List AV} (h1 : f = f') (h : a = a') : CaN P V sl f a k H = CaN P V sl f' a' k H := by rw [h, h1]
theorem rg_eq (m : Nat) (F : Nat → AH → Prop) : Rg m F H = F H.nx (H.up m) := rfl
theorem vw_eq (F : AH → AH → Prop) : Vw F H = F H H := rfl
theorem up_get (n i : Nat) : (H.up n).get i = H.get i := rfl
theorem up_nx (n : Nat) : (H.up n).nx = H.nx + n := rfl
theorem put_nx (i : Nat) (o : AO) : (H.put i o).nx = H.nx := rfl
theorem kill_nx (i : Nat) : (H.kill i).nx = H.nx := rfl
theorem put_get (i : Nat) (o : AO) : (H.put i o).get i = some o := AH.get_put_self
theorem put_get_ne (i j : Nat) (o : AO) (h : j ≠ i) : (H.put i o).get j = H.get j := AH.get_put_ne h
theorem kill_get_ne (i j : Nat) (h : j ≠ i) : (H.kill i).get j = H.get j := AH.get_put_ne h
end
end Go.Proofs.Ytcmnjoepadjioaa

/- Ghost steps and contracts of abstract walks: what is let go, what is frozen, what is handed on. Nothing of the program is named here. -/
namespace Go.Proofs.Ytcmnjoepadjioaa
open Go.RowKit Go.Maps

section
variable {P : Program} {w : World} {S : Nat → Prop} {σ : Nat → Option Value} {H H0 H1 H2 V : AH} {B : Nat}
def cutS (B : Nat) (σ : Nat → Option Value) : Nat → Option Value := fun id => if id < B then σ id else none
theorem cutS_lt {id : Nat} (h : id < B) : cutS B σ id = σ id := by simp [cutS, h]
theorem cutS_some {id : Nat} {u : Value} (h : cutS B σ id = some u) : id < B ∧ σ id = some u := by
  unfold cutS at h
  split at h
  · exact ⟨by assumption, h⟩
  · cases h
/-- what names nothing from B on -/
def Cl (B : Nat) (a : AV) : Prop := ∀ w S σ v, Rp w S σ a v → Rp w S (cutS B σ) a v
def Clo (B : Nat) (ps : List AV) : Prop := ∀ a ∈ ps, Cl B a
theorem Clo.rps {ps : List AV} {vs : List Value} (h : Clo B ps) (hr : Rps w S σ ps vs) : Rps w S (cutS B σ) ps vs := ⟨hr.1, fun i a v ha hv => h a (List.mem_of_getElem? ha) _ _ _ _ (hr.2 i a v ha hv)⟩
theorem Clo.nil : Clo B [] := fun _ h => by cases h
theorem Clo.cons {a : AV} {ps : List AV} (h : Cl B a) (k : Clo B ps) : Clo B (a :: ps) := fun x hx => by
  rcases List.mem_cons.1 hx with rfl | hx
  · exact h
  · exact k x hx
theorem Clo.one {a : AV} (h : Cl B a) : Clo B [a] := .cons h .nil
theorem Cl.any : Cl B .any := fun _ _ _ _ _ => .any _
theorem Cl.p (v : Value) : Cl B (.p v) := fun _ _ _ u h => by obtain ⟨rfl, h1⟩ := h.p_inv; exact .data _ _ (.p _ h1)
theorem Cl.dsl (sz : Nat) (xs : List (List AV)) : Cl B (.dsl sz xs) := fun w S σ u h => by
  cases h with
  | data _ _ h => exact .data _ _ h
theorem Cl.dptr (sz : Nat) (xs : List (List AV)) (i j : Nat) : Cl B (.dptr sz xs i j) := fun w S σ u h => by
  cases h with
  | data _ _ h => cases h
  | dptr _ _ _ _ g o c h hi => exact .dptr _ _ _ _ g o c h hi
theorem Cl.ptr {id off : Nat} (h : id < B) : Cl B (.ptr id off) := fun w S σ u hr => by
  obtain ⟨g, rfl, hg⟩ := hr.ptr_inv; exact .ptr _ _ _ (by rw [cutS_lt h]; exact hg)
theorem Cl.mp {id : Nat} (h : id < B) : Cl B (.mp id) := fun w S σ u hr => by
  obtain ⟨g, rfl, hg⟩ := hr.mp_inv; exact .mp _ _ (by rw [cutS_lt h]; exact hg)
theorem Cl.eptr {id sz i j : Nat} (h : id < B) : Cl B (.eptr id sz i j) := fun w S σ u hr => by
  obtain ⟨g, o, n, c, rfl, hg⟩ := hr.eptr_inv; exact .eptr _ _ _ _ _ _ n c (by rw [cutS_lt h]; exact hg)
theorem Cl.osl {id sz off n : Nat} (h : id < B) : Cl B (.osl id sz off n) := fun w S σ u hr => by
  obtain ⟨A, Bx, N, c, cc, rfl, hg, h1, h2, h3⟩ := hr.osl_inv; exact .osl _ _ _ _ A _ N c _ (by rw [cutS_lt h]; exact hg) h1 h2 h3
theorem Cl.agg {cs : List AV} (h : Clo B cs) : Cl B (.agg cs) := fun w S σ u hr => by
  cases hr with
  | data _ _ hd => exact .data _ _ hd
  | agg _ vs hl hc h1 => exact .agg _ _ hl (fun i a v ha hv => h a (List.mem_of_getElem? ha) _ _ _ _ (hc i a v ha hv)) h1
theorem Cl.tup {cs : List AV} (h : Clo B cs) : Cl B (.tup cs) := fun w S σ u hr => by
  cases hr with
  | data _ _ hd => cases hd
  | tup _ vs hl hc => exact .tup _ _ hl (fun i a v ha hv => h a (List.mem_of_getElem? ha) _ _ _ _ (hc i a v ha hv))
theorem Cl.fn {f : Fn} {xs ys : List AV} (h : Clo B xs) (k : Clo B ys) : Cl B (.fn f xs ys) := fun w S σ u hr => by
  cases hr with
  | data _ _ hd => cases hd
  | fn _ _ _ fs cs h1 h2 h3 h4 => exact .fn _ _ _ fs cs h1 h2 (fun i a v ha hv => h a (List.mem_of_getElem? ha) _ _ _ _ (h3 i a v ha hv)) (fun i a v ha hv => k a (List.mem_of_getElem? ha) _ _ _ _ (h4 i a v ha hv))
theorem exRows {ps : List AV} {n : Nat} (hl : ps.length = n) {vs : List Value} (hv : vs.length = n) {i : Nat} {a : AV} (ha : ps[i]? = some a) : ∃ v, vs[i]? = some v := by
  have : i < ps.length := (List.getElem?_eq_some_iff.1 ha).1
  exact ⟨_, List.getElem?_eq_getElem (by omega)⟩
theorem RpD.cl {a : AV} {v : Value} (h : RpD w S a v) : Cl B a := by
  induction h with
  | p v _ => exact .p v
  | agg cs vs hl _ h1 ih =>
    refine .agg fun a ha => ?_
    obtain ⟨i, hi⟩ := List.getElem?_of_mem ha
    obtain ⟨u, hu⟩ := exRows hl (vs := vs.toList) (by simp) hi
    exact ih i a u hi (by simpa using hu)
  | dsl sz xs A c z h1 h2 h3 h4 _ h6 ih => exact .dsl _ _
theorem Rp.cl {a : AV} {v : Value} (h : Rp w S σ a v) (hd : ∀ id u, σ id = some u → id < B) : Cl B a := by
  induction h with
  | any v => exact .any
  | data a v h => exact h.cl
  | agg cs vs hl _ h1 ih =>
    refine .agg fun a ha => ?_
    obtain ⟨i, hi⟩ := List.getElem?_of_mem ha
    obtain ⟨u, hu⟩ := exRows hl (vs := vs.toList) (by simp) hi
    exact ih i a u hi (by simpa using hu)
  | tup cs vs hl _ ih =>
    refine .tup fun a ha => ?_
    obtain ⟨i, hi⟩ := List.getElem?_of_mem ha
    obtain ⟨u, hu⟩ := exRows hl (vs := vs.toList) (by simp) hi
    exact ih i a u hi (by simpa using hu)
  | dptr sz xs i j g o c h hi => exact .dptr _ _ _ _
  | ptr id off g h => exact .ptr (hd _ _ h)
  | eptr id sz i j g o n c h => exact .eptr (hd _ _ h)
  | osl id sz off n A Bx N c cc h h1 h2 h3 => exact .osl (hd _ _ h)
  | mp id g h => exact .mp (hd _ _ h)
  | fn f xs ys fs cs h1 h2 _ _ ih1 ih2 =>
    refine .fn (fun a ha => ?_) (fun a ha => ?_)
    · obtain ⟨i, hi⟩ := List.getElem?_of_mem ha
      obtain ⟨u, hu⟩ := exRows h1 (vs := fs.toList) (by simp) hi
      exact ih1 i a u hi (by simpa using hu)
    · obtain ⟨i, hi⟩ := List.getElem?_of_mem ha
      obtain ⟨u, hu⟩ := exRows h2 (vs := cs.toList) (by simp) hi
      exact ih2 i a u hi (by simpa using hu)
def ClO (B : Nat) : AO → Prop
  | .box _ cs => Clo B cs
  | .row _ _ es => ∀ e ∈ es, Clo B e
  | .map _ _ f => ∀ k a, f k = some a → Cl B a
  | _ => True
/-- each object names what is there -/
def WF (H : AH) : Prop := ∀ id o, H.get id = some o → id < H.nx ∧ ClO H.nx o
theorem Rps.clo {ps : List AV} {vs : List Value} (h : Rps w S σ ps vs) (hd : ∀ id u, σ id = some u → id < B) : Clo B ps := fun a ha => by
  obtain ⟨i, hi⟩ := List.getElem?_of_mem ha
  obtain ⟨u, hu⟩ := exRows h.1 (vs := vs) rfl hi
  exact (h.2 i a u hi hu).cl hd
theorem ObjOk.in_σ {id : Nat} {o : AO} (h : ObjOk P w S σ id o) : ∃ u, σ id = some u := by
  cases o with
  | box t cs => obtain ⟨g, arr, h1, _⟩ := h; exact ⟨_, h1⟩
  | row t sz es => obtain ⟨A, c, h1, _⟩ := h; exact ⟨_, h1⟩
  | frz sz es => obtain ⟨A, c, h1, _⟩ := h; exact ⟨_, h1⟩
  | map kt m f => obtain ⟨g, f', h1, _⟩ := h; exact ⟨_, h1⟩
  | siter s p => obtain ⟨g, h1, _⟩ := h; exact ⟨_, h1⟩
  | dead => exact Option.isSome_iff_exists.1 h
theorem Sat.wf (h : Sat P w S σ H) : WF H := fun id o ho => by
  have hk := h.obj id o ho
  obtain ⟨u, hu⟩ := hk.in_σ
  refine ⟨h.dom _ _ hu, ?_⟩
  cases o with
  | box t cs => obtain ⟨g, arr, h1, h2, h3, h4⟩ := hk; exact h3.clo h.dom
  | row t sz es =>
    obtain ⟨A, c, h1, h2, h3, h4, h5⟩ := hk
    intro e he a ha
    obtain ⟨i, hi⟩ := List.getElem?_of_mem he
    obtain ⟨j, hj⟩ := List.getElem?_of_mem ha
    rcases h5 with ⟨_, hc⟩ | ⟨g, o, arr, _, _, _, _, h6⟩
    · have := (List.getElem?_eq_some_iff.1 hi).1; omega
    · obtain ⟨v, _, hv⟩ := h6 i e j a hi hj; exact hv.cl h.dom
  | map kt n f =>
    obtain ⟨g, f', h1, h2, h3⟩ := hk
    intro k a ha
    rcases h3 k with ⟨h4, _⟩ | ⟨a', v, h4, _, h6⟩
    · rw [h4] at ha; cases ha
    · rw [h4] at ha; injection ha with ha; subst ha; exact h6.cl h.dom
  | _ => trivial
theorem ObjOk.cut {id : Nat} {o : AO} (h : ObjOk P w S σ id o) (hi : id < B) (hc : ClO B o) : ObjOk P w S (cutS B σ) id o := by
  cases o with
  | box t cs => obtain ⟨g, arr, h1, h2, h3, h4⟩ := h; exact ⟨g, arr, by rw [cutS_lt hi]; exact h1, h2, Clo.rps hc h3, h4⟩
  | row t sz es =>
    obtain ⟨A, c, h1, h2, h3, h4, h5⟩ := h
    refine ⟨A, c, by rw [cutS_lt hi]; exact h1, h2, h3, h4, ?_⟩
    rcases h5 with h5 | ⟨g, o, arr, k1, k2, k3, k4, k5⟩
    · exact .inl h5
    · refine .inr ⟨g, o, arr, k1, k2, k3, k4, fun i e j a he ha => ?_⟩
      obtain ⟨v, hv, hr⟩ := k5 i e j a he ha
      exact ⟨v, hv, hc e (List.mem_of_getElem? he) a (List.mem_of_getElem? ha) _ _ _ _ hr⟩
  | frz sz es => obtain ⟨A, c, h1, h2⟩ := h; exact ⟨A, c, by rw [cutS_lt hi]; exact h1, h2⟩
  | map kt n f =>
    obtain ⟨g, f', h1, h2, h3⟩ := h
    refine ⟨g, f', by rw [cutS_lt hi]; exact h1, h2, fun k => ?_⟩
    rcases h3 k with h4 | ⟨a, v, h4, h5, h6⟩
    · exact .inl h4
    · exact .inr ⟨a, v, h4, h5, hc k a h4 _ _ _ _ h6⟩
  | siter s p => obtain ⟨g, h1, h2⟩ := h; exact ⟨g, by rw [cutS_lt hi]; exact h1, h2⟩
  | dead => show (cutS B σ id).isSome = true; rw [cutS_lt hi]; exact h
/-- what was laid since is let go: the memory is as it was -/
theorem GW.back {vs : List AV} (hw : WF H0) (hg : H0.le H1) (hc : Clo H0.nx vs) : GW P H0.nx vs H1 vs H0 := by
  intro w S σ us hs hr
  have hcut : ∀ id u, cutS H0.nx σ id = some u → σ id = some u := fun id u h => (cutS_some h).2
  have hbl : ∀ {id b}, (cutS H0.nx σ id).bind blkOf = some b → (σ id).bind blkOf = some b := fun {id b} h => by
    cases hx : cutS H0.nx σ id with
    | none => rw [hx] at h; cases h
    | some u => rw [hx] at h; rw [hcut _ _ hx]; exact h
  refine ⟨S, cutS H0.nx σ, ⟨hs.sb, fun id u h => (cutS_some h).1, fun id o ho => (hs.obj id o (hg _ _ ho)).cut (hw id o ho).1 (hw id o ho).2, fun i j o o' b h1 h2 k1 k2 b1 b2 => hs.dj i j o o' b (hg _ _ h1) (hg _ _ h2) k1 k2 (hbl b1) (hbl b2), fun i o b h1 k1 b1 => hs.sep i o b (hg _ _ h1) k1 (hbl b1), fun i A n c h => hs.sl i A n c (hcut _ _ h)⟩, hc.rps hr, fun _ h => h, fun _ h => .inl h, ?_, fun id h => cutS_lt h, Nat.le_refl _⟩
  rintro b ⟨i, o, h1, h2, h3⟩
  exact ⟨i, o, hg _ _ h1, h2, hbl h3⟩
theorem GW.refl {vs : List AV} (h : B ≤ H.nx) : GW P B vs H vs H := fun w S σ us hs hr => ⟨S, σ, hs, hr, fun _ h => h, fun _ h => .inl h, fun _ h => h, fun _ _ => rfl, h⟩
theorem GW.trans {a b c : List AV} (h : GW P B a H0 b H1) (k : GW P B b H1 c H2) : GW P B a H0 c H2 := fun w S σ us hs hr => by
  obtain ⟨S', σ', h1, h2, h3, h4, h5, h6, h7⟩ := h w S σ us hs hr
  obtain ⟨S2, σ2, k1, k2, k3, k4, k5, k6, k7⟩ := k w S' σ' us h1 h2
  exact ⟨S2, σ2, k1, k2, fun b hb => k3 b (h3 b hb), fun b hb => (k4 b hb).elim (fun h => h4 b h) (fun h => .inr (h5 b h)), fun b hb => h5 b (k5 b hb), fun id hi => (k6 id hi).trans (h6 id hi), k7⟩
theorem GW.st {vs : List AV} (h : Gst P H H2) (hb : B ≤ H.nx) : GW P B vs H vs H2 := fun w S σ us hs hr => by
  obtain ⟨S', h1, h2, h3, h4⟩ := h.2 w S σ hs
  exact ⟨S', σ, h1, hr.mono h2 (fun _ _ => rfl) (fun _ _ h => h), h2, h3, h4, fun _ _ => rfl, Nat.le_trans hb h.1⟩
theorem Gh.refl {vs : List AV} {J : List AV → AH → Prop} (h : J vs H) (hb : B ≤ H.nx) : Gh P B vs H J := ⟨vs, H, .refl hb, h⟩
theorem Gh.back {vs : List AV} {J : List AV → AH → Prop} (hw : WF H0) (hg : H0.le H1) (hc : Clo H0.nx vs) (h : J vs H0) : Gh P H0.nx vs H1 J := ⟨vs, H0, .back hw hg hc, h⟩
theorem Gh.step {vs vs' : List AV} {J : List AV → AH → Prop} (h : GW P B vs H vs' H2) (k : Gh P B vs' H2 J) : Gh P B vs H J := by
  obtain ⟨v, h3, k1, k2⟩ := k; exact ⟨v, h3, h.trans k1, k2⟩
/-- one telling stands for another one -/
def Sub (P : Program) (H : AH) (a a' : AV) : Prop := ∀ w S σ u, Sat P w S σ H → Rp w S σ a u → Rp w S σ a' u
def Subs (P : Program) (H : AH) (ps qs : List AV) : Prop := ps.length = qs.length ∧ ∀ (i : Nat) (a b : AV), ps[i]? = some a → qs[i]? = some b → Sub P H a b
theorem Subs.rps {ps qs : List AV} (h : Subs P H ps qs) (hs : Sat P w S σ H) {us : List Value} (hr : Rps w S σ ps us) : Rps w S σ qs us := by
  refine ⟨h.1.symm.trans hr.1, fun i b u hb hu => ?_⟩
  have hi := (List.getElem?_eq_some_iff.1 hb).1
  have ha := List.getElem?_eq_getElem (l := ps) (i := i) (by rw [h.1]; exact hi)
  exact h.2 i _ b ha hb w S σ u hs (hr.2 i _ u ha hu)
theorem Sub.refl (a : AV) : Sub P H a a := fun _ _ _ _ _ h => h
theorem Sub.any (a : AV) : Sub P H a .any := fun _ _ _ _ _ _ => .any _
theorem Subs.nil : Subs P H [] [] := ⟨rfl, fun i a b h => by simp at h⟩
theorem Subs.cons {a b : AV} {ps qs : List AV} (h : Sub P H a b) (k : Subs P H ps qs) : Subs P H (a :: ps) (b :: qs) := by
  refine ⟨by simp [k.1], fun i x y hx hy => ?_⟩
  cases i with
  | zero => simp at hx hy; subst hx; subst hy; exact h
  | succ i => exact k.2 i x y (by simpa using hx) (by simpa using hy)
theorem Subs.refl : ∀ (ps : List AV), Subs P H ps ps
  | [] => .nil
  | a :: r => .cons (.refl a) (.refl r)
theorem Sub.tup {ps qs : List AV} (h : Subs P H ps qs) : Sub P H (.tup ps) (.tup qs) := fun w S σ u hs hr => by
  obtain ⟨vs, rfl, hv⟩ := hr.tup_inv
  exact Rps.tup (h.rps hs hv)
theorem Sub.agg {ps qs : List AV} (h : Subs P H ps qs) : Sub P H (.agg ps) (.agg qs) := fun w S σ u hs hr => by
  obtain ⟨vs, rfl, hv, h1⟩ := hr.agg_inv
  have := h.rps hs hv
  exact .agg _ _ (by simpa using this.1) (fun i a v ha hv => this.2 i a v ha (by simpa using hv)) h1
theorem Sub.nil (sz c : Nat) (hc : c ≤ maxLen) : Sub P H (.p (.slice none 0 c)) (.dsl sz []) := fun w S σ u _ hr => by
  obtain ⟨rfl, _⟩ := hr.p_inv
  exact .data _ _ (.dsl _ _ _ c (fun _ _ => .bool false) (Nat.zero_le _) hc (by simp) (by simp) (by simp) (fun _ _ => rfl))
/-- what is data wherever it lies -/
def Dt (a : AV) : Prop := ∀ w S σ v, Rp w S σ a v → RpD w S a v
def DtR (es : List (List AV)) : Prop := ∀ e ∈ es, ∀ a ∈ e, Dt a
theorem Dt.p (v : Value) : Dt (.p v) := fun _ _ _ u h => by obtain ⟨rfl, h1⟩ := h.p_inv; exact .p _ h1
theorem Dt.dsl (sz : Nat) (xs : List (List AV)) : Dt (.dsl sz xs) := fun _ _ _ _ h => h.dsl_inv
theorem Gst.freeze {r : Nat} {t : TypeId} {sz : Nat} {es : List (List AV)} (hg : H.get r = some (.row t sz es)) (hd : DtR es) : Gst P H (H.put r (.frz sz es)) := by
  refine ⟨Nat.le_refl _, fun w S σ hs => ?_⟩
  have hk := hs.obj r _ hg
  obtain ⟨A, c, h1, h2, h3, h4, h5⟩ := hk
  have hlt : ∀ b, (σ r).bind blkOf = some b → b < w.heap.size := by
    intro b hb
    rw [h1] at hb
    rcases h5 with ⟨rfl, _⟩ | ⟨g, o, arr, rfl, k1, _⟩
    · cases hb
    · injection hb with hb; subst hb; exact k1.lt
  have hget : ∀ id o, (H.put r (.frz sz es)).get id = some o → (id = r ∧ o = .frz sz es) ∨ (id ≠ r ∧ H.get id = some o) := by
    intro id o ho
    by_cases e : id = r
    · subst e; rw [AH.get_put_self] at ho; injection ho with ho; exact .inl ⟨rfl, ho.symm⟩
    · rw [AH.get_put_ne e] at ho; exact .inr ⟨e, ho⟩
  refine ⟨fun b => S b ∨ (σ r).bind blkOf = some b, ⟨fun b hb => hb.elim (hs.sb b) (hlt b), hs.dom, fun id o ho => ?_, fun i q o o' b h h' k k' => ?_, fun i o b h k hb hS => ?_, hs.sl⟩, fun b hb => .inl hb, fun b hb => hb.elim .inl fun hb => .inr ⟨r, _, hg, rfl, hb⟩, ?_⟩
  · rcases hget id o ho with ⟨rfl, rfl⟩ | ⟨e, ho⟩
    · refine ⟨A, c, h1, ?_⟩
      rcases h5 with ⟨rfl, rfl⟩ | ⟨g, o, arr, rfl, k1, k2, k3, k4⟩
      · have : es = [] := List.length_eq_zero_iff.1 (by omega)
        subst this
        exact .dsl _ _ _ _ (fun _ _ => .bool false) (Nat.zero_le _) h4 (by simp) (by simp) (by simp) (fun _ _ => rfl)
      · refine .dsl _ _ _ _ (fun i j => (arr[o + i * sz + j]?).getD (.bool false)) h3 h4 h2 (fun i e j a he ha => ?_) (fun i e j a he ha => ?_) (fun i j => ?_)
        · obtain ⟨v, hv, _⟩ := k4 i e j a he ha
          exact ⟨g, o, rfl, .inr (by rw [h1]; rfl), by rw [k1.cell, hv]; rfl⟩
        · obtain ⟨v, hv, hr⟩ := k4 i e j a he ha
          rw [hv]
          exact (hd e (List.mem_of_getElem? he) a (List.mem_of_getElem? ha) _ _ _ _ hr).mono (fun _ h => .inl h) (fun _ _ => rfl)
        · cases hv : arr[o + i * sz + j]? with
          | none => rfl
          | some u => exact k3 u (Array.mem_of_getElem? hv)
    · exact (hs.obj id o ho).mono (fun _ h => .inl h) (fun _ _ => rfl) (fun _ _ h => h) (fun _ _ _ => rfl)
  · rcases hget i o h with ⟨rfl, rfl⟩ | ⟨e, h⟩
    · cases k
    · rcases hget q o' h' with ⟨rfl, rfl⟩ | ⟨e', h'⟩
      · cases k'
      · exact fun b1 b2 => hs.dj i q o o' b h h' k k' b1 b2
  · rcases hget i o h with ⟨rfl, rfl⟩ | ⟨e, h⟩
    · cases k
    · rcases hS with hS | hS
      · exact hs.sep i o b h k hb hS
      · exact e (hs.dj i r o _ b h hg k rfl hb hS)
  · rintro b ⟨i, o, h, k, hb⟩
    rcases hget i o h with ⟨rfl, rfl⟩ | ⟨e, h⟩
    · cases k
    · exact ⟨i, o, h, k, hb⟩
theorem Sub.frz {r sz off n : Nat} {es : List (List AV)} (hg : H.get r = some (.frz sz es)) (hn : off + n ≤ es.length) : Sub P H (.osl r sz off n) (.dsl sz ((es.drop off).take n)) := fun w S σ u hs hr => by
  obtain ⟨A, Bx, N, c, cc, rfl, hσ, h1, h2, h3⟩ := hr.osl_inv
  obtain ⟨A', c', k1, k2⟩ := hs.obj r _ hg
  rw [hσ] at k1
  simp only [Option.some.injEq, Value.slice.injEq] at k1
  obtain ⟨rfl, rfl, rfl⟩ := k1
  obtain ⟨A2, c2, z, e1, r1, r2, r3, r4, r5, r6⟩ := k2.dsl_inv
  simp only [Value.slice.injEq] at e1
  obtain ⟨rfl, _, rfl⟩ := e1
  have hl : ((es.drop off).take n).length = n := by rw [List.length_take, List.length_drop]; omega
  have hget : ∀ i e, ((es.drop off).take n)[i]? = some e → i < n ∧ es[off + i]? = some e := by
    intro i e he
    rw [List.getElem?_take] at he
    split at he
    · rw [List.getElem?_drop] at he; exact ⟨by assumption, he⟩
    · cases he
  have := RpD.dsl (w := w) (S := S) sz ((es.drop off).take n) Bx cc (fun i j => z (off + i) j) (by omega) (by omega) (fun e he => r3 e (List.mem_of_mem_drop (List.mem_of_mem_take he))) (fun i e j a he ha => by
      obtain ⟨hi, he⟩ := hget i e he
      obtain ⟨g, o, rfl, hSg, hc⟩ := r4 _ e j a he ha
      refine ⟨g, o + off * sz, ?_, hSg, ?_⟩
      · rw [h3 (by omega)]; simp [Addr.add]
      · rw [show o + off * sz + i * sz + j = o + (off + i) * sz + j by rw [Nat.add_mul]; omega]; exact hc) (fun i e j a he ha => r5 _ e j a (hget i e he).2 ha) (fun i j => r6 _ _)
  rw [hl] at this
  exact .data _ _ this
/-- a slice that is held is handed over as data -/
theorem GW.freeze {r : Nat} {t : TypeId} {sz : Nat} {es : List (List AV)} {vs vs' : List AV} (hg : H.get r = some (.row t sz es)) (hd : DtR es) (hs : Subs P (H.put r (.frz sz es)) vs vs') (hb : B ≤ H.nx) : GW P B vs H vs' (H.put r (.frz sz es)) :=
  (GW.st (.freeze hg hd) hb).trans fun w S σ us h hr => ⟨S, σ, h, hs.rps h hr, fun _ h => h, fun _ h => .inl h, fun _ h => h, fun _ _ => rfl, hb⟩
theorem GW.sub {vs vs' : List AV} (hs : Subs P H vs vs') (hb : B ≤ H.nx) : GW P B vs H vs' H := fun w S σ us h hr => ⟨S, σ, h, hs.rps h hr, fun _ h => h, fun _ h => .inl h, fun _ h => h, fun _ _ => rfl, hb⟩
theorem rt_tup {vs : List AV} {Q : AV → AH → Prop} (hw : WF H0) (hg : H0.le H1) (hc : Clo H0.nx vs) (h : Q (.tup vs) H0) : Rt P H0.nx (.tup vs) Q H1 := Gh.back hw hg (.one (.tup hc)) ⟨_, rfl, h⟩
theorem rt_one {v : AV} {Q : AV → AH → Prop} (hw : WF H0) (hg : H0.le H1) (hc : Cl H0.nx v) (h : Q v H0) : Rt P H0.nx v Q H1 := Gh.back hw hg (.one hc) ⟨_, rfl, h⟩
theorem rt_refl {v : AV} {Q : AV → AH → Prop} (h : Q v H) (hb : B ≤ H.nx) : Rt P B v Q H := Gh.refl ⟨_, rfl, h⟩ hb
/-- a slice of one's own is given back as data, and all else is as it was -/
theorem rt_row {r : Nat} {t : TypeId} {sz n : Nat} {es : List (List AV)} {v v' : AV} {Q : AV → AH → Prop} (hw : WF H0) (hle : H0.nx ≤ H1.nx) (hr : H0.nx ≤ r) (hg : H0.le H1) (hrow : H1.get r = some (.row t sz es)) (hd : DtR es)
    (hs : Sub P (H1.put r (.frz sz es)) v v') (hc : Cl H0.nx v') (h : Q v' H0) : Rt P H0.nx v Q H1 :=
  Gh.step (.freeze hrow hd (.cons hs .nil) hle) (Gh.back hw (fun id o ho => by rw [AH.get_put_ne (by have := (hw id o ho).1; omega)]; exact hg id o ho) (.one hc) ⟨_, rfl, h⟩)
theorem tri_wf {f : FuncId} {ps : List AV} {Q : AV → AH → Prop} (h : WF H → Tri P f ps H Q) : Tri P f ps H Q := fun w S σ us hs hr => h hs.wf w S σ us hs hr
theorem Tri.args {f : FuncId} {ps qs : List AV} {Q : AV → AH → Prop} (hs : Subs P H ps qs) (h : Tri P f qs H Q) : Tri P f ps H Q := fun w S σ us h1 hr => h w S σ us h1 (hs.rps h1 hr)
theorem Tri.st {f : FuncId} {ps : List AV} {Q : AV → AH → Prop} (hs : Gst P H H2) (h : Tri P f ps H2 Q) : Tri P f ps H Q := fun w S σ us h1 hr => by
  obtain ⟨S', k1, k2, k3, k4⟩ := hs.2 w S σ h1
  refine (h w S' σ us k1 (hr.mono k2 (fun _ _ => rfl) (fun _ _ h => h))).mono fun e w' ⟨v, S2, σ2, r, H', q1, q2, q3, q4, q5, q6, q7⟩ => ⟨v, S2, σ2, r, H', q1, q2, q3, q4, ?_, Nat.le_trans hs.1 q6, fun id hi => q7 id (Nat.lt_of_lt_of_le hi hs.1)⟩
  exact ⟨q5.os, q5.tape, q5.output, q5.size, fun b hb hn => q5.keep b hb fun hf => hn (k4 b hf), fun b hb => q5.sup b (k2 b hb), fun b hb => by
    rcases q5.sub b hb with h | h | h
    · exact (k3 b h).elim .inl fun h => .inr (.inl h)
    · exact .inr (.inl (k4 b h))
    · exact .inr (.inr h), fun b hb => (q5.foot b hb).elim (fun h => .inl (k4 b h)) .inr, q5.sig⟩
/-- what a call gives that only reads -/
def PF (P : Program) (f : FuncId) (ps : List AV) (r : AV) : Prop := ∀ H, Tri P f ps H (fun v H' => H' = H ∧ v = r)
theorem ca_pure {f : FuncId} {first ps cap : List AV} {r : AV} {k : AV → AH → Prop} (hc : callable P f = true) (h : Tri P f (first ++ ps ++ cap) H (fun v H' => H' = H ∧ v = r)) (hk : k r H) : Ca P (.fn (.func f) first cap) ps k H :=
  ⟨f, first, cap, _, rfl, hc, h, fun v H' _ hq => by obtain ⟨rfl, rfl⟩ := hq; exact hk⟩
theorem ca_of {f : FuncId} {first ps cap : List AV} {Q : AV → AH → Prop} {k : AV → AH → Prop} (hc : callable P f = true) (h : Tri P f (first ++ ps ++ cap) H Q) (hk : ∀ v H', Q v H' → k v H') : Ca P (.fn (.func f) first cap) ps k H :=
  ⟨f, first, cap, Q, rfl, hc, h, fun v H' _ hq => hk v H' hq⟩
theorem ca_wf {f : FuncId} {first ps cap : List AV} {Q : AV → AH → Prop} {k : AV → AH → Prop} (hc : callable P f = true) (h : Tri P f (first ++ ps ++ cap) H Q) (hk : ∀ v H', WF H' → Q v H' → k v H') : Ca P (.fn (.func f) first cap) ps k H :=
  ⟨f, first, cap, Q, rfl, hc, h, fun v H' ⟨_, _, _, hs⟩ hq => hk v H' hs.wf hq⟩
theorem can_pure {sl : List Nat} {f : FuncId} {first ps cap : List AV} {r : AV} {k : AV → AH → Prop} (hc : callable P f = true) (h : ∀ H2, (mixV V H sl).le H2 → Tri P f (first ++ ps ++ cap) H2 (fun v H' => H' = H2 ∧ v = r)) (hk : k r H) : CaN P V sl (.fn (.func f) first cap) ps k H :=
  ⟨f, first, cap, r, rfl, hc, h, hk⟩
theorem cav_pure {f : FuncId} {first ps cap : List AV} {r : AV} {k : AV → AH → Prop} (hc : callable P f = true) (h : ∀ H2, V.le H2 → Tri P f (first ++ ps ++ cap) H2 (fun v H' => H' = H2 ∧ v = r)) (hk : k r H) : CaV P V (.fn (.func f) first cap) ps k H :=
  ⟨f, first, cap, r, rfl, hc, h, hk⟩
end
end Go.Proofs.Ytcmnjoepadjioaa

/- The words that simplify an abstract walk. Nothing of the program is named here. -/
namespace Go.Proofs.Ytcmnjoepadjioaa
open Go.RowKit Go.Maps
attribute [congr] onSome_congr pu_congr rds_congr rd_congr al_congr wr_congr wrs_congr wrf_congr ca_congr cav_congr can_congr cdb_congr gdb_congr gvb_congr loop_congr cut_congr rt_congr ldF_congr lookF_congr stBox_congr stRow_congr appRow_congr appNil_congr msetF_congr clrRow_congr
attribute [simp ↓ high] cd_t cd_f gd_tt gd_ff gd_tf gd_ft gdv_tt gdv_ff gdv_tf gdv_ft gd_sk gdv_sk cdb_t cdb_f gdb_tt gdb_ff gdb_tf gdb_ft gvb_tt gvb_ff gvb_tf gvb_ft pick_t pick_f onSome_some
attribute [simp ↓] q_mv q_pick q_nil_ptr q_nil_eptr q_nil_dptr q_nil_fn q_add_ptr q_add_eptr q_add_dptr q_idx_dsl q_idx_osl q_aidx_ptr q_aidx_eptr q_aidx_dptr q_fld_agg q_add_i q_sub_i q_mul_i q_quo_i q_rem_i q_and_i q_or_i q_xor_i q_eql_i q_neq_i q_lss_i q_leq_i q_gtr_i q_geq_i q_shl_i q_shr_i q_eql_b q_neq_b q_eql_s q_neq_s q_add_s q_lss_s q_neg_i q_not_b q_conv_i q_same_s q_len_dsl q_len_osl q_len_nil q_len_s q_slc_00 q_slc_10 q_slc_01 q_slc_11 q_slo_00 q_slo_10 q_slo_01 q_slo_11 q_ssl_00 q_ssl_10 q_ssl_01 q_ssl_11 q_cap_nil q_slc_nil q_mn_i q_mx_i q_mkfn q_fld_one q_ext q_sidx q_bld rds_eq wrs_eq rdn_eq rd_ld rd_look al_nw al_bx al_mm al_ms al_bs wr_st_ptr wr_st_eptr wr_app_osl wr_app_nil q_mset wr_apz_nil wr_clr_osl wf_st cd_b gd_b gdv_b cdb_eq gdb_eq gvb_eq rg_eq vw_eq q_eqnil_p q_eqnil_dsl q_eqnil_osl q_nenil_p q_nenil_dsl q_nenil_osl
attribute [simp] mixV_nil mixV_cons mixO_some mixO_none bm_eq boxAt_box rowAt_row rowAt_frz atF_ptr atF_eptr atF_dptr ldF_t ldF_f elF_dsl elF_nil elF_osl elRow_row elRow_frz up_get up_nx put_nx kill_nx put_get stBox stRow appRow appNil msetF clrRow lookF fillA chunks
@[simp] theorem part_p (v : Value) : AV.part (.p v) = true := rfl
@[simp] theorem cells_p (v : Value) : AV.cells (.p v) = [(.p v)] := rfl
@[simp] theorem part_dsl (sz : Nat) (xs : List (List AV)) : AV.part (.dsl sz xs) = true := rfl
@[simp] theorem cells_dsl (sz : Nat) (xs : List (List AV)) : AV.cells (.dsl sz xs) = [(.dsl sz xs)] := rfl
@[simp] theorem part_dptr (sz : Nat) (xs : List (List AV)) (i j : Nat) : AV.part (.dptr sz xs i j) = true := rfl
@[simp] theorem cells_dptr (sz : Nat) (xs : List (List AV)) (i j : Nat) : AV.cells (.dptr sz xs i j) = [(.dptr sz xs i j)] := rfl
@[simp] theorem part_ptr (i j : Nat) : AV.part (.ptr i j) = true := rfl
@[simp] theorem cells_ptr (i j : Nat) : AV.cells (.ptr i j) = [(.ptr i j)] := rfl
@[simp] theorem part_eptr (i sz q j : Nat) : AV.part (.eptr i sz q j) = true := rfl
@[simp] theorem cells_eptr (i sz q j : Nat) : AV.cells (.eptr i sz q j) = [(.eptr i sz q j)] := rfl
@[simp] theorem part_osl (i sz q j : Nat) : AV.part (.osl i sz q j) = true := rfl
@[simp] theorem cells_osl (i sz q j : Nat) : AV.cells (.osl i sz q j) = [(.osl i sz q j)] := rfl
@[simp] theorem part_mp (i : Nat) : AV.part (.mp i) = true := rfl
@[simp] theorem cells_mp (i : Nat) : AV.cells (.mp i) = [(.mp i)] := rfl
@[simp] theorem part_fn (f : Fn) (xs ys : List AV) : AV.part (.fn f xs ys) = true := rfl
@[simp] theorem cells_fn (f : Fn) (xs ys : List AV) : AV.cells (.fn f xs ys) = [(.fn f xs ys)] := rfl
@[simp] theorem part_agg (cs : List AV) : AV.part (.agg cs) = true := rfl
@[simp] theorem cells_agg (cs : List AV) : AV.cells (.agg cs) = cs := rfl
@[simp] theorem val_p (v : Value) : AV.val (.p v) = some v := rfl
@[simp] theorem vals_nil : vals [] = some [] := rfl
@[simp] theorem vals_p (v : Value) (r : List AV) : vals (.p v :: r) = (vals r).map (v :: ·) := by cases h : vals r <;> simp [vals, h]
@[simp] theorem val_agg (cs : List AV) : AV.val (.agg cs) = (vals cs).map fun vs => .agg vs.toArray := by cases h : vals cs <;> simp [AV.val, h]
theorem wrapI {x : Int} (h : -9223372036854775808 ≤ x) (k : x ≤ 9223372036854775807) : IntKind.i64.wrap x = x := by rw [IntKind.wrap_i64]; omega
@[simp] theorem wrap_lit (n : Nat) (h : n < 9223372036854775808) : IntKind.i64.wrap (no_index (OfNat.ofNat n)) = OfNat.ofNat n := by
  show IntKind.i64.wrap ((n : Nat) : Int) = ((n : Nat) : Int)
  rw [IntKind.wrap_i64]; omega
@[simp] theorem wrap_neg_lit (n : Nat) (h : n < 9223372036854775808) : IntKind.i64.wrap (no_index (-OfNat.ofNat n)) = -OfNat.ofNat n := by
  show IntKind.i64.wrap (-((n : Nat) : Int)) = -((n : Nat) : Int)
  rw [IntKind.wrap_i64]; omega
end Go.Proofs.Ytcmnjoepadjioaa

/- Loops, joins and calls of abstract walks, as one uses them. Nothing of the program is named here. -/
namespace Go.Proofs.Ytcmnjoepadjioaa
open Go.RowKit Go.Maps

section
variable {P : Program} {w : World} {S : Nat → Prop} {σ : Nat → Option Value} {H H0 H1 H2 V : AH} {B : Nat}
theorem AH.le.refl (H : AH) : H.le H := fun _ _ h => h
theorem AH.le.trans (h : H0.le H1) (k : H1.le H2) : H0.le H2 := fun _ _ q => k _ _ (h _ _ q)
theorem AH.le.up {n : Nat} (h : H0.le H1) : H0.le (H1.up n) := h
theorem AH.le.put {i : Nat} {o : AO} (hw : WF H0) (hi : H0.nx ≤ i) (h : H0.le H1) : H0.le (H1.put i o) := fun id o' ho => by
  rw [AH.get_put_ne (by have := (hw id o' ho).1; omega)]; exact h _ _ ho
theorem AH.le.kill {i : Nat} (hw : WF H0) (hi : H0.nx ≤ i) (h : H0.le H1) : H0.le (H1.kill i) := AH.le.put hw hi h
theorem AH.le.get_ {i : Nat} {o : AO} (h : H0.le H1) (hg : H0.get i = some o) : H1.get i = some o := h _ _ hg
theorem wf_none (hw : WF H) {i : Nat} (h : H.nx ≤ i) : H.get i = none := by
  cases hg : H.get i with
  | none => rfl
  | some o => have := (hw i o hg).1; omega
theorem least {S : Nat → Prop} : ∀ n, S n → ∃ n, S n ∧ ∀ m, S m → n ≤ m := by
  intro n
  induction n using Nat.strongRecOn with
  | ind n ih =>
    intro h
    by_cases hx : ∃ m, m < n ∧ S m
    · obtain ⟨m, h1, h2⟩ := hx; exact ih m h1 h2
    · exact ⟨n, h, fun m hm => Nat.le_of_not_lt fun hl => hx ⟨m, hl, hm⟩⟩
open Classical in
noncomputable def low (S : Nat → Prop) : Nat := if h : ∃ n, S n then Classical.choose (least h.choose h.choose_spec) else 0
theorem low_spec {S : Nat → Prop} {n : Nat} (h : S n) : S (low S) ∧ low S ≤ n := by
  have hx : ∃ n, S n := ⟨n, h⟩
  have := Classical.choose_spec (least hx.choose hx.choose_spec)
  unfold low
  rw [dif_pos hx]
  exact ⟨this.1, this.2 n h⟩
/-- a loop, by what holds at its head -/
theorem loop_wf {α : Type} (enc : α → List AV) {m : Nat} (Inv : α → AH → Prop) (μ : α → Nat) (a0 : α) {vs0 : List AV} {F : List AV → (List AV → AH → Prop) → AH → Prop} (h0 : GW P H.nx vs0 H (enc a0) H0) (hi : Inv a0 H0)
    (hB : ∀ a H1, H.nx ≤ H1.nx → WF H1 → Inv a H1 → ∀ k : List AV → AH → Prop, (∀ a' H2 vs' H', GW P H.nx vs' H' (enc a') H2 → Inv a' H2 → μ a' < μ a → k vs' H') → F (enc a) k H1) : LoopA P m F vs0 H := by
  refine ⟨fun vs H' => ∃ a, vs = enc a ∧ Inv a H', fun vs H' => low fun n => ∃ a, vs = enc a ∧ Inv a H' ∧ μ a = n, ⟨_, _, h0, a0, rfl, hi⟩, ?_⟩
  rintro vs H1 _ hn ⟨w1, S1, σ1, hs1⟩ ⟨a, rfl, ha⟩
  obtain ⟨⟨b, hb, hbi, hbm⟩, _⟩ := low_spec (S := fun n => ∃ b, enc a = enc b ∧ Inv b H1 ∧ μ b = n) ⟨a, rfl, ha, rfl⟩
  rw [hb] at hbm ⊢
  refine hB b H1 hn hs1.wf hbi _ fun a' H2 vs' H' hg hi2 hlt => ⟨_, _, hg, ⟨a', rfl, hi2⟩, ?_⟩
  have h2 := (low_spec (S := fun n => ∃ b, enc a' = enc b ∧ Inv b H2 ∧ μ b = n) ⟨a', rfl, hi2, rfl⟩).2
  dsimp only
  rw [← hbm]
  exact Nat.lt_of_le_of_lt h2 hlt
theorem loop_st {α : Type} (enc : α → List AV) {m : Nat} (Inv : α → AH → Prop) (μ : α → Nat) (a0 : α) {vs0 : List AV} {F : List AV → (List AV → AH → Prop) → AH → Prop} (h0 : GW P H.nx vs0 H (enc a0) H0) (hi : Inv a0 H0)
    (hB : ∀ a H1, H.nx ≤ H1.nx → Inv a H1 → ∀ k : List AV → AH → Prop, (∀ a' H2 vs' H', GW P H.nx vs' H' (enc a') H2 → Inv a' H2 → μ a' < μ a → k vs' H') → F (enc a) k H1) : LoopA P m F vs0 H :=
  loop_wf enc Inv μ a0 h0 hi fun a H1 hn _ hi k hk => hB a H1 hn hi k hk
/-- a join, by what holds there -/
theorem cut_wf {α : Type} (enc : α → List AV) {m : Nat} (Inv : α → AH → Prop) {F : (List AV → AH → Prop) → AH → Prop} {K : List AV → AH → Prop} (hA : ∀ k : List AV → AH → Prop, (∀ a' H2 vs' H', GW P H.nx vs' H' (enc a') H2 → Inv a' H2 → k vs' H') → F k H)
    (hK : ∀ a H', H.nx ≤ H'.nx → WF H' → Inv a H' → K (enc a) H') : CutA P m F K H :=
  ⟨fun vs H' => ∃ a, vs = enc a ∧ Inv a H', hA _ fun a' H2 vs' H' hg hi => ⟨_, _, hg, a', rfl, hi⟩, fun vs H' _ hn ⟨_, _, _, hs⟩ ⟨a, e, hi⟩ => by subst e; exact hK a H' hn hs.wf hi⟩
theorem cut_st {α : Type} (enc : α → List AV) {m : Nat} (Inv : α → AH → Prop) {F : (List AV → AH → Prop) → AH → Prop} {K : List AV → AH → Prop} (hA : ∀ k : List AV → AH → Prop, (∀ a' H2 vs' H', GW P H.nx vs' H' (enc a') H2 → Inv a' H2 → k vs' H') → F k H)
    (hK : ∀ a H', H.nx ≤ H'.nx → Inv a H' → K (enc a) H') : CutA P m F K H :=
  ⟨fun vs H' => ∃ a, vs = enc a ∧ Inv a H', hA _ fun a' H2 vs' H' hg hi => ⟨_, _, hg, a', rfl, hi⟩, fun vs H' _ hn _ ⟨a, e, hi⟩ => by subst e; exact hK a H' hn hi⟩
/-- how long a slice can be -/
theorem tri_len {f : FuncId} {ps : List AV} {Q : AV → AH → Prop} (i : Nat) {sz : Nat} {xs : List (List AV)} (hi : ps[i]? = some (.dsl sz xs)) (h : xs.length ≤ maxLen → (∀ e ∈ xs, e.length = sz) → Tri P f ps H Q) : Tri P f ps H Q := fun w S σ us hs hr => by
  obtain ⟨v, hv, hrv⟩ := hr.at_ hi
  obtain ⟨A, c, z, rfl, h1, h2, h3, _⟩ := hrv.dsl_inv.dsl_inv
  exact h (by omega) h3 w S σ us hs hr
theorem ivn {i : Nat} (h : i < 9223372036854775807) : IntKind.i64.wrap ((i : Int) + 1) = ((i + 1 : Nat) : Int) := by rw [IntKind.wrap_i64]; omega
/-- a slice of one's own that grows: nil, or a row laid since -/
def Grows (t sz : Nat) (H0 H1 : AH) (v : AV) (es : List (List AV)) : Prop :=
  (v = .p (.slice none 0 0) ∧ es = []) ∨ ∃ r xs, v = .osl r sz 0 es.length ∧ H0.nx ≤ r ∧ r < H1.nx ∧ H1.get r = some (.row t sz xs) ∧ xs.take es.length = es ∧ DtR xs
theorem Grows.nil (t sz : Nat) (H0 H1 : AH) : Grows t sz H0 H1 (.p (.slice none 0 0)) [] := .inl ⟨rfl, rfl⟩
theorem Grows.row {t sz r n : Nat} {xs : List (List AV)} (h1 : H0.nx ≤ r) (h2 : r < H1.nx) (h3 : H1.get r = some (.row t sz xs)) (h4 : DtR xs) (h5 : n = xs.length) : Grows t sz H0 H1 (.osl r sz 0 n) xs :=
  .inr ⟨r, xs, by rw [h5], h1, h2, h3, List.take_length, h4⟩
theorem Grows.keep {t sz : Nat} {v : AV} {es : List (List AV)} (h : Grows t sz H0 H1 v es) (hn : H1.nx ≤ H2.nx) (hk : ∀ j o, H0.nx ≤ j → H1.get j = some o → H2.get j = some o) : Grows t sz H0 H2 v es := by
  rcases h with h | ⟨r, xs, h1, h2, h3, h4, h5, h6⟩
  · exact .inl h
  · exact .inr ⟨r, xs, h1, h2, by omega, hk _ _ h2 h4, h5, h6⟩
theorem DtR.app {xs ys : List (List AV)} (h : DtR xs) (k : DtR ys) : DtR (xs ++ ys) := fun e he => (List.mem_append.1 he).elim (h e) (k e)
theorem DtR.take {xs : List (List AV)} {n : Nat} (h : DtR xs) : DtR (xs.take n) := fun e he => h e (List.mem_of_mem_take he)
theorem DtR.drop {xs : List (List AV)} {n : Nat} (h : DtR xs) : DtR (xs.drop n) := fun e he => h e (List.mem_of_mem_drop he)
theorem Grows.len {t sz : Nat} {v : AV} {es : List (List AV)} {k : AV → AH → Prop} {H : AH} (h : Grows t sz H0 H1 v es) : Pu P .len [v] k H = k (.p (.int .i64 es.length)) H := by
  rcases h with ⟨rfl, rfl⟩ | ⟨r, xs, rfl, _⟩
  · rw [q_len_nil]; rfl
  · rw [q_len_osl]
/-- what is appended stands behind -/
theorem Grows.app {t sz bytes id : Nat} {v x : AV} {es ys : List (List AV)} {k : AV → AH → AH → Prop} (hw : WF H0) (hg : Grows t sz H0 H1 v es) (hle : H0.le H1) (hid : H0.nx ≤ id) (hid2 : id < H1.nx) (hx : elF H1 sz x = some ys) (hd : DtR ys) (h1 : es.length + ys.length ≤ maxLen) (h2 : (es.length + ys.length) * bytes ≤ 140737488355328)
    (hk : ∀ v' H2, Grows t sz H0 H2 v' (es ++ ys) → H0.le H2 → H2.nx = H1.nx → (∀ j, j ≠ id → (∀ n, v ≠ .osl j sz 0 n) → H2.get j = H1.get j) → (∃ n, v' = .osl id sz 0 n) → k v' H2 H2) : Wr P id (.app t sz bytes) [v, x] k H1 := by
  rcases hg with ⟨rfl, rfl⟩ | ⟨r, xs, rfl, g1, g2, g3, g4, g5⟩
  · rw [wr_app_nil, hx]
    simp only [List.length_nil, Nat.zero_add] at h1 h2
    refine ⟨h1, h2, hk _ _ ?_ (.put hw hid hle) rfl (fun j hj _ => AH.get_put_ne hj) ⟨_, rfl⟩⟩
    exact .row hid hid2 (by rw [AH.get_put_self]; rfl) (by simpa using hd) (by simp)
  · rw [wr_app_osl, hx, g3]
    refine ⟨rfl, rfl, ?_, h1, h2, hk _ _ ?_ (.put hw hid (.kill hw g1 hle)) rfl (fun j hj hv => ?_) ⟨_, rfl⟩⟩
    · have := congrArg List.length g4
      rw [List.length_take] at this
      omega
    · refine .inr ⟨id, _, by rw [List.length_append], hid, hid2, AH.get_put_self, ?_, ?_⟩
      · rw [List.drop_zero, g4, List.take_length]
      · rw [List.drop_zero, g4]; exact DtR.app (by rw [← g4]; exact g5.take) hd
    · have hr : j ≠ r := fun e => hv es.length (by rw [e])
      rw [AH.get_put_ne hj, AH.kill, AH.get_put_ne hr]
theorem Grows.not {t sz j : Nat} {v : AV} {es : List (List AV)} (h : Grows t sz H0 H1 v es) (hj : ∀ xs, H1.get j ≠ some (.row t sz xs)) : ∀ n, v ≠ .osl j sz 0 n := fun n hn => by
  rcases h with ⟨h1, _⟩ | ⟨r, xs, h1, _, _, h4, _⟩
  · rw [h1] at hn; cases hn
  · rw [h1] at hn; injection hn with hn; subst hn; exact hj _ h4
theorem Grows.part {t sz : Nat} {v : AV} {es : List (List AV)} (h : Grows t sz H0 H1 v es) : AV.part v = true ∧ AV.cells v = [v] := by
  rcases h with ⟨rfl, _⟩ | ⟨r, xs, rfl, _⟩ <;> exact ⟨rfl, rfl⟩
theorem Grows.lt {t sz j n : Nat} {v : AV} {es : List (List AV)} (h : Grows t sz H0 H1 v es) (hj : v = .osl j sz 0 n) : j < H1.nx := by
  rcases h with ⟨h1, _⟩ | ⟨r, xs, h1, _, h3, _⟩
  · rw [h1] at hj; cases hj
  · rw [h1] at hj; injection hj with hj; omega
theorem Grows.same {t sz : Nat} {v : AV} {es : List (List AV)} (h : Grows t sz H0 H1 v es) (hn : H1.nx ≤ H2.nx) (hk : ∀ j, j < H1.nx → (∃ n, v = .osl j sz 0 n) → H2.get j = H1.get j) : Grows t sz H0 H2 v es := by
  rcases h with h | ⟨r, xs, h1, h2, h3, h4, h5, h6⟩
  · exact .inl h
  · exact .inr ⟨r, xs, h1, h2, by omega, by rw [hk r h3 ⟨_, h1⟩]; exact h4, h5, h6⟩
theorem Grows.at_ {t sz : Nat} {v : AV} {es : List (List AV)} (h : Grows t sz H0 H1 v es) (hn : 0 < es.length) : ∃ r xs, v = .osl r sz 0 es.length ∧ r < H1.nx ∧ H1.get r = some (.row t sz xs) ∧ ∀ i, i < es.length → xs[i]? = es[i]? := by
  rcases h with ⟨_, h2⟩ | ⟨r, xs, h1, h2, h3, h4, h5, h6⟩
  · rw [h2] at hn; simp at hn
  · refine ⟨r, xs, h1, h3, h4, fun i hi => ?_⟩
    rw [← h5, List.getElem?_take, if_pos hi]
theorem Grows.el {t sz : Nat} {v : AV} {es : List (List AV)} (h : Grows t sz H0 H1 v es) : elF H1 sz v = some es := by
  rcases h with ⟨rfl, rfl⟩ | ⟨r, xs, rfl, _, _, h3, h4, _⟩
  · rfl
  · rw [elF_osl, h3, elRow_row, List.drop_zero, h4]
    have := congrArg List.length h4
    rw [List.length_take] at this
    omega
/-- it is handed over as data, in a memory that keeps all else -/
theorem Grows.fz {t sz : Nat} {v : AV} {es : List (List AV)} (h : Grows t sz H0 H1 v es) (hw : WF H0) (hle : H0.le H1) (hn : H0.nx ≤ H1.nx) : ∃ H2, Gst P H1 H2 ∧ H0.le H2 ∧ H2.nx = H1.nx ∧ (∀ j, (∀ n, v ≠ .osl j sz 0 n) → H2.get j = H1.get j) ∧ Sub P H2 v (.dsl sz es) := by
  rcases h with ⟨rfl, rfl⟩ | ⟨r, xs, rfl, h1, h2, h3, h4, h5⟩
  · exact ⟨H1, ⟨Nat.le_refl _, fun w S σ hs => ⟨S, hs, fun _ h => h, fun _ h => .inl h, fun _ h => h⟩⟩, hle, rfl, fun _ _ => rfl, .nil _ _ (Nat.zero_le _)⟩
  · refine ⟨_, .freeze h3 h5, .put hw h1 hle, rfl, fun j hj => AH.get_put_ne fun e => hj es.length (by rw [e]), ?_⟩
    have := Sub.frz (P := P) (H := H1.put r (.frz sz xs)) (r := r) (sz := sz) (off := 0) (n := es.length) AH.get_put_self (by
      have := congrArg List.length h4
      rw [List.length_take] at this
      omega)
    rwa [List.drop_zero, h4] at this
theorem Grows.rt {t sz : Nat} {v : AV} {es : List (List AV)} {Q : AV → AH → Prop} (h : Grows t sz H0 H1 v es) (hw : WF H0) (hle : H0.le H1) (hn : H0.nx ≤ H1.nx) (hq : Q (.dsl sz es) H0) : Rt P H0.nx v Q H1 := by
  obtain ⟨H2, k1, k2, k3, _, k4⟩ := h.fz (P := P) hw hle hn
  exact Gh.step ((GW.st k1 hn).trans (GW.sub (.cons k4 .nil) (by omega))) (Gh.back hw k2 (.one (.dsl _ _)) ⟨_, rfl, hq⟩)
/-- the cells of a box are told anew -/
theorem Gst.box {b : Nat} {t : TypeId} {cs cs' : List AV} (hg : H.get b = some (.box t cs)) (hs : Subs P H cs cs') : Gst P H (H.put b (.box t cs')) := by
  refine ⟨Nat.le_refl _, fun w S σ h => ?_⟩
  have hget : ∀ id o, (H.put b (.box t cs')).get id = some o → ∃ o', H.get id = some o' ∧ o'.owned = o.owned ∧ (id = b ∨ o' = o) := by
    intro id o ho
    by_cases e : id = b
    · subst e; rw [AH.get_put_self] at ho; injection ho with ho; subst ho; exact ⟨_, hg, rfl, .inl rfl⟩
    · rw [AH.get_put_ne e] at ho; exact ⟨_, ho, rfl, .inr rfl⟩
  refine ⟨S, ⟨h.sb, h.dom, fun id o ho => ?_, fun i j o o' x h1 h2 k1 k2 b1 b2 => ?_, fun i o x h1 k1 b1 => ?_, h.sl⟩, fun _ q => q, fun _ q => .inl q, ?_⟩
  · by_cases e : id = b
    · subst e
      rw [AH.get_put_self] at ho; injection ho with ho; subst ho
      obtain ⟨g, arr, h1, h2, h3, h4⟩ := h.obj id _ hg
      exact ⟨g, arr, h1, h2, hs.rps h h3, h4⟩
    · rw [AH.get_put_ne e] at ho; exact h.obj id o ho
  · obtain ⟨p1, q1, r1, _⟩ := hget i o h1
    obtain ⟨p2, q2, r2, _⟩ := hget j o' h2
    exact h.dj i j p1 p2 x q1 q2 (r1.trans k1) (r2.trans k2) b1 b2
  · obtain ⟨p1, q1, r1, _⟩ := hget i o h1
    exact h.sep i p1 x q1 (r1.trans k1) b1
  · rintro x ⟨i, o, h1, k1, b1⟩
    obtain ⟨p1, q1, r1, _⟩ := hget i o h1
    exact ⟨i, p1, q1, r1.trans k1, b1⟩
end
end Go.Proofs.Ytcmnjoepadjioaa

/- What the small functions of prove and of its answer compute. -/
namespace Go.Proofs.Ytcmnjoepadjioaa
open Go.RowKit Go.Maps
def Clm.cs (c : Clm) : List AV := [.p (.bool c.so), .p (.int .i64 c.a), .p (.int .i64 c.b)]
def Clm.av (c : Clm) : AV := .agg c.cs
def iv (i : Int) : AV := .p (.int .i64 i)
def bv (b : Bool) : AV := .p (.bool b)
theorem c_literal (n : Int) : PF Try.prog 22 [iv n] (bv (decide (litOk n))) := fun H => tri_wf fun hw => tri_prove_literal (by
  unfold S_prove_literal iv bv litOk
  simp +contextual
  refine ⟨fun h => ⟨fun _ => rt_refl ⟨rfl, by simp [*]⟩ (Nat.le_refl _), fun h2 => ⟨fun h3 => by omega, ?_⟩⟩, fun h => rt_refl ⟨rfl, rfl⟩ (Nat.le_refl _)⟩
  rw [if_neg (by omega)]
  exact rt_refl ⟨rfl, by simp [show ¬ -6 ≤ n by omega]⟩ (Nat.le_refl _))
theorem c_Check (c : Clm) : PF Try.prog 11 [c.av] (iv (if c.ok then 0 else 3)) := fun H => tri_wf fun hw => tri_prove_Check (by
  unfold S_prove_Check Clm.av Clm.cs
  simp +contextual
  refine ca_pure (by kernel_rfl) (c_literal _ _) ?_
  cases h1 : decide (litOk c.a) <;> simp [bv, Clm.ok]
  · exact rt_one hw (by repeat (first | with_reducible assumption | with_reducible exact AH.le.refl _ | with_reducible apply AH.le.up | (with_reducible refine AH.le.put hw ?_ ?_; · first | omega | (simp only [up_nx, put_nx, kill_nx]; done) | (simp only [up_nx, put_nx, kill_nx]; omega)) | (with_reducible refine AH.le.kill hw ?_ ?_; · first | omega | (simp only [up_nx, put_nx, kill_nx]; done) | (simp only [up_nx, put_nx, kill_nx]; omega)))) (by repeat (first | exact Cl.p _ | exact Cl.dsl _ _ | exact Cl.any | refine Cl.tup ?_ | refine Cl.agg ?_ | exact Clo.nil | refine Clo.cons ?_ ?_)) ⟨rfl, by simp at h1; simp [h1, iv]⟩
  · refine ca_pure (by kernel_rfl) (c_literal _ _) ?_
    simp at h1
    cases h2 : decide (litOk c.b) <;> simp [bv, h1] <;> simp at h2 <;> exact rt_one hw (by repeat (first | with_reducible assumption | with_reducible exact AH.le.refl _ | with_reducible apply AH.le.up | (with_reducible refine AH.le.put hw ?_ ?_; · first | omega | (simp only [up_nx, put_nx, kill_nx]; done) | (simp only [up_nx, put_nx, kill_nx]; omega)) | (with_reducible refine AH.le.kill hw ?_ ?_; · first | omega | (simp only [up_nx, put_nx, kill_nx]; done) | (simp only [up_nx, put_nx, kill_nx]; omega)))) (by repeat (first | exact Cl.p _ | exact Cl.dsl _ _ | exact Cl.any | refine Cl.tup ?_ | refine Cl.agg ?_ | exact Clo.nil | refine Clo.cons ?_ ?_)) ⟨rfl, by simp [h2, iv]⟩)

theorem any_take {α : Type} {xs : List α} {p : α → Bool} {i : Nat} {x : α} (h : ∀ y ∈ xs.take i, p y = false) (hx : xs[i]? = some x) (hp : p x = false) : ∀ y ∈ xs.take (i + 1), p y = false := fun y hy => by
  rw [List.take_add_one, hx] at hy
  simp at hy
  rcases hy with hy | rfl
  · exact h y hy
  · exact hp
theorem c_IndexFunc_int {H : AH} {xs : List Int} {g : FuncId} {first cap : List AV} {p : Int → Bool} (hg : callable Try.prog g = true) (hp : ∀ x ∈ xs, Tri Try.prog g (first ++ [iv x] ++ cap) H (fun v H' => H' = H ∧ v = bv (p x))) :
    Tri Try.prog 37 [.dsl 1 (xs.map fun x => [iv x]), .fn (.func g) first cap] H (fun v H' => H' = H ∧ ∃ i : Int, v = iv i ∧ decide (i ≥ 0) = xs.any p) := tri_wf fun hw => tri_len 0 rfl fun hl _ => tri_slices_IndexFunc_s_int_int (by
  have hml : maxLen = 9223372036854775807 := by decide
  rw [List.length_map] at hl
  unfold S_slices_IndexFunc_s_int_int
  simp +contextual
  refine loop_st (fun i : Nat => [iv i]) (fun i H' => H' = H ∧ i ≤ xs.length ∧ ∀ y ∈ xs.take i, p y = false) (fun i => xs.length - i) 0 (.refl (Nat.le_refl _)) ⟨rfl, Nat.zero_le _, by simp⟩ ?_
  rintro i _ _ ⟨rfl, hi, hno⟩ k hk
  simp only [iv, List.getD_cons_zero]
  simp +contextual
  refine ⟨fun h => ?_, fun h => ?_⟩
  · have hx := List.getElem?_eq_getElem h
    refine ca_pure hg (hp _ (List.getElem_mem h)) ?_
    cases hq : p xs[i]
    · simp [bv]
      rw [ivn (by omega)]
      exact hk (i + 1) _ _ _ (.refl (Nat.le_refl _)) ⟨rfl, h, any_take hno hx hq⟩ (by omega)
    · simp [bv]
      exact rt_refl ⟨rfl, _, rfl, by simp; exact ⟨_, List.getElem_mem h, hq⟩⟩ (Nat.le_refl _)
  · have : xs.any p = false := by
      rw [List.any_eq_false]; intro y hy; rw [hno y (by rw [List.take_of_length_le (by omega)]; exact hy)]; simp
    exact rt_refl ⟨rfl, _, rfl, by rw [this]; rfl⟩ (Nat.le_refl _))
theorem c_ContainsFunc_int {H : AH} {xs : List Int} {g : FuncId} {first cap : List AV} {p : Int → Bool} (hg : callable Try.prog g = true) (hp : ∀ x ∈ xs, Tri Try.prog g (first ++ [iv x] ++ cap) H (fun v H' => H' = H ∧ v = bv (p x))) :
    Tri Try.prog 19 [.dsl 1 (xs.map fun x => [iv x]), .fn (.func g) first cap] H (fun v H' => H' = H ∧ v = bv (xs.any p)) := tri_wf fun hw => tri_slices_ContainsFunc_s_int_int (by
  unfold S_slices_ContainsFunc_s_int_int
  refine ca_of (by kernel_rfl) (c_IndexFunc_int hg hp) ?_
  rintro _ _ ⟨rfl, i, rfl, hi⟩
  simp only [iv, ↓q_geq_i]
  exact rt_refl ⟨rfl, by rw [hi]; rfl⟩ (Nat.le_refl _))
theorem isL_div {w n : Nat} : w.testBit n = decide (w / 2 ^ n % 2 = 1) := Nat.testBit_eq_decide_div_mod_eq
theorem c_is (w : Nat) (hw64 : w < 9223372036854775808) : ∀ x : Int, litOk x → PF Try.prog 39 [iv w, iv x] (bv (isL w x)) := by
  have pos : ∀ x : Int, litOk x → 0 < x → PF Try.prog 39 [iv w, iv x] (bv (isL w x)) := fun x hx h0 H => tri_wf fun hw => tri_prove_is (by
    unfold S_prove_is iv
    obtain ⟨n, rfl⟩ := Int.eq_ofNat_of_zero_le (by omega : 0 ≤ x)
    have h2 : ¬ ((n : Int) < 0) := by omega
    have h3 : IntKind.i64.wrap ((n : Int) - 1) = ((n - 1 : Nat) : Int) := by rw [IntKind.wrap_i64]; unfold litOk at hx; omega
    have h4 : min (n - 1) IntKind.i64.bits = n - 1 := by unfold litOk at hx; show min (n - 1) 64 = n - 1; omega
    have h5 : (w : Int).fdiv (2 ^ (n - 1)) = ((w / 2 ^ (n - 1) : Nat) : Int) := by
      rw [Int.fdiv_eq_ediv_of_nonneg _ (by exact_mod_cast Nat.zero_le _)]; push_cast; rfl
    have h6 : w / 2 ^ (n - 1) < 9223372036854775808 := Nat.lt_of_le_of_lt (Nat.div_le_self _ _) hw64
    have h7 := i64_and_nat _ 1 h6 (by omega)
    change bit_and .i64 ((w / 2 ^ (n - 1) : Nat) : Int) 1 = _ at h7
    have h8 : (((w / 2 ^ (n - 1) &&& 1 : Nat) : Int) = 1) ↔ w.testBit (n - 1) = true := by
      rw [isL_div, Nat.and_one_is_mod, decide_eq_true_iff]; omega
    have h9 : bit_and .i64 ((w : Int) / 2 ^ (n - 1)) 1 = ((w / 2 ^ (n - 1) &&& 1 : Nat) : Int) := by rw [← h7]; push_cast; rfl
    simp [h2, h3, h4, h5]
    refine rt_refl ⟨rfl, ?_⟩ (Nat.le_refl _)
    simp [bv, isL, h2]
    rw [h9, Bool.eq_iff_iff, decide_eq_true_iff]; exact h8)
  intro x hx H
  by_cases h0 : 0 < x
  · exact pos x hx h0 H
  refine tri_prove_is ?_
  unfold S_prove_is
  have h1 : x < 0 := by unfold litOk at hx; omega
  have h2 : IntKind.i64.wrap (0 - x) = -x := by rw [IntKind.wrap_i64]; unfold litOk at hx; omega
  have h2' : IntKind.i64.wrap (-x) = -x := by rw [IntKind.wrap_i64]; unfold litOk at hx; omega
  simp [iv, h1, h2, h2']
  refine ca_pure (by kernel_rfl) (pos (-x) (lit_neg hx) (by omega) H) ?_
  simp [bv]
  refine rt_refl ⟨rfl, ?_⟩ (Nat.le_refl _)
  rw [isL_neg hx, Bool.not_not]
theorem c_holds1 {H : AH} {w : Nat} (hw64 : w < 9223372036854775808) {c : Clm} (hc : c.ok) {i : Nat} {t : TypeId} (hg : H.get i = some (.box t c.cs)) : Tri Try.prog 38 [iv w, .ptr i 0] H (fun v H' => H' = H ∧ v = bv (holds1 w c)) := tri_prove_holds_fn1 (by
  unfold S_prove_holds_fn1
  simp [hg, Clm.cs]
  refine cav_pure (by kernel_rfl) (fun H2 _ => c_is w hw64 c.a hc.1 H2) ?_
  unfold holds1
  cases h : isL w c.a
  · simp [bv]
    exact rt_refl ⟨rfl, rfl⟩ (Nat.le_refl _)
  · simp [bv, hg, Clm.cs]
    refine cav_pure (by kernel_rfl) (fun H2 _ => c_is w hw64 c.b hc.2 H2) ?_
    simp [bv, hg, Clm.cs]
    exact rt_refl ⟨rfl, rfl⟩ (Nat.le_refl _))
end Go.Proofs.Ytcmnjoepadjioaa

/- What Holds, the claims' checks and their twins in the answer compute. -/
namespace Go.Proofs.Ytcmnjoepadjioaa
open Go.RowKit Go.Maps
def wE (xs : List Int) : AV := .dsl 1 (xs.map fun x => [iv x])
def natL (xs : List Int) : List Nat := xs.map Int.toNat
def inWd (x : Int) : Prop := 0 ≤ x ∧ x < 64
instance (x : Int) : Decidable (inWd x) := by unfold inWd; infer_instance
theorem any_map_congr {α β : Type} {xs : List α} {f : α → β} {p : α → Bool} {q : β → Bool} (h : ∀ x ∈ xs, p x = q (f x)) : xs.any p = (xs.map f).any q := by
  induction xs with
  | nil => rfl
  | cons x xs ih => simp only [List.any_cons, List.map_cons, h x (by simp), ih fun y hy => h y (by simp [hy])]
theorem c_holds {xs : List Int} (hx : ∀ x ∈ xs, inWd x) {c : Clm} (hc : c.ok) : PF Try.prog 21 [wE xs, c.av] (bv (holdsC (natL xs) c)) := fun H => tri_wf fun hw => tri_prove_holds (by
  unfold S_prove_holds Clm.av wE
  simp +contextual
  refine ca_pure (by kernel_rfl) (c_ContainsFunc_int (p := fun x => holds1 x.toNat c) (by kernel_rfl) fun x hxs => ?_) ?_
  · obtain ⟨n, rfl⟩ := Int.eq_ofNat_of_zero_le (hx x hxs).1
    exact c_holds1 (by have := (hx _ hxs).2; omega) hc (put_get _ _)
  · simp [Clm.cs, bv]
    refine rt_one hw (by repeat (first | with_reducible assumption | with_reducible exact AH.le.refl _ | with_reducible apply AH.le.up | (with_reducible refine AH.le.put hw ?_ ?_; · first | omega | (simp only [up_nx, put_nx, kill_nx]; done) | (simp only [up_nx, put_nx, kill_nx]; omega)) | (with_reducible refine AH.le.kill hw ?_ ?_; · first | omega | (simp only [up_nx, put_nx, kill_nx]; done) | (simp only [up_nx, put_nx, kill_nx]; omega)))) (by repeat (first | exact Cl.p _ | exact Cl.dsl _ _ | exact Cl.any | refine Cl.tup ?_ | refine Cl.agg ?_ | exact Clo.nil | refine Clo.cons ?_ ?_)) ⟨rfl, ?_⟩
    unfold holdsC natL
    rw [any_map_congr (f := Int.toNat) (q := fun w => holds1 w c) (fun _ _ => rfl)])
theorem c_Holds_fn1 (x : Int) : PF Try.prog 20 [iv x] (bv (!decide (inWd x))) := fun H => tri_wf fun hw => tri_prove_Holds_fn1 (by
  unfold S_prove_Holds_fn1 iv
  cases h : decide (x < 0) <;> cases h2 : decide (64 ≤ x) <;> simp [h, h2] <;> simp at h h2 <;> refine rt_refl ⟨rfl, ?_⟩ (Nat.le_refl _)
  · rw [show decide (inWd x) = true from decide_eq_true (by unfold inWd; omega)]; rfl
  all_goals rw [show decide (inWd x) = false from decide_eq_false (by unfold inWd; omega)]; rfl)
def okW (xs : List Int) : Int := if xs.length > 64 then 7 else if xs.all (fun x => decide (inWd x)) then 0 else 3
theorem c_Holds (xs : List Int) (c : Clm) : PF Try.prog 7 [wE xs, c.av] (.tup [bv (decide (okW xs = 0 ∧ c.ok) && holdsC (natL xs) c), iv (if okW xs = 0 then (if c.ok then 0 else 3) else okW xs)]) := fun H => tri_wf fun hw => tri_prove_Holds (by
  unfold S_prove_Holds Clm.av wE
  simp +contextual
  refine ⟨fun h => ?_, fun h => ?_⟩
  · refine rt_tup hw (by repeat (first | with_reducible assumption | with_reducible exact AH.le.refl _ | with_reducible apply AH.le.up | (with_reducible refine AH.le.put hw ?_ ?_; · first | omega | (simp only [up_nx, put_nx, kill_nx]; done) | (simp only [up_nx, put_nx, kill_nx]; omega)) | (with_reducible refine AH.le.kill hw ?_ ?_; · first | omega | (simp only [up_nx, put_nx, kill_nx]; done) | (simp only [up_nx, put_nx, kill_nx]; omega)))) (by repeat (first | exact Cl.p _ | exact Cl.dsl _ _ | exact Cl.any | refine Cl.tup ?_ | refine Cl.agg ?_ | exact Clo.nil | refine Clo.cons ?_ ?_)) ⟨rfl, ?_⟩
    have h2 : okW xs = 7 := by unfold okW; rw [if_pos (by omega)]
    simp [h2, bv, iv]
  · refine ca_pure (by kernel_rfl) (c_ContainsFunc_int (p := fun x => !decide (inWd x)) (by kernel_rfl) fun x hxs => c_Holds_fn1 x _) ?_
    cases h3 : xs.any (fun x => !decide (inWd x)) <;> simp [bv, Clm.cs]
    · have hall : ∀ x ∈ xs, inWd x := by simpa using h3
      have h2 : okW xs = 0 := by unfold okW; rw [if_neg (by omega), if_pos (by simpa using hall)]
      refine ca_pure (by kernel_rfl) (c_Check c _) ?_
      by_cases hc : c.ok <;> simp [hc, iv]
      · refine ca_pure (by kernel_rfl) (c_holds hall hc _) ?_
        exact rt_tup hw (by repeat (first | with_reducible assumption | with_reducible exact AH.le.refl _ | with_reducible apply AH.le.up | (with_reducible refine AH.le.put hw ?_ ?_; · first | omega | (simp only [up_nx, put_nx, kill_nx]; done) | (simp only [up_nx, put_nx, kill_nx]; omega)) | (with_reducible refine AH.le.kill hw ?_ ?_; · first | omega | (simp only [up_nx, put_nx, kill_nx]; done) | (simp only [up_nx, put_nx, kill_nx]; omega)))) (by repeat (first | exact Cl.p _ | exact Cl.dsl _ _ | exact Cl.any | refine Cl.tup ?_ | refine Cl.agg ?_ | exact Clo.nil | refine Clo.cons ?_ ?_)) ⟨rfl, by simp [h2, bv]⟩
      · exact rt_tup hw (by repeat (first | with_reducible assumption | with_reducible exact AH.le.refl _ | with_reducible apply AH.le.up | (with_reducible refine AH.le.put hw ?_ ?_; · first | omega | (simp only [up_nx, put_nx, kill_nx]; done) | (simp only [up_nx, put_nx, kill_nx]; omega)) | (with_reducible refine AH.le.kill hw ?_ ?_; · first | omega | (simp only [up_nx, put_nx, kill_nx]; done) | (simp only [up_nx, put_nx, kill_nx]; omega)))) (by repeat (first | exact Cl.p _ | exact Cl.dsl _ _ | exact Cl.any | refine Cl.tup ?_ | refine Cl.agg ?_ | exact Clo.nil | refine Clo.cons ?_ ?_)) ⟨rfl, by simp [h2]⟩
    · have h2 : okW xs = 3 := by unfold okW; rw [if_neg (by omega), if_neg (by simpa using h3)]
      exact rt_tup hw (by repeat (first | with_reducible assumption | with_reducible exact AH.le.refl _ | with_reducible apply AH.le.up | (with_reducible refine AH.le.put hw ?_ ?_; · first | omega | (simp only [up_nx, put_nx, kill_nx]; done) | (simp only [up_nx, put_nx, kill_nx]; omega)) | (with_reducible refine AH.le.kill hw ?_ ?_; · first | omega | (simp only [up_nx, put_nx, kill_nx]; done) | (simp only [up_nx, put_nx, kill_nx]; omega)))) (by repeat (first | exact Cl.p _ | exact Cl.dsl _ _ | exact Cl.any | refine Cl.tup ?_ | refine Cl.agg ?_ | exact Clo.nil | refine Clo.cons ?_ ?_)) ⟨rfl, by simp [h2, iv]⟩)
theorem c_RCheckClaim (c : Clm) : PF Try.prog 9 [c.av] (iv (if c.ok then 0 else 3)) := fun H => tri_wf fun hw => tri_wordhoardref_CheckClaim (by
  unfold S_wordhoardref_CheckClaim Clm.av Clm.cs
  cases h1 : decide (c.a = 0) <;> cases h2 : decide (c.a < -6) <;> cases h3 : decide (6 < c.a) <;> cases h4 : decide (c.b = 0) <;> cases h5 : decide (c.b < -6) <;> cases h6 : decide (6 < c.b) <;> simp [h1, h2, h3, h4, h5, h6] <;> simp at h1 h2 h3 h4 h5 h6 <;>
    exact rt_one hw (by repeat (first | with_reducible assumption | with_reducible exact AH.le.refl _ | with_reducible apply AH.le.up | (with_reducible refine AH.le.put hw ?_ ?_; · first | omega | (simp only [up_nx, put_nx, kill_nx]; done) | (simp only [up_nx, put_nx, kill_nx]; omega)) | (with_reducible refine AH.le.kill hw ?_ ?_; · first | omega | (simp only [up_nx, put_nx, kill_nx]; done) | (simp only [up_nx, put_nx, kill_nx]; omega)))) (by repeat (first | exact Cl.p _ | exact Cl.dsl _ _ | exact Cl.any | refine Cl.tup ?_ | refine Cl.agg ?_ | exact Clo.nil | refine Clo.cons ?_ ?_)) ⟨rfl, by first | (rw [if_pos (by unfold Clm.ok litOk; omega)]; rfl) | (rw [if_neg (by unfold Clm.ok litOk; omega)]; rfl)⟩)
theorem c_RCheckWorld (xs : List Int) : PF Try.prog 8 [wE xs] (iv (okW xs)) := fun H => tri_wf fun hw => tri_len 0 rfl fun hl _ => tri_wordhoardref_CheckWorld (by
  have hml : maxLen = 9223372036854775807 := by decide
  rw [List.length_map] at hl
  unfold S_wordhoardref_CheckWorld wE
  simp +contextual
  refine ⟨fun h => rt_refl ⟨rfl, by unfold okW iv; rw [if_pos (by omega)]⟩ (Nat.le_refl _), fun h => ?_⟩
  refine loop_st (fun i : Nat => [iv i]) (fun i H' => H' = H ∧ i ≤ xs.length ∧ ∀ y ∈ xs.take i, (!decide (inWd y)) = false) (fun i => xs.length - i) 0 (.refl (Nat.le_refl _)) ⟨rfl, Nat.zero_le _, by simp⟩ ?_
  rintro i _ _ ⟨rfl, hi, hno⟩ k hk
  simp only [iv, List.getD_cons_zero]
  by_cases hi2 : i < xs.length
  · have hx := List.getElem?_eq_getElem hi2
    cases h1 : decide (xs[i] < 0) <;> cases h2 : decide (63 < xs[i]) <;> simp [hi2, h1, h2] <;> simp at h1 h2
    · rw [ivn (by omega)]
      exact hk (i + 1) _ _ _ (.refl (Nat.le_refl _)) ⟨rfl, by omega, any_take hno hx (by rw [show decide (inWd xs[i]) = true from decide_eq_true (by unfold inWd; omega)]; rfl)⟩ (by omega)
    all_goals
      refine rt_refl ⟨rfl, ?_⟩ (Nat.le_refl _)
      unfold okW
      rw [if_neg (by omega), if_neg]
      simp only [List.all_eq_true, decide_eq_true_eq]
      intro hall
      have := hall _ (List.getElem_mem hi2)
      unfold inWd at this
      omega
  · simp [hi2]
    refine rt_refl ⟨rfl, ?_⟩ (Nat.le_refl _)
    unfold okW
    rw [if_neg (by omega), if_pos]
    rw [List.take_of_length_le (by omega)] at hno
    simpa using hno)
theorem c_RIs (w : Nat) (hw64 : w < 9223372036854775808) (x : Int) (hx : litOk x) : PF Try.prog 23 [iv w, iv x] (bv (isL w x)) := fun H => tri_wf fun hw => tri_wordhoardref_Is (by
  unfold S_wordhoardref_Is
  refine cut_st (α := Unit) (fun _ => [iv (if x < 0 then -x else x)]) (fun _ H' => H' = H) (fun k hk => ?_) ?_
  · have h2' : IntKind.i64.wrap (-x) = -x := by rw [IntKind.wrap_i64]; unfold litOk at hx; omega
    cases h : decide (x < 0) <;> simp [iv, h, h2'] <;> simp at h <;> refine hk () _ _ _ ?_ rfl
    · rw [if_neg (by omega)]; exact .refl (Nat.le_refl _)
    · rw [if_pos (by omega)]; exact .refl (Nat.le_refl _)
  · rintro _ H _ rfl
    obtain ⟨n, hn⟩ : ∃ n : Nat, (if x < 0 then -x else x) = (n : Int) := Int.eq_ofNat_of_zero_le (by split <;> omega)
    rw [hn]
    have hn0 : 0 < n ∧ n ≤ 6 := by unfold litOk at hx; split at hn <;> omega
    refine loop_st (fun i : Nat => [iv ((w / 2 ^ i : Nat) : Int), iv ((i + 1 : Nat) : Int)]) (fun i H' => H' = H ∧ i < n) (fun i => n - i) 0 ?_ ⟨rfl, by omega⟩ ?_
    · simp
      exact .refl (Nat.le_refl _)
    · rintro i _ _ ⟨rfl, hi⟩ k hk
      simp only [iv, List.getD_cons_zero, List.getD_cons_succ]
      obtain ⟨m, hm⟩ : ∃ m : Nat, w / 2 ^ i = m := ⟨_, rfl⟩
      have hm1 : w / 2 ^ (i + 1) = m / 2 := by rw [Nat.pow_succ, ← Nat.div_div_eq_div_mul, hm]
      have hmw : m ≤ w := by rw [← hm]; exact Nat.div_le_self _ _
      rw [hm]
      have hq : IntKind.i64.wrap (Int.tdiv (m : Int) 2) = ((w / 2 ^ (i + 1) : Nat) : Int) := by
        rw [hm1, Int.tdiv_eq_ediv_of_nonneg (by omega), IntKind.wrap_i64]; omega
      have hi1 : IntKind.i64.wrap (((i + 1 : Nat) : Int) + 1) = ((i + 1 + 1 : Nat) : Int) := ivn (by omega)
      have hr : Int.tmod (m : Int) 2 = ((m % 2 : Nat) : Int) := by rw [Int.tmod_eq_emod_of_nonneg (by omega)]; omega
      rw [q_lss_i, cd_eq]
      refine ⟨fun h => ?_, fun h => ?_⟩
      · rw [decide_eq_true_iff] at h
        rw [q_quo_i, q_add_i, hq, hi1]
        exact ⟨by omega, hk (i + 1) _ _ _ (.refl (Nat.le_refl _)) ⟨rfl, by omega⟩ (by omega)⟩
      · rw [decide_eq_false_iff_not] at h
        rw [q_rem_i, hr, q_eql_i, q_gtr_i, q_eql_b]
        refine ⟨by omega, by kernel_rfl, rt_refl ⟨rfl, ?_⟩ (Nat.le_refl _)⟩
        have hin : i = n - 1 := by omega
        subst hin
        clear hi1 hq
        unfold bv isL
        congr 2
        by_cases hx0 : x < 0
        · rw [if_pos hx0] at hn ⊢
          rw [hn, Int.toNat_natCast, isL_div, hm, Bool.eq_iff_iff]
          simp
          omega
        · rw [if_neg hx0] at hn ⊢
          rw [hn, Int.toNat_natCast, isL_div, hm, Bool.eq_iff_iff]
          simp
          omega)
end Go.Proofs.Ytcmnjoepadjioaa

/- HoldsIn of the answer; the lists of claims that are checked. -/
namespace Go.Proofs.Ytcmnjoepadjioaa
open Go.RowKit Go.Maps
theorem c_RHoldsIn {xs : List Int} (hx : ∀ x ∈ xs, inWd x) {c : Clm} (hc : c.ok) : PF Try.prog 12 [wE xs, c.av] (bv (holdsC (natL xs) c)) := fun H => tri_wf fun hw => tri_len 0 rfl fun hl _ => tri_wordhoardref_HoldsIn (by
  have hml : maxLen = 9223372036854775807 := by decide
  rw [List.length_map] at hl
  unfold S_wordhoardref_HoldsIn wE Clm.av
  simp +contextual
  refine loop_st (fun i : Nat => [iv i]) (fun i H' => H' = (H.up 2).put H.nx (.box 24 c.cs) ∧ i ≤ xs.length ∧ ∀ y ∈ xs.take i, holds1 y.toNat c = false) (fun i => xs.length - i) 0 (.refl (Nat.le_refl _)) ⟨rfl, Nat.zero_le _, by simp⟩ ?_
  rintro i _ _ ⟨rfl, hi, hno⟩ k hk
  simp only [iv, List.getD_cons_zero]
  by_cases hi2 : i < xs.length
  · have hg := List.getElem?_eq_getElem hi2
    obtain ⟨n, hn⟩ := Int.eq_ofNat_of_zero_le (hx _ (List.getElem_mem hi2)).1
    have hn2 : n < 64 := by have := (hx _ (List.getElem_mem hi2)).2; omega
    have hnat : (xs[i]).toNat = n := by rw [hn]; rfl
    have hany : holds1 n c = true → holdsC (natL xs) c = c.so := fun h => by
      unfold holdsC natL
      rw [List.any_map, show xs.any ((fun w => holds1 w c) ∘ Int.toNat) = true from List.any_eq_true.2 ⟨_, List.getElem_mem hi2, by simp [hnat, h]⟩]
      cases c.so <;> rfl
    simp [hi2, Clm.cs, hn]
    refine cav_pure (by kernel_rfl) (fun H2 _ => c_RIs n (by omega) c.a hc.1 H2) ?_
    cases h1 : isL n c.a
    · simp [bv]
      rw [ivn (by omega)]
      exact hk (i + 1) _ _ _ (.refl (Nat.le_refl _)) ⟨rfl, hi2, any_take hno hg (by rw [hnat]; simp [holds1, h1])⟩ (by omega)
    · simp [bv, hi2, Clm.cs, hn]
      refine cav_pure (by kernel_rfl) (fun H2 _ => c_RIs n (by omega) c.b hc.2 H2) ?_
      simp [bv, Clm.cs]
      refine ⟨fun h2 => ?_, fun h2 => ?_⟩
      · refine rt_one hw (by repeat (first | with_reducible assumption | with_reducible exact AH.le.refl _ | with_reducible apply AH.le.up | (with_reducible refine AH.le.put hw ?_ ?_; · first | omega | (simp only [up_nx, put_nx, kill_nx]; done) | (simp only [up_nx, put_nx, kill_nx]; omega)) | (with_reducible refine AH.le.kill hw ?_ ?_; · first | omega | (simp only [up_nx, put_nx, kill_nx]; done) | (simp only [up_nx, put_nx, kill_nx]; omega)))) (by repeat (first | exact Cl.p _ | exact Cl.dsl _ _ | exact Cl.any | refine Cl.tup ?_ | refine Cl.agg ?_ | exact Clo.nil | refine Clo.cons ?_ ?_)) ⟨rfl, ?_⟩
        rw [hany (by simp [holds1, h1, h2])]
      · rw [ivn (by omega)]
        exact hk (i + 1) _ _ _ (.refl (Nat.le_refl _)) ⟨rfl, hi2, any_take hno hg (by rw [hnat]; simp [holds1, h1, h2])⟩ (by omega)
  · simp [hi2, Clm.cs]
    refine rt_one hw (by repeat (first | with_reducible assumption | with_reducible exact AH.le.refl _ | with_reducible apply AH.le.up | (with_reducible refine AH.le.put hw ?_ ?_; · first | omega | (simp only [up_nx, put_nx, kill_nx]; done) | (simp only [up_nx, put_nx, kill_nx]; omega)) | (with_reducible refine AH.le.kill hw ?_ ?_; · first | omega | (simp only [up_nx, put_nx, kill_nx]; done) | (simp only [up_nx, put_nx, kill_nx]; omega)))) (by repeat (first | exact Cl.p _ | exact Cl.dsl _ _ | exact Cl.any | refine Cl.tup ?_ | refine Cl.agg ?_ | exact Clo.nil | refine Clo.cons ?_ ?_)) ⟨rfl, ?_⟩
    rw [List.take_of_length_le (by omega)] at hno
    unfold holdsC natL
    rw [List.any_map, show xs.any ((fun w => holds1 w c) ∘ Int.toNat) = false from List.any_eq_false.2 fun y hy => by simp [hno y hy]]
    cases c.so <;> rfl)
def cE (l : List Clm) : AV := .dsl 3 (l.map Clm.cs)
theorem dt_cs (l : List Clm) : DtR (l.map Clm.cs) := by
  intro e he a ha
  obtain ⟨c, _, rfl⟩ := List.mem_map.1 he
  simp only [Clm.cs, List.mem_cons, List.not_mem_nil, or_false] at ha
  rcases ha with rfl | rfl | rfl <;> exact Dt.p _
theorem c_Grow {H : AH} {n : Int} (h0 : 0 ≤ n) (h1 : n * 24 ≤ 140737488355328) : Tri Try.prog 45 [.p (.slice none 0 0), iv n] H (fun v H' => Grows 24 3 H H' v [] ∧ H.le H' ∧ H.nx ≤ H'.nx) := tri_wf fun hw => tri_slices_Grow_s_api_Claim_api_Claim (by
  have hml : maxLen = 9223372036854775807 := by decide
  unfold S_slices_Grow_s_api_Claim_api_Claim
  refine cut_st (α := Unit) (fun _ => []) (fun _ H' => H' = H) (fun k hk => ?_) ?_
  · simp [iv]
    exact ⟨h0, fun _ => hk () _ _ _ (.refl (Nat.le_refl _)) rfl⟩
  · rintro _ _ _ rfl
    have hz : IntKind.i64.wrap (0 - 0) = 0 := by decide
    have hz2 : IntKind.i64.wrap 0 = 0 := by decide
    have hz3 : IntKind.i64.wrap n = n := by rw [IntKind.wrap_i64]; omega
    simp [iv, hz, hz2, hz3]
    refine ⟨fun h => ⟨h0, by omega, h1, by omega, ?_⟩, fun h => ?_⟩
    · refine rt_refl ⟨?_, (by repeat (first | with_reducible assumption | with_reducible exact AH.le.refl _ | with_reducible apply AH.le.up | (with_reducible refine AH.le.put hw ?_ ?_; · first | omega | (simp only [up_nx, put_nx, kill_nx]; done) | (simp only [up_nx, put_nx, kill_nx]; omega)) | (with_reducible refine AH.le.kill hw ?_ ?_; · first | omega | (simp only [up_nx, put_nx, kill_nx]; done) | (simp only [up_nx, put_nx, kill_nx]; omega)))), (by first | omega | (simp only [up_nx, put_nx, kill_nx]; done) | (simp only [up_nx, put_nx, kill_nx]; omega))⟩ (by first | omega | (simp only [up_nx, put_nx, kill_nx]; done) | (simp only [up_nx, put_nx, kill_nx]; omega))
      refine .inr ⟨_, _, rfl, (by first | omega | (simp only [up_nx, put_nx, kill_nx]; done) | (simp only [up_nx, put_nx, kill_nx]; omega)), (by first | omega | (simp only [up_nx, put_nx, kill_nx]; done) | (simp only [up_nx, put_nx, kill_nx]; omega)), put_get _ _, rfl, fun e he a ha => ?_⟩
      rw [List.mem_replicate] at he
      rw [he.2] at ha
      simp at ha
      rcases ha with rfl | rfl | rfl <;> exact Dt.p _
    · exact rt_refl ⟨.nil _ _ _ _, .refl _, Nat.le_refl _⟩ (Nat.le_refl _))
theorem flat_take {α : Type} {ls : List (List α)} {i : Nat} {l : List α} (h : ls[i]? = some l) : (ls.take (i + 1)).flatten = (ls.take i).flatten ++ l := by
  rw [List.take_add_one, h]; simp
theorem flat_take_le {α : Type} {ls : List (List α)} {i : Nat} : (ls.take i).flatten.length ≤ ls.flatten.length := by
  conv => rhs; rw [← List.take_append_drop i ls, List.flatten_append, List.length_append]
  omega
def tot {α : Type} (ls : List (List α)) (i : Nat) : Nat := (ls.take i).flatten.length
theorem tot_succ {α : Type} {ls : List (List α)} {i : Nat} {l : List α} (h : ls[i]? = some l) : tot ls (i + 1) = tot ls i + l.length := by unfold tot; rw [flat_take h, List.length_append]
theorem tot_le {α : Type} {ls : List (List α)} {i : Nat} : tot ls i ≤ ls.flatten.length := flat_take_le
theorem c_Concat (ls : List (List Clm)) (hb : ls.flatten.length * 24 ≤ 140737488355328) : PF Try.prog 40 [.dsl 1 (ls.map fun l => [cE l])] (cE ls.flatten) := fun H => tri_wf fun hw => tri_len 0 rfl fun hl _ => tri_slices_Concat_s_api_Claim_api_Claim (by
  have hml : maxLen = 9223372036854775807 := by decide
  rw [List.length_map] at hl
  unfold S_slices_Concat_s_api_Claim_api_Claim
  simp +contextual
  refine loop_st (fun i : Nat => [iv (tot ls i), iv i]) (fun i H' => H = H' ∧ i ≤ ls.length) (fun i => ls.length - i) 0 (.refl (Nat.le_refl _)) ⟨rfl, Nat.zero_le _⟩ ?_
  rintro i _ _ ⟨rfl, hi⟩ k hk
  simp only [iv, List.getD_cons_zero, List.getD_cons_succ]
  by_cases hi2 : i < ls.length
  · have hg := List.getElem?_eq_getElem hi2
    have hle := tot_le (ls := ls) (i := i + 1)
    rw [tot_succ hg] at hle
    have hws : IntKind.i64.wrap ((tot ls i : Int) + ((ls[i]).length : Int)) = (tot ls (i + 1) : Int) := by rw [tot_succ hg, IntKind.wrap_i64]; omega
    simp [hi2, cE, hws]
    rw [ivn (by omega)]
    exact hk (i + 1) _ _ _ (.refl (Nat.le_refl _)) ⟨rfl, hi2⟩ (by omega)
  · have hii : i = ls.length := by omega
    simp [hi2]
    have htot : tot ls i = ls.flatten.length := by unfold tot; rw [hii, List.take_length]
    refine ca_of (by kernel_rfl) (c_Grow (by omega) (by omega)) ?_
    rintro v H1 ⟨hg, hle, hn⟩
    simp +contextual
    refine loop_st (fun x : Nat × AV => [x.2, iv x.1]) (fun x H' => Grows 24 3 H H' x.2 ((ls.take x.1).flatten.map Clm.cs) ∧ H.le H' ∧ H.nx ≤ H'.nx ∧ x.1 ≤ ls.length) (fun x => ls.length - x.1) (0, v) (.refl (Nat.le_refl _)) ⟨by simpa using hg, hle, hn, Nat.zero_le _⟩ ?_
    rintro ⟨j, u⟩ H2 hn2 ⟨g2, hle2, hn3, hj⟩ k2 hk2
    dsimp only at g2 hj
    simp only [iv, List.getD_cons_zero, List.getD_cons_succ]
    by_cases hj2 : j < ls.length
    · have hgj := List.getElem?_eq_getElem hj2
      have hlej := tot_le (ls := ls) (i := j + 1)
      rw [tot_succ hgj] at hlej
      simp [hj2, cE]
      unfold tot at hlej
      refine Grows.app (H1 := H2.up 4) hw (g2.keep (Nat.le_add_right _ _) fun _ _ _ h => h) hle2 (by first | omega | (simp only [up_nx, put_nx, kill_nx]; done) | (simp only [up_nx, put_nx, kill_nx]; omega)) (by first | omega | (simp only [up_nx, put_nx, kill_nx]; done) | (simp only [up_nx, put_nx, kill_nx]; omega)) (elF_dsl _ _) (dt_cs _) (by rw [List.length_map, List.length_map]; omega) (by rw [List.length_map, List.length_map]; omega) fun v' H3 g3 l3 n3 _ _ => ?_
      have hiv := ivn (i := j) (by omega)
      simp [hiv]
      exact hk2 (j + 1, v') _ _ _ (.refl (by rw [n3]; exact Nat.le_trans hn2 (Nat.le_add_right _ _))) ⟨by rw [flat_take hgj, List.map_append]; exact g3, l3, by rw [n3]; exact Nat.le_trans hn3 (Nat.le_add_right _ _), hj2⟩ (by simp only; omega)
    · simp [hj2]
      have hjj : j = ls.length := by omega
      subst hjj
      rw [List.take_length] at g2
      exact g2.rt hw hle2 hn3 ⟨rfl, rfl⟩)
def okL (l : List Clm) : Int := if l.all (fun c => decide c.ok) then 0 else 3
def okP (p l : List Clm) : Int := if p.length > 20 then 7 else okL (p ++ l)
theorem all_take {α : Type} {xs : List α} {p : α → Bool} {i : Nat} {x : α} (h : ∀ y ∈ xs.take i, p y = true) (hx : xs[i]? = some x) (hp : p x = true) : ∀ y ∈ xs.take (i + 1), p y = true := fun y hy => by
  rw [List.take_add_one, hx] at hy
  simp at hy
  rcases hy with hy | rfl
  · exact h y hy
  · exact hp
theorem c_checkAll (p l : List Clm) (hb : l.length * 24 ≤ 140737488354328) : PF Try.prog 24 [cE p, cE l] (iv (okP p l)) := fun H => tri_wf fun hw => tri_prove_checkAll (by
  have hml : maxLen = 9223372036854775807 := by decide
  unfold S_prove_checkAll
  simp +contextual [cE]
  refine ⟨fun h => rt_refl ⟨rfl, by unfold okP; rw [if_pos (by omega)]; rfl⟩ (Nat.le_refl _), fun h => ?_⟩
  refine ca_of (by kernel_rfl) (Tri.st (.freeze (put_get _ _) (fun e he a ha => ?_)) (Tri.args (.cons (Sub.frz AH.get_put_self (by simp)) .nil) (c_Concat [p, l] (by simp; omega) _))) ?_
  · simp at he; rcases he with rfl | rfl <;> (simp at ha; subst ha; exact .dsl _ _)
  rintro _ _ ⟨rfl, rfl⟩
  simp [cE]
  rw [← List.map_append]
  refine loop_st (fun i : Nat => [iv i]) (fun i H' => H.le H' ∧ H.nx ≤ H'.nx ∧ i ≤ (p ++ l).length ∧ ∀ y ∈ (p ++ l).take i, decide y.ok = true) (fun i => (p ++ l).length - i) 0 (.refl (by first | omega | (simp only [up_nx, put_nx, kill_nx]; done) | (simp only [up_nx, put_nx, kill_nx]; omega))) ⟨(by repeat (first | with_reducible assumption | with_reducible exact AH.le.refl _ | with_reducible apply AH.le.up | (with_reducible refine AH.le.put hw ?_ ?_; · first | omega | (simp only [up_nx, put_nx, kill_nx]; done) | (simp only [up_nx, put_nx, kill_nx]; omega)) | (with_reducible refine AH.le.kill hw ?_ ?_; · first | omega | (simp only [up_nx, put_nx, kill_nx]; done) | (simp only [up_nx, put_nx, kill_nx]; omega)))), (by first | omega | (simp only [up_nx, put_nx, kill_nx]; done) | (simp only [up_nx, put_nx, kill_nx]; omega)), Nat.zero_le _, by simp⟩ ?_
  rintro i H1 hn1 ⟨hle, hn, hi, hall⟩ k hk
  have hlen : ((p.length : Int) + (l.length : Int)) = (((p ++ l).length : Nat) : Int) := by simp
  have hb2 : (p ++ l).length < 9223372036854775807 := by rw [List.length_append]; omega
  rw [hlen]
  have hokp : okP p l = okL (p ++ l) := by unfold okP; rw [if_neg (by omega)]
  rw [hokp]
  generalize p ++ l = xs at *
  by_cases hi2 : i < xs.length
  · have hg := List.getElem?_eq_getElem hi2
    simp [iv, hi2, Clm.cs]
    refine ca_pure (by kernel_rfl) (c_Check xs[i] _) ?_
    by_cases hok : xs[i].ok
    · simp [hok, iv]
      rw [ivn (by omega)]
      exact hk (i + 1) _ _ _ (.refl (by simp only [up_nx, put_nx] at hn1 ⊢; omega)) ⟨(by repeat (first | with_reducible assumption | with_reducible exact AH.le.refl _ | with_reducible apply AH.le.up | (with_reducible refine AH.le.put hw ?_ ?_; · first | omega | (simp only [up_nx, put_nx, kill_nx]; done) | (simp only [up_nx, put_nx, kill_nx]; omega)) | (with_reducible refine AH.le.kill hw ?_ ?_; · first | omega | (simp only [up_nx, put_nx, kill_nx]; done) | (simp only [up_nx, put_nx, kill_nx]; omega)))), (by first | omega | (simp only [up_nx, put_nx, kill_nx]; done) | (simp only [up_nx, put_nx, kill_nx]; omega)), hi2, all_take hall hg (by simp [hok])⟩ (by omega)
    · simp [hok, iv]
      refine rt_one hw (by repeat (first | with_reducible assumption | with_reducible exact AH.le.refl _ | with_reducible apply AH.le.up | (with_reducible refine AH.le.put hw ?_ ?_; · first | omega | (simp only [up_nx, put_nx, kill_nx]; done) | (simp only [up_nx, put_nx, kill_nx]; omega)) | (with_reducible refine AH.le.kill hw ?_ ?_; · first | omega | (simp only [up_nx, put_nx, kill_nx]; done) | (simp only [up_nx, put_nx, kill_nx]; omega)))) (by repeat (first | exact Cl.p _ | exact Cl.dsl _ _ | exact Cl.any | refine Cl.tup ?_ | refine Cl.agg ?_ | exact Clo.nil | refine Clo.cons ?_ ?_)) ⟨rfl, ?_⟩
      unfold okL
      rw [if_neg]
      simp
      exact ⟨_, List.getElem_mem hi2, hok⟩
  · simp [iv, hi2]
    refine rt_one hw (by repeat (first | with_reducible assumption | with_reducible exact AH.le.refl _ | with_reducible apply AH.le.up | (with_reducible refine AH.le.put hw ?_ ?_; · first | omega | (simp only [up_nx, put_nx, kill_nx]; done) | (simp only [up_nx, put_nx, kill_nx]; omega)) | (with_reducible refine AH.le.kill hw ?_ ?_; · first | omega | (simp only [up_nx, put_nx, kill_nx]; done) | (simp only [up_nx, put_nx, kill_nx]; omega)))) (by repeat (first | exact Cl.p _ | exact Cl.dsl _ _ | exact Cl.any | refine Cl.tup ?_ | refine Cl.agg ?_ | exact Clo.nil | refine Clo.cons ?_ ?_)) ⟨rfl, ?_⟩
    unfold okL
    rw [List.take_of_length_le (by omega)] at hall
    rw [if_pos (by simpa using hall)])
end Go.Proofs.Ytcmnjoepadjioaa

/- The arguer: its lines, and where each claim stands. -/
namespace Go.Proofs.Ytcmnjoepadjioaa
open Go.RowKit Go.Maps
def cv (c : Clm) : Value := .agg #[.bool c.so, .int .i64 c.a, .int .i64 c.b]
theorem cv_inj {c d : Clm} (h : cv c = cv d) : c = d := by
  unfold cv at h
  simp only [Value.agg.injEq, Array.mk.injEq, List.cons.injEq, Value.bool.injEq, Value.int.injEq, true_and, and_true] at h
  exact clm_ext h.1 h.2.1 h.2.2
theorem laid : laidOutB Try.prog = true := by kernel_rfl
theorem lawClm : Keyed Try.prog 24 := Keyed.of_law (deep_law_laid laid (m := 3) (by omega) (of_decide_eq_true (by kernel_rfl)) (by kernel_rfl) (by kernel_rfl))
theorem fuel3 : ∃ d, Try.prog.types.size + 1 = d + 3 := ⟨Try.prog.types.size - 2, by
  have : 3 ≤ Try.prog.types.size := of_decide_eq_true (by kernel_rfl)
  omega⟩
theorem cellsInt : Try.prog.cellsOf 3 = 1 := by kernel_rfl
theorem cellsBool : Try.prog.cellsOf 4 = 1 := by kernel_rfl
theorem cellsClm : Try.prog.cellsOf 24 = 3 := by kernel_rfl
theorem typeClm : Try.prog.keyType 24 = true := by kernel_rfl
theorem keyClm {c : Clm} (h : c.ok) : (keyOf Try.prog 24 (cv c)).isSome = true := by
  obtain ⟨d, hd⟩ := fuel3
  have h1 : I64 c.a := by have := h.1; unfold litOk at this; unfold I64; omega
  have h2 : I64 c.b := by have := h.2; unfold litOk at this; unfold I64; omega
  have w1 := h1.wf; have w2 := h2.wf
  unfold keyOf cv
  rw [Try.underlying24, hd]
  simp [typeClm, Value.formed, Value.cells, Program.keyLits, Try.underlying24, Try.underlying3, Try.underlying4, cellsClm, cellsInt, cellsBool, w1, w2]

/-- where a claim stands among the lines -/
def Lin.cs (x : Lin) : List AV := [iv x.rule, .p (.bool x.c.so), iv x.c.a, iv x.c.b, .dsl 1 (x.src.map fun i => [iv i])]
theorem dt_lin (l : List Lin) : DtR (l.map Lin.cs) := by
  intro e he a ha
  obtain ⟨c, _, rfl⟩ := List.mem_map.1 he
  simp only [Lin.cs, List.mem_cons, List.not_mem_nil, or_false] at ha
  rcases ha with rfl | rfl | rfl | rfl | rfl <;> first | exact Dt.p _ | exact Dt.dsl _ _
def idxC (l : List Lin) (c : Clm) : Option Nat := l.findIdx? (fun x => decide (x.c = c))
def putL (l : List Lin) (x : Lin) : List Lin := if (idxC l x.c).isSome then l else l ++ [x]
def AH.nil : AH := ⟨0, []⟩
theorem nil_wf : WF AH.nil := fun id o h => by cases h
theorem nil_le (H : AH) : AH.nil.le H := fun id o h => by cases h
/-- all but the arguer's own parts is as it was -/
def Fr (a m : Nat) (H : AH) (v : AV) (H' : AH) (v' : AV) : Prop := H.nx ≤ H'.nx ∧ ∀ j, j < H.nx → j ≠ a → j ≠ m → (∀ n, v ≠ .osl j 5 0 n) → H'.get j = H.get j ∧ ∀ n, v' ≠ .osl j 5 0 n
theorem Fr.of {a m : Nat} {H H' : AH} {v : AV} (hn : H.nx ≤ H'.nx) (hk : ∀ j, j < H.nx → H'.get j = H.get j) : Fr a m H v H' v := ⟨hn, fun j hj _ _ h => ⟨hk j hj, h⟩⟩
theorem Fr.trans {a m : Nat} {H H1 H2 : AH} {v v1 v2 : AV} (h : Fr a m H v H1 v1) (k : Fr a m H1 v1 H2 v2) : Fr a m H v H2 v2 :=
  ⟨Nat.le_trans h.1 k.1, fun j hj h1 h2 h3 => by
    obtain ⟨q1, q2⟩ := h.2 j hj h1 h2 h3
    obtain ⟨q3, q4⟩ := k.2 j (Nat.lt_of_lt_of_le hj h.1) h1 h2 q2
    exact ⟨q3.trans q1, q4⟩⟩
structure ArgH (H : AH) (a m : Nat) (v : AV) (l : List Lin) : Prop where
  la : a < H.nx
  lm : m < H.nx
  box : H.get a = some (.box 52 [v, .mp m])
  row : Grows 36 5 AH.nil H v (l.map Lin.cs)
  map : ∃ f, H.get m = some (.map 24 l.length f) ∧ ∀ c : Clm, f (cv c) = (idxC l c).map fun i : Nat => iv (i : Int)
theorem idxC_snoc (l : List Lin) (x : Lin) (c : Clm) : idxC (l ++ [x]) c = (idxC l c).or (if x.c = c then some l.length else none) := by
  unfold idxC
  rw [List.findIdx?_append]
  congr 1
  by_cases h : x.c = c <;> simp [h, List.findIdx?_cons]
theorem tied_put {f : Value → Option AV} {l : List Lin} (h : ∀ c : Clm, f (cv c) = (idxC l c).map fun i : Nat => iv (i : Int)) {x : Lin} (hx : idxC l x.c = none) (c : Clm) : putA f (cv x.c) (iv l.length) (cv c) = (idxC (l ++ [x]) c).map fun i : Nat => iv (i : Int) := by
  rw [idxC_snoc]
  by_cases hc : x.c = c
  · rw [← hc, putA_same, hx, if_pos rfl]; rfl
  · rw [putA_other _ _ (fun e => hc (cv_inj e).symm), h, if_neg hc, Option.or_none]
theorem ArgH.keep {H H' : AH} {a m : Nat} {v : AV} {l : List Lin} (h : ArgH H a m v l) (hn : H.nx ≤ H'.nx) (hk : ∀ j, j < H.nx → H'.get j = H.get j) : ArgH H' a m v l := by
  obtain ⟨f, hm, hf⟩ := h.map
  exact ⟨Nat.lt_of_lt_of_le h.la hn, Nat.lt_of_lt_of_le h.lm hn, by rw [hk a h.la]; exact h.box, h.row.same hn fun j hj _ => hk j hj, f, by rw [hk m h.lm]; exact hm, hf⟩
theorem c_put {H : AH} {a m : Nat} {v : AV} {l : List Lin} (h : ArgH H a m v l) (rule : Int) (src : List Int) (c : Clm) (hc : c.ok) (hb : l.length < 1000000) :
    Tri Try.prog 26 [.ptr a 0, iv rule, c.av, .dsl 1 (src.map fun i => [iv i])] H (fun r H' => r = .tup [] ∧ ∃ v', ArgH H' a m v' (putL l ⟨rule, c, src⟩) ∧ Fr a m H v H' v') := tri_wf fun hw => tri_arguer_put (by
  obtain ⟨f, hm, hf⟩ := h.map
  have ha := h.la
  have hml := h.lm
  have hbx := h.box
  unfold S_arguer_put Clm.av Clm.cs
  have hne : a ≠ m := fun e => by rw [e, hm] at hbx; cases hbx
  have hfits : (keyOf Try.prog 24 (cv c)).isSome = true := keyClm hc
  unfold cv at hfits
  have hfc := hf c
  unfold cv at hfc
  simp (disch := first | omega | simp) [put_get_ne, hbx, hm, lawClm, hfits]
  cases hi : idxC l c with
  | some i =>
    rw [hfc, hi]
    simp
    refine rt_refl ⟨rfl, v, ?_, .of (by first | omega | (simp only [up_nx, put_nx, kill_nx]; done) | (simp only [up_nx, put_nx, kill_nx]; omega)) fun j hj => put_get_ne _ _ _ (by omega)⟩ (by first | omega | (simp only [up_nx, put_nx, kill_nx]; done) | (simp only [up_nx, put_nx, kill_nx]; omega))
    rw [putL, if_pos (by simp [hi])]
    exact h.keep (by first | omega | (simp only [up_nx, put_nx, kill_nx]; done) | (simp only [up_nx, put_nx, kill_nx]; omega)) fun j hj => put_get_ne _ _ _ (by omega)
  | none =>
    rw [hfc, hi]
    have hmx : maxLen = 9223372036854775807 := by decide
    have hrow := h.row
    simp (disch := first | omega | simp) [iv, put_get_ne, hbx, hm, lawClm, hfits, h.row.len]
    refine ⟨by omega, ?_⟩
    have hva := hrow.not (j := a) (fun xs h => by rw [hbx] at h; cases h)
    have hvm := hrow.not (j := m) (fun xs h => by rw [hm] at h; cases h)
    have hrk : ∀ H', H.nx ≤ H'.nx → (∀ j, j < H.nx → j ≠ m → H'.get j = H.get j) → Grows 36 5 AH.nil H' v (l.map Lin.cs) := fun H' q1 q2 => hrow.same q1 fun j hj ⟨n, hn⟩ => q2 j hj fun e => by subst e; exact hvm n hn
    refine Grows.app (t := 36) nil_wf (hrk _ (by first | omega | (simp only [up_nx, put_nx, kill_nx]; done) | (simp only [up_nx, put_nx, kill_nx]; omega)) ?_) (nil_le _) (Nat.zero_le _) (by first | omega | (simp only [up_nx, put_nx, kill_nx]; done) | (simp only [up_nx, put_nx, kill_nx]; omega)) (ys := [Lin.cs ⟨rule, c, src⟩]) ?_ (dt_lin [⟨rule, c, src⟩]) ?_ ?_ fun v' H2 g2 l2 n2 k2 hfr => ?_
    · intro j hj hjm; simp (disch := first | omega | simp) [put_get_ne]
    · simp [Lin.cs, iv]
    · simp; omega
    · simp; omega
    obtain ⟨n', hn'⟩ := hfr
    have hfj : ∀ j, j < H.nx → ∀ n, v' ≠ .osl j 5 0 n := fun j hj n e => by rw [hn'] at e; injection e with e; omega
    have hold : ∀ j, j < H.nx → j ≠ m → (∀ n, v ≠ .osl j 5 0 n) → H2.get j = H.get j := fun j hj hjm hv => by
      rw [k2 j (by omega) hv]; simp (disch := first | omega | simp) [put_get_ne]
    have hma : H2.get m = some (.map 24 (l.length + 1) (putA f (cv c) (iv l.length))) := by
      rw [k2 m (by omega) hvm]; simp (disch := first | omega | simp) [put_get_ne]; rfl
    have hba : H2.get a = some (.box 52 [v, .mp m]) := by rw [hold a ha hne hva]; exact hbx
    have hn2 : H.nx ≤ H2.nx := by rw [n2]; first | omega | (simp only [up_nx, put_nx, kill_nx]; done) | (simp only [up_nx, put_nx, kill_nx]; omega)
    have hpart : AV.part v' = true := by rw [hn']; rfl
    have hcell : AV.cells v' = [v'] := by rw [hn']; rfl
    simp [hba, hpart, hcell]
    refine rt_refl ⟨rfl, v', ⟨(by first | omega | (simp only [up_nx, put_nx, kill_nx]; done) | (simp only [up_nx, put_nx, kill_nx]; omega)), (by first | omega | (simp only [up_nx, put_nx, kill_nx]; done) | (simp only [up_nx, put_nx, kill_nx]; omega)), put_get _ _, ?_, putA f (cv c) (iv l.length), ?_, ?_⟩, (by first | omega | (simp only [up_nx, put_nx, kill_nx]; done) | (simp only [up_nx, put_nx, kill_nx]; omega)), fun j hj h1 h2 h3 => ⟨?_, hfj j hj⟩⟩ (by first | omega | (simp only [up_nx, put_nx, kill_nx]; done) | (simp only [up_nx, put_nx, kill_nx]; omega))
    · rw [putL, if_neg (by simp [hi]), List.map_append]
      exact g2.same (Nat.le_refl _) fun j hj ⟨n, hn⟩ => put_get_ne _ _ _ fun e => hfj j (by omega) n hn
    · rw [put_get_ne _ _ _ (Ne.symm hne), hma, putL, if_neg (by simp [hi])]; simp
    · intro c2; rw [putL, if_neg (by simp [hi])]; exact tied_put hf (x := ⟨rule, c, src⟩) hi c2
    · rw [put_get_ne _ _ _ h1]; exact hold j hj h2 h3)
end Go.Proofs.Ytcmnjoepadjioaa
