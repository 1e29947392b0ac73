/- Texts that the proof rests on, part 16: what each holds stands at its head. -/
import Derived.Test.YtkocpdekknfmaaaKs15

/- Abstract walks of functions, written by a program (wip/aw/aw.py): each equation is checked by the kernel. -/
namespace Go.Proofs.Ytkocpdekknfmaaa
open Go.RowKit

/-! wordhoard/term.Normal -/
def ac_term_Normal : AC := (.seq (.reg 0) (.seq (.seq (.reg 1) (.seq (.reg 2) (.cond (.tmp 14) (.seq (.reg 3) .ret) .skip))) (.seq (.reg 4) (.block 0 (.loop [6] [(3, 5), (7, 11), (17, 43)] (.seq (.block 1 (.seq (.reg 5) (.seq (.seq (.reg 6) (.cond (.tmp 25) (.seq (.reg 7) .ret) .skip)) (.seq (.seq (.reg 8) (.cond (.tmp 30) (.seq (.reg 9) .ret) .skip)) (.seq (.reg 10) (.seq (.seq (.reg 11) (.cond (.tmp 39) (.seq (.reg 12) .ret) .skip)) (.reg 13))))))) (.reg 14)))))))
def S_term_Normal_C1 (Q : AV → AH → Prop) (H : AH) (v1 : AV) (v2 : AV) (k : List AV → AH → Prop) (vs : List AV) (v22 : AV) : AH → Prop :=
  Pu Try.prog (.bin .eql 3) [(vs.getD 0 .any), (.p (.int .i64 200))] fun v30 =>
  CdA v30
    (
    Rg 4 fun b_24 =>
    Pu Try.prog (.bld [.p (.int .i64 0), .p (.int .i64 0), .p (.int .i64 0), .p (.int .i64 0), .p (.slice none 0 0), .p (.slice none 0 0)] []) [] fun v31 =>
    WrS Try.prog (b_24 + 1) (.st 6) [v2, v31] fun _ =>
    RdS Try.prog (.ld 6 true) [v2] fun r2_27 =>
    Rt Try.prog H.nx (.tup [r2_27, (.p (.int .i64 0)), (.p (.int .i64 7))]) Q
    ) (
    Rg 9 fun b_28 =>
    RdS Try.prog (.ld 6 true) [v1] fun v33 =>
    Ca Try.prog (.fn (.func 26) [] []) [v33, v22, (.p (.int .i64 0))] fun v35 =>
    Pu Try.prog (.ext 0) [v35] fun v36 =>
    Pu Try.prog (.ext 1) [v35] fun v37 =>
    Al (b_28 + 6) (.nw 27 [.p (.int .i64 0), .p (.int .i64 0), .p (.int .i64 0), .p (.int .i64 0), .p (.slice none 0 0), .p (.slice none 0 0)]) [] fun v9 =>
    WrS Try.prog (b_28 + 7) (.st 6) [v9, v36] fun _ =>
    Pu Try.prog (.bin .neq 28) [v37, (.p (.int .i64 0))] fun v39 =>
    CdA v39
      (
      Rg 5 fun b_36 =>
      Pu Try.prog (.bld [.p (.int .i64 0), .p (.int .i64 0), .p (.int .i64 0), .p (.int .i64 0), .p (.slice none 0 0), .p (.slice none 0 0)] []) [] fun v40 =>
      WrS Try.prog (b_36 + 2) (.st 6) [v2, v40] fun _ =>
      RdS Try.prog (.ld 6 true) [v2] fun r2_39 =>
      Rt Try.prog H.nx (.tup [r2_39, (.p (.int .i64 0)), v37]) Q
      ) (
      Rg 2 fun b_40 =>
      RdS Try.prog (.ld 6 true) [v9] fun v42 =>
      WrS Try.prog (b_40 + 1) (.st 6) [v1, v42] fun _ =>
      Pu Try.prog (.bin .add 3) [(vs.getD 0 .any), (.p (.int .i64 1))] fun v18 =>
      k [v18]
      )
    )
def S_term_Normal_L2 (Q : AV → AH → Prop) (H : AH) (v1 : AV) (v2 : AV) (vs : List AV) (k : List AV → AH → Prop) : AH → Prop :=
  RdS Try.prog (.ld 6 true) [v1] fun v20 =>
  Ca Try.prog (.fn (.func 24) [] []) [v20, (.p (.slice none 0 0))] fun v21 =>
  Pu Try.prog (.ext 0) [v21] fun v22 =>
  Pu Try.prog (.ext 1) [v21] fun v23 =>
  Pu Try.prog (.un .not) [v23] fun v25 =>
  CdA v25
    (
    Rg 6 fun b_18 =>
    RdS Try.prog (.ld 6 true) [v1] fun v26 =>
    Ca Try.prog (.fn (.func 25) [] []) [v26] fun v27 =>
    WrS Try.prog (b_18 + 3) (.st 6) [v2, v27] fun _ =>
    RdS Try.prog (.ld 6 true) [v2] fun r2_22 =>
    Rt Try.prog H.nx (.tup [r2_22, (vs.getD 0 .any), (.p (.int .i64 0))]) Q
    ) (S_term_Normal_C1 Q H v1 v2 k vs v22)
def S_term_Normal (a0 : AV) (Q : AV → AH → Prop) (H : AH) : Prop := (
    Rg 4 fun b =>
    Al (b + 0) (.bx 27) [a0] fun v1 =>
    Al (b + 1) (.nw 27 [.p (.int .i64 0), .p (.int .i64 0), .p (.int .i64 0), .p (.int .i64 0), .p (.slice none 0 0), .p (.slice none 0 0)]) [] fun v2 =>
    RdS Try.prog (.ld 6 true) [v1] fun v11 =>
    Ca Try.prog (.fn (.func 19) [] []) [v11] fun v12 =>
    Pu Try.prog (.bin .neq 28) [v12, (.p (.int .i64 0))] fun v14 =>
    CdA v14
      (
      Rg 5 fun b_7 =>
      Pu Try.prog (.bld [.p (.int .i64 0), .p (.int .i64 0), .p (.int .i64 0), .p (.int .i64 0), .p (.slice none 0 0), .p (.slice none 0 0)] []) [] fun v15 =>
      WrS Try.prog (b_7 + 2) (.st 6) [v2, v15] fun _ =>
      RdS Try.prog (.ld 6 true) [v2] fun r2 =>
      Rt Try.prog H.nx (.tup [r2, (.p (.int .i64 0)), v12]) Q
      ) (
      LoopA Try.prog 1 (S_term_Normal_L2 Q H v1 v2) [(.p (.int .i64 0))]
      )
    ) H
theorem eq_term_Normal (a0 : AV) (Q : AV → AH → Prop) (H : AH) : FnA Try.prog 43 (regsF Try.f7) ac_term_Normal [.ce 2 27, .tm 3, .tm 4] [a0] H Q = S_term_Normal a0 Q H := by kernel_rfl
theorem tri_term_Normal {a0 : AV} {H : AH} {Q : AV → AH → Prop} (h : S_term_Normal a0 Q H) : Tri Try.prog 7 [a0] H Q :=
  tri_of (Ms := [#[], #[], #[], #[], #[], #[], #[], #[], #[], #[], #[], #[], #[], #[], #[]]) mixed Try.func7 rfl (by kernel_rfl) (by kernel_rfl) rfl (of_decide_eq_true rfl : 1 ≤ 43) ((eq_term_Normal a0 Q H).symm ▸ h : FnA Try.prog 43 (regsF Try.f7) ac_term_Normal [.ce 2 27, .tm 3, .tm 4] [a0] H Q)

/-! wordhoard/term.Spots -/
def ac_term_Spots : AC := (.seq (.reg 0) (.seq (.seq (.reg 1) (.seq (.reg 2) (.cond (.tmp 10) (.seq (.reg 3) .ret) .skip))) (.seq (.reg 4) (.seq (.reg 5) (.seq (.reg 6) (.seq (.reg 7) (.seq (.reg 8) .ret)))))))
def S_term_Spots (a0 : AV) (Q : AV → AH → Prop) (H : AH) : Prop := (
    Rg 3 fun b =>
    Al (b + 0) (.bx 27) [a0] fun v1 =>
    RdS Try.prog (.ld 6 true) [v1] fun v7 =>
    Ca Try.prog (.fn (.func 19) [] []) [v7] fun v8 =>
    Pu Try.prog (.bin .neq 28) [v8, (.p (.int .i64 0))] fun v10 =>
    CdA v10
      (
      Rt Try.prog H.nx (.tup [(.p (.slice none 0 0)), v8]) Q
      ) (
      Rg 1 fun b_6 =>
      Al (b_6 + 0) (.nw 36 [.p (.slice none 0 0)]) [] fun v5 =>
      Rg 1 fun b_8 =>
      Al (b_8 + 0) (.nw 57 [.p (.nilFunc)]) [] fun v6 =>
      Rg 2 fun b_10 =>
      Pu Try.prog (.mkfn (.func 30) 0) [v5, v6] fun v12 =>
      WrS Try.prog (b_10 + 1) (.st 1) [v6, v12] fun _ =>
      RdS Try.prog (.ld 1 false) [v6] fun v13 =>
      RdS Try.prog (.ld 6 true) [v1] fun v14 =>
      Ca Try.prog v13 [v14, (.p (.slice none 0 0))] fun _ =>
      RdS Try.prog (.ld 1 false) [v5] fun v16 =>
      Rt Try.prog H.nx (.tup [v16, (.p (.int .i64 0))]) Q
      )
    ) H
theorem eq_term_Spots (a0 : AV) (Q : AV → AH → Prop) (H : AH) : FnA Try.prog 17 (regsF Try.f12) ac_term_Spots [.tm 2, .tm 3] [a0] H Q = S_term_Spots a0 Q H := by kernel_rfl
theorem tri_term_Spots {a0 : AV} {H : AH} {Q : AV → AH → Prop} (h : S_term_Spots a0 Q H) : Tri Try.prog 12 [a0] H Q :=
  tri_of (Ms := [#[], #[], #[], #[], #[], #[], #[], #[], #[]]) mixed Try.func12 rfl (by kernel_rfl) (by kernel_rfl) rfl (of_decide_eq_true rfl : 1 ≤ 17) ((eq_term_Spots a0 Q H).symm ▸ h : FnA Try.prog 17 (regsF Try.f12) ac_term_Spots [.tm 2, .tm 3] [a0] H Q)

/-! wordhoard/term.Step -/
def ac_term_Step : AC := (.seq (.reg 0) (.seq (.seq (.reg 1) (.seq (.reg 2) (.cond (.tmp 12) (.seq (.reg 3) .ret) .skip))) (.seq (.reg 4) (.seq (.seq (.reg 5) (.cond (.tmp 22) (.seq (.reg 6) .ret) .skip)) (.seq (.reg 7) .ret)))))
def S_term_Step (a0 a1 : AV) (Q : AV → AH → Prop) (H : AH) : Prop := (
    Rg 3 fun b =>
    Al (b + 0) (.bx 27) [a0] fun v2 =>
    Al (b + 1) (.nw 27 [.p (.int .i64 0), .p (.int .i64 0), .p (.int .i64 0), .p (.int .i64 0), .p (.slice none 0 0), .p (.slice none 0 0)]) [] fun v4 =>
    RdS Try.prog (.ld 6 true) [v2] fun v9 =>
    Ca Try.prog (.fn (.func 19) [] []) [v9] fun v10 =>
    Pu Try.prog (.bin .neq 28) [v10, (.p (.int .i64 0))] fun v12 =>
    CdA v12
      (
      Rg 4 fun b_7 =>
      Pu Try.prog (.bld [.p (.int .i64 0), .p (.int .i64 0), .p (.int .i64 0), .p (.int .i64 0), .p (.slice none 0 0), .p (.slice none 0 0)] []) [] fun v13 =>
      WrS Try.prog (b_7 + 2) (.st 6) [v4, v13] fun _ =>
      RdS Try.prog (.ld 6 true) [v4] fun r4 =>
      Rt Try.prog H.nx (.tup [r4, v10]) Q
      ) (
      Rg 9 fun b_11 =>
      RdS Try.prog (.ld 6 true) [v2] fun v16 =>
      Ca Try.prog (.fn (.func 26) [] []) [v16, a1, (.p (.int .i64 0))] fun v18 =>
      Pu Try.prog (.ext 0) [v18] fun v19 =>
      Pu Try.prog (.ext 1) [v18] fun v20 =>
      Al (b_11 + 6) (.nw 27 [.p (.int .i64 0), .p (.int .i64 0), .p (.int .i64 0), .p (.int .i64 0), .p (.slice none 0 0), .p (.slice none 0 0)]) [] fun v7 =>
      WrS Try.prog (b_11 + 7) (.st 6) [v7, v19] fun _ =>
      Pu Try.prog (.bin .neq 28) [v20, (.p (.int .i64 0))] fun v22 =>
      CdA v22
        (
        Rg 4 fun b_19 =>
        Pu Try.prog (.bld [.p (.int .i64 0), .p (.int .i64 0), .p (.int .i64 0), .p (.int .i64 0), .p (.slice none 0 0), .p (.slice none 0 0)] []) [] fun v23 =>
        WrS Try.prog (b_19 + 2) (.st 6) [v4, v23] fun _ =>
        RdS Try.prog (.ld 6 true) [v4] fun r4_22 =>
        Rt Try.prog H.nx (.tup [r4_22, v20]) Q
        ) (
        Rg 4 fun b_23 =>
        RdS Try.prog (.ld 6 true) [v7] fun v25 =>
        Ca Try.prog (.fn (.func 25) [] []) [v25] fun v26 =>
        WrS Try.prog (b_23 + 2) (.st 6) [v4, v26] fun _ =>
        RdS Try.prog (.ld 6 true) [v4] fun r4_27 =>
        Rt Try.prog H.nx (.tup [r4_27, (.p (.int .i64 0))]) Q
        )
      )
    ) H
theorem eq_term_Step (a0 a1 : AV) (Q : AV → AH → Prop) (H : AH) : FnA Try.prog 27 (regsF Try.f13) ac_term_Step [.ce 4 27, .tm 5] [a0, a1] H Q = S_term_Step a0 a1 Q H := by kernel_rfl
theorem tri_term_Step {a0 a1 : AV} {H : AH} {Q : AV → AH → Prop} (h : S_term_Step a0 a1 Q H) : Tri Try.prog 13 [a0, a1] H Q :=
  tri_of (Ms := [#[], #[], #[], #[], #[], #[], #[], #[]]) mixed Try.func13 rfl (by kernel_rfl) (by kernel_rfl) rfl (of_decide_eq_true rfl : 2 ≤ 27) ((eq_term_Step a0 a1 Q H).symm ▸ h : FnA Try.prog 27 (regsF Try.f13) ac_term_Step [.ce 4 27, .tm 5] [a0, a1] H Q)

/-! wordhoard/term.first -/
def ac_term_first : AC := (.seq (.reg 0) (.seq (.seq (.reg 1) (.cond (.tmp 11) (.seq (.reg 2) .ret) .skip)) (.seq (.seq (.reg 3) (.block 0 (.loop [16] [(4, 10), (17, 34)] (.seq (.reg 4) (.seq (.cond (.tmp 17) .skip (.exit 0)) (.seq (.block 1 (.seq (.reg 5) (.seq (.reg 6) (.seq (.reg 7) (.cond (.tmp 31) (.seq (.reg 8) .ret) .skip))))) (.reg 9))))))) (.seq (.reg 10) .ret))))
def S_term_first_L1 (a1 : AV) (Q : AV → AH → Prop) (H : AH) (v14 : AV) (v15 : AV) (vs : List AV) (k : List AV → AH → Prop) : AH → Prop :=
  Pu Try.prog (.bin .lss 3) [(vs.getD 0 .any), v15] fun v17 =>
  CdA v17
    (
    Rg 6 fun b_11 =>
    Pu Try.prog (.idx 6) [v14, (vs.getD 0 .any)] fun v19 =>
    RdS Try.prog (.ld 6 true) [v19] fun v20 =>
    Al (b_11 + 3) (.nw 27 [.p (.int .i64 0), .p (.int .i64 0), .p (.int .i64 0), .p (.int .i64 0), .p (.slice none 0 0), .p (.slice none 0 0)]) [] fun v7 =>
    WrS Try.prog (b_11 + 5) (.st 6) [v7, v20] fun _ =>
    Rg 12 fun b_16 =>
    Vw fun V =>
    Rd Try.prog V (.ld 6 true) [v7] fun v22 =>
    CaR Try.prog V (b_16 + 2) [] (.fn (.func 32) [] []) [a1] fun v24 =>
    Al (b_16 + 4) (.bs 3 1 1 [.p (.int .i64 0)] [(0, 1)]) [(vs.getD 0 .any)] fun v26 =>
    WrF V (some (b_16 + 2)) (some (b_16 + 4)) (b_16 + 5) (.app 3 1 8) [v24, v26] fun v27 =>
    CaN Try.prog V [(b_16 + 5)] (.fn (.func 24) [] []) [v22, v27] fun v28 =>
    Pu Try.prog (.ext 0) [v28] fun v29 =>
    Pu Try.prog (.ext 1) [v28] fun v30 =>
    CdA v30
      (
      Rt Try.prog H.nx (.tup [v29, (.p (.bool true))]) Q
      ) (
      Pu Try.prog (.bin .add 3) [(vs.getD 0 .any), (.p (.int .i64 1))] fun v33 =>
      k [v33]
      )
    ) (
    Rt Try.prog H.nx (.tup [(.p (.slice none 0 0)), (.p (.bool false))]) Q
    )
def S_term_first (a0 a1 : AV) (Q : AV → AH → Prop) (H : AH) : Prop := (
    Rg 3 fun b =>
    Al (b + 0) (.bx 27) [a0] fun v2 =>
    RdS Try.prog (.ld 6 true) [v2] fun v10 =>
    Ca Try.prog (.fn (.func 31) [] []) [v10] fun v11 =>
    CdA v11
      (
      Rt Try.prog H.nx (.tup [a1, (.p (.bool true))]) Q
      ) (
      Pu Try.prog (.addOff 5) [v2] fun v13 =>
      RdS Try.prog (.ld 1 false) [v13] fun v14 =>
      Pu Try.prog .len [v14] fun v15 =>
      LoopA Try.prog 1 (S_term_first_L1 a1 Q H v14 v15) [(.p (.int .i64 0))]
      )
    ) H
theorem eq_term_first (a0 a1 : AV) (Q : AV → AH → Prop) (H : AH) : FnA Try.prog 34 (regsF Try.f24) ac_term_first [.tm 4, .tm 5] [a0, a1] H Q = S_term_first a0 a1 Q H := by kernel_rfl
theorem tri_term_first {a0 a1 : AV} {H : AH} {Q : AV → AH → Prop} (h : S_term_first a0 a1 Q H) : Tri Try.prog 24 [a0, a1] H Q :=
  tri_of (Ms := [#[], #[], #[], #[], #[], #[], #[0, 0, 2, 0, 8, 30, 63, 127, 255, 255, 511, 2047], #[], #[], #[], #[]]) mixed Try.func24 rfl (by kernel_rfl) (by kernel_rfl) rfl (of_decide_eq_true rfl : 2 ≤ 34) ((eq_term_first a0 a1 Q H).symm ▸ h : FnA Try.prog 34 (regsF Try.f24) ac_term_first [.tm 4, .tm 5] [a0, a1] H Q)

/-! wordhoard/term.copied -/
def ac_term_copied : AC := (.seq (.reg 0) (.seq (.reg 1) .ret))
def S_term_copied (a0 : AV) (Q : AV → AH → Prop) (H : AH) : Prop := (
    Rg 2 fun b =>
    Al (b + 0) (.bx 27) [a0] fun v1 =>
    Al (b + 1) (.nw 27 [.p (.int .i64 0), .p (.int .i64 0), .p (.int .i64 0), .p (.int .i64 0), .p (.slice none 0 0), .p (.slice none 0 0)]) [] fun v2 =>
    Rg 3 fun b_4 =>
    RdS Try.prog (.ld 6 true) [v1] fun v3 =>
    Ca Try.prog (.fn (.func 44) [] []) [v3, (.p (.int .i64 0)), (.p (.int .i64 0))] fun v4 =>
    WrS Try.prog (b_4 + 2) (.st 6) [v2, v4] fun _ =>
    RdS Try.prog (.ld 6 true) [v2] fun r2 =>
    Rt Try.prog H.nx r2 Q
    ) H
theorem eq_term_copied (a0 : AV) (Q : AV → AH → Prop) (H : AH) : FnA Try.prog 5 (regsF Try.f25) ac_term_copied [.ce 2 27] [a0] H Q = S_term_copied a0 Q H := by kernel_rfl
theorem tri_term_copied {a0 : AV} {H : AH} {Q : AV → AH → Prop} (h : S_term_copied a0 Q H) : Tri Try.prog 25 [a0] H Q :=
  tri_of (Ms := [#[], #[]]) mixed Try.func25 rfl (by kernel_rfl) (by kernel_rfl) rfl (of_decide_eq_true rfl : 1 ≤ 5) ((eq_term_copied a0 Q H).symm ▸ h : FnA Try.prog 5 (regsF Try.f25) ac_term_copied [.ce 2 27] [a0] H Q)

/-! wordhoard/term.at -/
def ac_term_at : AC := (.seq (.reg 0) (.seq (.seq (.reg 1) (.cond (.tmp 15) (.seq (.seq (.reg 2) (.cond (.tmp 18) (.seq (.reg 3) .ret) .skip)) (.seq (.reg 4) (.seq (.seq (.reg 5) (.cond (.tmp 27) (.seq (.reg 6) .ret) .skip)) (.seq (.reg 7) .ret)))) .skip)) (.seq (.seq (.reg 8) (.cond (.tmp 42) (.seq (.reg 9) .ret) .skip)) (.seq (.reg 10) (.seq (.reg 11) (.seq (.seq (.reg 12) (.cond (.tmp 66) (.seq (.reg 13) .ret) .skip)) (.seq (.reg 14) (.seq (.reg 15) (.seq (.reg 16) (.seq (.reg 17) .ret))))))))))
def S_term_at_C1 (a2 : AV) (Q : AV → AH → Prop) (H : AH) (v3 : AV) (v6 : AV) : AH → Prop :=
  RdS Try.prog (.ld 6 true) [v3] fun v16 =>
  Ca Try.prog (.fn (.func 31) [] []) [v16] fun v17 =>
  Pu Try.prog (.un .not) [v17] fun v18 =>
  CdA v18
    (
    Rg 3 fun b_9 =>
    RdS Try.prog (.ld 6 true) [v3] fun v19 =>
    WrS Try.prog (b_9 + 1) (.st 6) [v6, v19] fun _ =>
    RdS Try.prog (.ld 6 true) [v6] fun r6 =>
    Rt Try.prog H.nx (.tup [r6, (.p (.int .i64 5))]) Q
    ) (
    Rg 9 fun b_13 =>
    RdS Try.prog (.ld 6 true) [v3] fun v21 =>
    Ca Try.prog (.fn (.func 45) [] []) [v21, a2] fun v23 =>
    Pu Try.prog (.ext 0) [v23] fun v24 =>
    Pu Try.prog (.ext 1) [v23] fun v25 =>
    Al (b_13 + 6) (.nw 27 [.p (.int .i64 0), .p (.int .i64 0), .p (.int .i64 0), .p (.int .i64 0), .p (.slice none 0 0), .p (.slice none 0 0)]) [] fun v8 =>
    WrS Try.prog (b_13 + 7) (.st 6) [v8, v24] fun _ =>
    Pu Try.prog (.un .not) [v25] fun v27 =>
    CdA v27
      (
      Rg 3 fun b_21 =>
      RdS Try.prog (.ld 6 true) [v3] fun v28 =>
      WrS Try.prog (b_21 + 1) (.st 6) [v6, v28] fun _ =>
      RdS Try.prog (.ld 6 true) [v6] fun r6_24 =>
      Rt Try.prog H.nx (.tup [r6_24, (.p (.int .i64 7))]) Q
      ) (
      Rg 3 fun b_25 =>
      RdS Try.prog (.ld 6 true) [v8] fun v29 =>
      WrS Try.prog (b_25 + 1) (.st 6) [v6, v29] fun _ =>
      RdS Try.prog (.ld 6 true) [v6] fun r6_28 =>
      Rt Try.prog H.nx (.tup [r6_28, (.p (.int .i64 0))]) Q
      )
    )
def S_term_at_C2 (a1 : AV) (a2 : AV) (Q : AV → AH → Prop) (H : AH) (v3 : AV) (v6 : AV) : AH → Prop :=
  Rg 9 fun b_59 =>
  Vw fun V_60 =>
  Pu Try.prog (.addOff 5) [v3] fun v44 =>
  Rd Try.prog V_60 (.ld 1 false) [v44] fun v45 =>
  Pu Try.prog (.idx 1) [a1, (.p (.int .i64 0))] fun v47 =>
  Rd Try.prog V_60 (.ld 1 false) [v47] fun v48 =>
  Pu Try.prog (.idx 6) [v45, v48] fun v49 =>
  Rd Try.prog V_60 (.ld 6 true) [v49] fun v50 =>
  Al (b_59 + 7) (.nw 27 [.p (.int .i64 0), .p (.int .i64 0), .p (.int .i64 0), .p (.int .i64 0), .p (.slice none 0 0), .p (.slice none 0 0)]) [] fun v10 =>
  WrF V_60 (some (b_59 + 7)) none (b_59 + 8) (.st 6) [v10, v50] fun _ =>
  Rg 16 fun b_69 =>
  Vw fun V_70 =>
  Rd Try.prog V_70 (.ld 6 true) [v10] fun v52 =>
  Pu Try.prog (.slc 1 true false) [a1, (.p (.int .i64 1))] fun v54 =>
  Rd Try.prog V_70 (.ld 6 true) [v3] fun v56 =>
  CaV Try.prog V_70 (.fn (.func 38) [] []) [v56, (.p (.int .i64 400))] fun v57 =>
  Pu Try.prog (.bin .add 3) [a2, v57] fun v58 =>
  Rd Try.prog V_70 (.ld 6 true) [v10] fun v59 =>
  CaV Try.prog V_70 (.fn (.func 38) [] []) [v59, (.p (.int .i64 400))] fun v60 =>
  Pu Try.prog (.bin .sub 3) [v58, v60] fun v61 =>
  CaV Try.prog V_70 (.fn (.func 26) [] []) [v52, v54, v61] fun v62 =>
  Pu Try.prog (.ext 0) [v62] fun v63 =>
  Pu Try.prog (.ext 1) [v62] fun v64 =>
  Wr Try.prog (b_69 + 14) (.st 6) [v10, v63] fun _ _ =>
  Pu Try.prog (.bin .neq 28) [v64, (.p (.int .i64 0))] fun v66 =>
  CdA v66
    (
    Rg 4 fun b_85 =>
    RdS Try.prog (.ld 6 true) [v3] fun v67 =>
    WrS Try.prog (b_85 + 2) (.st 6) [v6, v67] fun _ =>
    RdS Try.prog (.ld 6 true) [v6] fun r6_88 =>
    Rt Try.prog H.nx (.tup [r6_88, v64]) Q
    ) (
    Pu Try.prog (.addOff 5) [v3] fun v69 =>
    RdS Try.prog (.ld 1 false) [v69] fun v70 =>
    Ca Try.prog (.fn (.func 46) [] []) [v70] fun v71 =>
    Rg 7 fun b_92 =>
    Vw fun V_93 =>
    Pu Try.prog (.idx 1) [a1, (.p (.int .i64 0))] fun v74 =>
    Rd Try.prog V_93 (.ld 1 false) [v74] fun v75 =>
    Rd Try.prog V_93 (.ld 6 true) [v10] fun v76 =>
    Pu Try.prog (.idx 6) [v71, v75] fun v77 =>
    Wr Try.prog (b_92 + 6) (.st 6) [v77, v76] fun _ _ =>
    Rg 3 fun b_100 =>
    Pu Try.prog (.addOff 5) [v3] fun v79 =>
    WrS Try.prog (b_100 + 2) (.st 1) [v79, v71] fun _ =>
    Rg 3 fun b_103 =>
    RdS Try.prog (.ld 6 true) [v3] fun v80 =>
    WrS Try.prog (b_103 + 1) (.st 6) [v6, v80] fun _ =>
    RdS Try.prog (.ld 6 true) [v6] fun r6_106 =>
    Rt Try.prog H.nx (.tup [r6_106, (.p (.int .i64 0))]) Q
    )
def S_term_at_C3 (a1 : AV) (a2 : AV) (Q : AV → AH → Prop) (H : AH) (v3 : AV) (v6 : AV) : AH → Prop :=
  Vw fun V =>
  Pu Try.prog (.idx 1) [a1, (.p (.int .i64 0))] fun v31 =>
  Rd Try.prog V (.ld 1 false) [v31] fun v32 =>
  Pu Try.prog (.bin .lss 3) [v32, (.p (.int .i64 0))] fun v33 =>
  GdV v33 false (fun k => k a1 V) V fun v35 V_35 =>
  GdV v33 false (fun k_37 => Pu Try.prog (.idx 1) [v35, (.p (.int .i64 0))] (fun a => k_37 a V_35)) V_35 fun v36 V_38 =>
  GdV v33 false (fun k_40 => Rd Try.prog V_38 (.ld 1 false) [v36] (fun a => k_40 a V_38)) V_38 fun v37 V_41 =>
  GdV v33 false (fun k_43 => Pu Try.prog (.addOff 5) [v3] (fun a => k_43 a V_41)) V_41 fun v38 V_44 =>
  GdV v33 false (fun k_46 => Rd Try.prog V_44 (.ld 1 false) [v38] (fun a => k_46 a V_44)) V_44 fun v39 V_47 =>
  GdV v33 false (fun k_49 => Pu Try.prog .len [v39] (fun a => k_49 a V_47)) V_47 fun v40 V_50 =>
  GdV v33 false (fun k_52 => Pu Try.prog (.bin .geq 3) [v37, v40] (fun a => k_52 a V_50)) V_50 fun v41 _ =>
  Pu Try.prog .pick [v33, (.p (.bool true)), v41] fun v42 =>
  CdA v42
    (
    Rg 3 fun b_55 =>
    RdS Try.prog (.ld 6 true) [v3] fun v43 =>
    WrS Try.prog (b_55 + 1) (.st 6) [v6, v43] fun _ =>
    RdS Try.prog (.ld 6 true) [v6] fun r6_58 =>
    Rt Try.prog H.nx (.tup [r6_58, (.p (.int .i64 5))]) Q
    ) (S_term_at_C2 a1 a2 Q H v3 v6)
def S_term_at (a0 a1 a2 : AV) (Q : AV → AH → Prop) (H : AH) : Prop := (
    Rg 3 fun b =>
    Al (b + 0) (.bx 27) [a0] fun v3 =>
    Al (b + 1) (.nw 27 [.p (.int .i64 0), .p (.int .i64 0), .p (.int .i64 0), .p (.int .i64 0), .p (.slice none 0 0), .p (.slice none 0 0)]) [] fun v6 =>
    Pu Try.prog .len [a1] fun v14 =>
    Pu Try.prog (.bin .eql 3) [v14, (.p (.int .i64 0))] fun v15 =>
    CdA v15
      (S_term_at_C1 a2 Q H v3 v6) (S_term_at_C3 a1 a2 Q H v3 v6)
    ) H
theorem eq_term_at (a0 a1 a2 : AV) (Q : AV → AH → Prop) (H : AH) : FnA Try.prog 81 (regsF Try.f26) ac_term_at [.ce 6 27, .tm 7] [a0, a1, a2] H Q = S_term_at a0 a1 a2 Q H := by kernel_rfl
theorem tri_term_at {a0 a1 a2 : AV} {H : AH} {Q : AV → AH → Prop} (h : S_term_at a0 a1 a2 Q H) : Tri Try.prog 26 [a0, a1, a2] H Q :=
  tri_of (Ms := [#[], #[], #[], #[], #[], #[], #[], #[], #[0, 1, 3, 7, 15, 31, 63, 127, 31, 287, 799, 2047, 4095], #[], #[0, 1, 0, 4, 12, 31, 63, 0, 255], #[0, 0, 2, 0, 0, 16, 56, 0, 176, 504, 1023, 2047, 4095, 4095, 8191, 32767], #[], #[], #[], #[0, 0, 2, 6, 0, 31, 63], #[], #[]]) mixed Try.func26 rfl (by kernel_rfl) (by kernel_rfl) rfl (of_decide_eq_true rfl : 3 ≤ 81) ((eq_term_at a0 a1 a2 Q H).symm ▸ h : FnA Try.prog 81 (regsF Try.f26) ac_term_at [.ce 6 27, .tm 7] [a0, a1, a2] H Q)

/-! wordhoard/term.shifted -/
def ac_term_shifted : AC := (.seq (.reg 0) (.seq (.seq (.reg 1) (.cond (.tmp 15) (.reg 2) .skip)) (.seq (.reg 3) .ret)))
def S_term_shifted (a0 a1 a2 : AV) (Q : AV → AH → Prop) (H : AH) : Prop := (
    Rg 3 fun b =>
    Al (b + 0) (.bx 27) [a0] fun v3 =>
    Al (b + 1) (.bx 3) [a1] fun v4 =>
    Al (b + 2) (.nw 27 [.p (.int .i64 0), .p (.int .i64 0), .p (.int .i64 0), .p (.int .i64 0), .p (.slice none 0 0), .p (.slice none 0 0)]) [] fun v6 =>
    Pu Try.prog (.addOff 0) [v3] fun v7 =>
    RdS Try.prog (.ld 1 false) [v7] fun v8 =>
    Pu Try.prog (.bin .eql 3) [v8, (.p (.int .i64 1))] fun v9 =>
    Gd v9 true (fun k => Pu Try.prog (.addOff 1) [v3] k) fun v11 =>
    Gd v9 true (fun k_11 => RdS Try.prog (.ld 1 false) [v11] k_11) fun v12 =>
    Gd v9 true (fun k_13 => k_13 a2) fun v13 =>
    Gd v9 true (fun k_15 => Pu Try.prog (.bin .geq 3) [v12, v13] k_15) fun v14 =>
    Pu Try.prog .pick [v9, v14, (.p (.bool false))] fun v15 =>
    CdA v15
      (
      Rg 6 fun b_17 =>
      Pu Try.prog (.addOff 1) [v3] fun v16 =>
      RdS Try.prog (.ld 1 false) [v16] fun v17 =>
      RdS Try.prog (.ld 1 false) [v4] fun v18 =>
      Pu Try.prog (.bin .add 3) [v17, v18] fun v19 =>
      Pu Try.prog (.addOff 1) [v3] fun v20 =>
      WrS Try.prog (b_17 + 5) (.st 1) [v20, v19] fun _ =>
      Rg 5 fun b_24 =>
      RdS Try.prog (.ld 6 true) [v3] fun v21 =>
      Pu Try.prog (.mkfn (.func 55) 0) [v4] fun v23 =>
      Ca Try.prog (.fn (.func 54) [] []) [v21, a2, v23] fun v24 =>
      WrS Try.prog (b_24 + 4) (.st 6) [v6, v24] fun _ =>
      RdS Try.prog (.ld 6 true) [v6] fun r6 =>
      Rt Try.prog H.nx r6 Q
      ) (
      Rg 5 fun b_30 =>
      RdS Try.prog (.ld 6 true) [v3] fun v21_31 =>
      Pu Try.prog (.mkfn (.func 55) 0) [v4] fun v23_32 =>
      Ca Try.prog (.fn (.func 54) [] []) [v21_31, a2, v23_32] fun v24_33 =>
      WrS Try.prog (b_30 + 4) (.st 6) [v6, v24_33] fun _ =>
      RdS Try.prog (.ld 6 true) [v6] fun r6_35 =>
      Rt Try.prog H.nx r6_35 Q
      )
    ) H
theorem eq_term_shifted (a0 a1 a2 : AV) (Q : AV → AH → Prop) (H : AH) : FnA Try.prog 25 (regsF Try.f44) ac_term_shifted [.ce 6 27] [a0, a1, a2] H Q = S_term_shifted a0 a1 a2 Q H := by kernel_rfl
theorem tri_term_shifted {a0 a1 a2 : AV} {H : AH} {Q : AV → AH → Prop} (h : S_term_shifted a0 a1 a2 Q H) : Tri Try.prog 44 [a0, a1, a2] H Q :=
  tri_of (Ms := [#[], #[], #[], #[]]) mixed Try.func44 rfl (by kernel_rfl) (by kernel_rfl) rfl (of_decide_eq_true rfl : 3 ≤ 25) ((eq_term_shifted a0 a1 a2 Q H).symm ▸ h : FnA Try.prog 25 (regsF Try.f44) ac_term_shifted [.ce 6 27] [a0, a1, a2] H Q)

/-! wordhoard/term.step -/
def ac_term_step : AC := (.seq (.reg 0) (.seq (.reg 1) (.seq (.reg 2) (.seq (.seq (.reg 3) (.cond (.tmp 32) (.seq (.reg 4) .ret) .skip)) (.seq (.reg 5) .ret)))))
def S_term_step (a0 a1 : AV) (Q : AV → AH → Prop) (H : AH) : Prop := (
    Rg 3 fun b =>
    Al (b + 0) (.bx 27) [a0] fun v2 =>
    Al (b + 1) (.nw 27 [.p (.int .i64 0), .p (.int .i64 0), .p (.int .i64 0), .p (.int .i64 0), .p (.slice none 0 0), .p (.slice none 0 0)]) [] fun v4 =>
    Rg 15 fun b_4 =>
    Vw fun V =>
    Pu Try.prog (.addOff 5) [v2] fun v9 =>
    Rd Try.prog V (.ld 1 false) [v9] fun v10 =>
    Pu Try.prog (.idx 6) [v10, (.p (.int .i64 0))] fun v11 =>
    Pu Try.prog (.addOff 5) [v11] fun v12 =>
    Rd Try.prog V (.ld 1 false) [v12] fun v13 =>
    Pu Try.prog (.idx 6) [v13, (.p (.int .i64 0))] fun v14 =>
    Rd Try.prog V (.ld 6 true) [v14] fun v15 =>
    Pu Try.prog (.addOff 5) [v2] fun v16 =>
    Rd Try.prog V (.ld 1 false) [v16] fun v17 =>
    Pu Try.prog (.idx 6) [v17, (.p (.int .i64 1))] fun v18 =>
    Rd Try.prog V (.ld 6 true) [v18] fun v19 =>
    Al (b_4 + 11) (.nw 27 [.p (.int .i64 0), .p (.int .i64 0), .p (.int .i64 0), .p (.int .i64 0), .p (.slice none 0 0), .p (.slice none 0 0)]) [] fun v6 =>
    Al (b_4 + 12) (.nw 27 [.p (.int .i64 0), .p (.int .i64 0), .p (.int .i64 0), .p (.int .i64 0), .p (.slice none 0 0), .p (.slice none 0 0)]) [] fun v7 =>
    WrF V (some (b_4 + 11)) none (b_4 + 13) (.st 6) [v6, v15] fun _ =>
    WrF V (some (b_4 + 12)) none (b_4 + 14) (.st 6) [v7, v19] fun _ =>
    RdS Try.prog (.ld 6 true) [v7] fun v20 =>
    Ca Try.prog (.fn (.func 38) [] []) [v20, (.p (.int .i64 400))] fun v21 =>
    Vw fun V_23 =>
    Rd Try.prog V_23 (.ld 6 true) [v6] fun v23 =>
    CaV Try.prog V_23 (.fn (.func 38) [] []) [v23, (.p (.int .i64 400))] fun v24 =>
    Pu Try.prog (.bin .add 3) [a1, v24] fun v25 =>
    Rd Try.prog V_23 (.ld 6 true) [v6] fun v26 =>
    CaV Try.prog V_23 (.fn (.func 56) [] []) [v26, (.p (.int .i64 0))] fun v27 =>
    Pu Try.prog (.bin .sub 3) [v21, (.p (.int .i64 1))] fun v29 =>
    Pu Try.prog (.bin .mul 3) [v27, v29] fun v30 =>
    Pu Try.prog (.bin .add 3) [v25, v30] fun v31 =>
    Pu Try.prog (.bin .gtr 3) [v31, (.p (.int .i64 400))] fun v32 =>
    CdA v32
      (
      Rg 3 fun b_33 =>
      RdS Try.prog (.ld 6 true) [v2] fun v33 =>
      WrS Try.prog (b_33 + 1) (.st 6) [v4, v33] fun _ =>
      RdS Try.prog (.ld 6 true) [v4] fun r4 =>
      Rt Try.prog H.nx (.tup [r4, (.p (.bool false))]) Q
      ) (
      Rg 5 fun b_37 =>
      RdS Try.prog (.ld 6 true) [v6] fun v34 =>
      RdS Try.prog (.ld 6 true) [v7] fun v35 =>
      Ca Try.prog (.fn (.func 57) [] []) [v34, v35, (.p (.int .i64 0))] fun v36 =>
      WrS Try.prog (b_37 + 3) (.st 6) [v4, v36] fun _ =>
      RdS Try.prog (.ld 6 true) [v4] fun r4_42 =>
      Rt Try.prog H.nx (.tup [r4_42, (.p (.bool true))]) Q
      )
    ) H
theorem eq_term_step (a0 a1 : AV) (Q : AV → AH → Prop) (H : AH) : FnA Try.prog 37 (regsF Try.f45) ac_term_step [.ce 4 27, .tm 5] [a0, a1] H Q = S_term_step a0 a1 Q H := by kernel_rfl
theorem tri_term_step {a0 a1 : AV} {H : AH} {Q : AV → AH → Prop} (h : S_term_step a0 a1 Q H) : Tri Try.prog 45 [a0, a1] H Q :=
  tri_of (Ms := [#[], #[0, 1, 3, 7, 15, 31, 63, 0, 128, 384, 896, 0, 0, 6271, 16383], #[], #[0, 0, 2, 7, 0, 22, 0, 64, 246, 511, 1023], #[], #[]]) mixed Try.func45 rfl (by kernel_rfl) (by kernel_rfl) rfl (of_decide_eq_true rfl : 2 ≤ 37) ((eq_term_step a0 a1 Q H).symm ▸ h : FnA Try.prog 37 (regsF Try.f45) ac_term_step [.ce 4 27, .tm 5] [a0, a1] H Q)

/-! wordhoard/term.rebuilt -/
def ac_term_rebuilt : AC := (.seq (.reg 0) (.cut [1] [(10, 15)] (.seq (.reg 1) (.cond (.tmp 12) (.reg 2) .skip)) (.seq (.reg 3) (.seq (.seq (.reg 4) (.block 0 (.loop [7, 18] [(9, 10), (19, 30)] (.seq (.reg 5) (.seq (.cond (.tmp 19) .skip (.exit 0)) (.seq (.block 1 (.seq (.reg 6) (.reg 7))) (.reg 8))))))) (.seq (.reg 9) (.seq (.reg 10) .ret))))))
def S_term_rebuilt_L1 (a2 : AV) (Q : AV → AH → Prop) (H : AH) (v3 : AV) (v6 : AV) (vs : List AV) (v16 : AV) (v17 : AV) (vs_10 : List AV) (k_9 : List AV → AH → Prop) : AH → Prop :=
  Pu Try.prog (.bin .lss 3) [(vs_10.getD 1 .any), v17] fun v19 =>
  CdA v19
    (
    Rg 4 fun b_12 =>
    Pu Try.prog (.idx 6) [v16, (vs_10.getD 1 .any)] fun v20 =>
    RdS Try.prog (.ld 6 true) [v20] fun v21 =>
    Al (b_12 + 2) (.nw 27 [.p (.int .i64 0), .p (.int .i64 0), .p (.int .i64 0), .p (.int .i64 0), .p (.slice none 0 0), .p (.slice none 0 0)]) [] fun v9 =>
    WrS Try.prog (b_12 + 3) (.st 6) [v9, v21] fun _ =>
    Rg 8 fun b_17 =>
    RdS Try.prog (.ld 6 true) [v9] fun v24 =>
    Ca Try.prog a2 [v24, (vs.getD 0 .any)] fun v26 =>
    Al (b_17 + 5) (.bs 27 6 1 [.p (.int .i64 0), .p (.int .i64 0), .p (.int .i64 0), .p (.int .i64 0), .p (.slice none 0 0), .p (.slice none 0 0)] [(0, 6)]) [v26] fun v27 =>
    WrS Try.prog (b_17 + 6) (.app 27 6 80) [(vs_10.getD 0 .any), v27] fun v28 =>
    Pu Try.prog (.bin .add 3) [(vs_10.getD 1 .any), (.p (.int .i64 1))] fun v29 =>
    k_9 [v28, v29]
    ) (
    Rg 8 fun b_23 =>
    Pu Try.prog (.addOff 2) [v3] fun v31 =>
    RdS Try.prog (.ld 3 true) [v31] fun v32 =>
    Ca Try.prog (.fn (.func 36) [] []) [v32] fun v33 =>
    Pu Try.prog (.addOff 5) [v3] fun v34 =>
    WrS Try.prog (b_23 + 5) (.st 1) [v34, (vs_10.getD 0 .any)] fun _ =>
    Pu Try.prog (.addOff 2) [v3] fun v35 =>
    WrS Try.prog (b_23 + 7) (.st 3) [v35, v33] fun _ =>
    Rg 2 fun b_31 =>
    RdS Try.prog (.ld 6 true) [v3] fun v36 =>
    WrS Try.prog (b_31 + 1) (.st 6) [v6, v36] fun _ =>
    RdS Try.prog (.ld 6 true) [v6] fun r6 =>
    Rt Try.prog H.nx r6 Q
    )
def S_term_rebuilt_K2 (a2 : AV) (Q : AV → AH → Prop) (H : AH) (v3 : AV) (v6 : AV) (vs : List AV) : AH → Prop :=
  Pu Try.prog (.addOff 5) [v3] fun v15 =>
  RdS Try.prog (.ld 1 false) [v15] fun v16 =>
  Pu Try.prog .len [v16] fun v17 =>
  LoopA Try.prog 2 (S_term_rebuilt_L1 a2 Q H v3 v6 vs v16 v17) [(.p (.slice none 0 0)), (.p (.int .i64 0))]
def S_term_rebuilt (a0 a1 a2 : AV) (Q : AV → AH → Prop) (H : AH) : Prop := (
    Rg 2 fun b =>
    Al (b + 0) (.bx 27) [a0] fun v3 =>
    Al (b + 1) (.nw 27 [.p (.int .i64 0), .p (.int .i64 0), .p (.int .i64 0), .p (.int .i64 0), .p (.slice none 0 0), .p (.slice none 0 0)]) [] fun v6 =>
    CutA Try.prog 1 (fun k =>
      Pu Try.prog (.addOff 0) [v3] fun v10 =>
      RdS Try.prog (.ld 1 false) [v10] fun v11 =>
      Pu Try.prog (.bin .eql 3) [v11, (.p (.int .i64 3))] fun v12 =>
      CdA v12
        (
        Pu Try.prog (.bin .add 3) [a1, (.p (.int .i64 1))] fun v14 =>
        k [v14]
        ) (
        k [a1]
        )
      ) (S_term_rebuilt_K2 a2 Q H v3 v6)
    ) H
theorem eq_term_rebuilt (a0 a1 a2 : AV) (Q : AV → AH → Prop) (H : AH) : FnA Try.prog 37 (regsF Try.f54) ac_term_rebuilt [.ce 6 27] [a0, a1, a2] H Q = S_term_rebuilt a0 a1 a2 Q H := by kernel_rfl
theorem tri_term_rebuilt {a0 a1 a2 : AV} {H : AH} {Q : AV → AH → Prop} (h : S_term_rebuilt a0 a1 a2 Q H) : Tri Try.prog 54 [a0, a1, a2] H Q :=
  tri_of (Ms := [#[], #[], #[], #[], #[], #[], #[], #[], #[], #[], #[]]) mixed Try.func54 rfl (by kernel_rfl) (by kernel_rfl) rfl (of_decide_eq_true rfl : 3 ≤ 37) ((eq_term_rebuilt a0 a1 a2 Q H).symm ▸ h : FnA Try.prog 37 (regsF Try.f54) ac_term_rebuilt [.ce 6 27] [a0, a1, a2] H Q)

/-! wordhoard/term.put -/
def ac_term_put : AC := (.seq (.reg 0) (.seq (.seq (.reg 1) (.cond (.tmp 9) (.block 0 (.seq (.reg 2) (.cond (.tmp 10) (.seq (.reg 3) .ret) (.seq (.reg 4) (.cond (.tmp 18) (.reg 5) .skip))))) .skip)) (.seq (.reg 6) .ret)))
def S_term_put_C1 (a2 : AV) (Q : AV → AH → Prop) (H : AH) (v3 : AV) (v4 : AV) (v6 : AV) : AH → Prop :=
  Pu Try.prog (.addOff 1) [v3] fun v11 =>
  RdS Try.prog (.ld 1 false) [v11] fun v12 =>
  Pu Try.prog (.bin .eql 3) [v12, a2] fun v14 =>
  CdA v14
    (
    Rg 4 fun b_11 =>
    RdS Try.prog (.ld 6 true) [v4] fun v15 =>
    Ca Try.prog (.fn (.func 44) [] []) [v15, a2, (.p (.int .i64 0))] fun v17 =>
    WrS Try.prog (b_11 + 3) (.st 6) [v6, v17] fun _ =>
    RdS Try.prog (.ld 6 true) [v6] fun r6 =>
    Rt Try.prog H.nx r6 Q
    ) (
    Pu Try.prog (.addOff 1) [v3] fun v19 =>
    RdS Try.prog (.ld 1 false) [v19] fun v20 =>
    Pu Try.prog (.bin .gtr 3) [v20, a2] fun v22 =>
    CdA v22
      (
      Rg 5 fun b_19 =>
      Pu Try.prog (.addOff 1) [v3] fun v23 =>
      RdS Try.prog (.ld 1 false) [v23] fun v24 =>
      Pu Try.prog (.bin .sub 3) [v24, (.p (.int .i64 1))] fun v25 =>
      Pu Try.prog (.addOff 1) [v3] fun v26 =>
      WrS Try.prog (b_19 + 4) (.st 1) [v26, v25] fun _ =>
      Rg 5 fun b_25 =>
      RdS Try.prog (.ld 6 true) [v3] fun v27 =>
      Pu Try.prog (.mkfn (.func 60) 0) [v4] fun v29 =>
      Ca Try.prog (.fn (.func 54) [] []) [v27, a2, v29] fun v30 =>
      WrS Try.prog (b_25 + 4) (.st 6) [v6, v30] fun _ =>
      RdS Try.prog (.ld 6 true) [v6] fun r6_30 =>
      Rt Try.prog H.nx r6_30 Q
      ) (
      Rg 5 fun b_31 =>
      RdS Try.prog (.ld 6 true) [v3] fun v27_32 =>
      Pu Try.prog (.mkfn (.func 60) 0) [v4] fun v29_33 =>
      Ca Try.prog (.fn (.func 54) [] []) [v27_32, a2, v29_33] fun v30_34 =>
      WrS Try.prog (b_31 + 4) (.st 6) [v6, v30_34] fun _ =>
      RdS Try.prog (.ld 6 true) [v6] fun r6_36 =>
      Rt Try.prog H.nx r6_36 Q
      )
    )
def S_term_put (a0 a1 a2 : AV) (Q : AV → AH → Prop) (H : AH) : Prop := (
    Rg 3 fun b =>
    Al (b + 0) (.bx 27) [a0] fun v3 =>
    Al (b + 1) (.bx 27) [a1] fun v4 =>
    Al (b + 2) (.nw 27 [.p (.int .i64 0), .p (.int .i64 0), .p (.int .i64 0), .p (.int .i64 0), .p (.slice none 0 0), .p (.slice none 0 0)]) [] fun v6 =>
    Pu Try.prog (.addOff 0) [v3] fun v7 =>
    RdS Try.prog (.ld 1 false) [v7] fun v8 =>
    Pu Try.prog (.bin .eql 3) [v8, (.p (.int .i64 1))] fun v9 =>
    CdA v9
      (S_term_put_C1 a2 Q H v3 v4 v6) (
      Rg 5 fun b_37 =>
      RdS Try.prog (.ld 6 true) [v3] fun v27_38 =>
      Pu Try.prog (.mkfn (.func 60) 0) [v4] fun v29_39 =>
      Ca Try.prog (.fn (.func 54) [] []) [v27_38, a2, v29_39] fun v30_40 =>
      WrS Try.prog (b_37 + 4) (.st 6) [v6, v30_40] fun _ =>
      RdS Try.prog (.ld 6 true) [v6] fun r6_42 =>
      Rt Try.prog H.nx r6_42 Q
      )
    ) H
theorem eq_term_put (a0 a1 a2 : AV) (Q : AV → AH → Prop) (H : AH) : FnA Try.prog 31 (regsF Try.f57) ac_term_put [.ce 6 27] [a0, a1, a2] H Q = S_term_put a0 a1 a2 Q H := by kernel_rfl
theorem tri_term_put {a0 a1 a2 : AV} {H : AH} {Q : AV → AH → Prop} (h : S_term_put a0 a1 a2 Q H) : Tri Try.prog 57 [a0, a1, a2] H Q :=
  tri_of (Ms := [#[], #[], #[], #[], #[], #[], #[]]) mixed Try.func57 rfl (by kernel_rfl) (by kernel_rfl) rfl (of_decide_eq_true rfl : 3 ≤ 31) ((eq_term_put a0 a1 a2 Q H).symm ▸ h : FnA Try.prog 31 (regsF Try.f57) ac_term_put [.ce 6 27] [a0, a1, a2] H Q)

/-! wordhoard/term.Spots$1 -/
def ac_term_Spots_fn1 : AC := (.seq (.reg 0) (.cut [] [(8, 15)] (.seq (.reg 1) (.cond (.tmp 9) (.reg 2) .skip)) (.seq (.reg 3) (.block 0 (.loop [18] [(6, 8), (19, 31)] (.seq (.reg 4) (.seq (.cond (.tmp 19) .skip (.exit 0)) (.seq (.block 1 (.seq (.reg 5) (.reg 6))) (.reg 7)))))))))
def S_term_Spots_fn1_L1 (a1 : AV) (a3 : AV) (Q : AV → AH → Prop) (H : AH) (v16 : AV) (v17 : AV) (vs_9 : List AV) (k_8 : List AV → AH → Prop) : AH → Prop :=
  Pu Try.prog (.bin .lss 3) [(vs_9.getD 0 .any), v17] fun v19 =>
  CdA v19
    (
    Rg 6 fun b_11 =>
    Pu Try.prog (.idx 6) [v16, (vs_9.getD 0 .any)] fun v21 =>
    RdS Try.prog (.ld 6 true) [v21] fun v22 =>
    Al (b_11 + 3) (.nw 27 [.p (.int .i64 0), .p (.int .i64 0), .p (.int .i64 0), .p (.int .i64 0), .p (.slice none 0 0), .p (.slice none 0 0)]) [] fun v7 =>
    WrS Try.prog (b_11 + 5) (.st 6) [v7, v22] fun _ =>
    Rg 7 fun b_16 =>
    VwD fun V =>
    Rd Try.prog V (.ld 1 false) [a3] fun v23 =>
    Rd Try.prog V (.ld 6 true) [v7] fun v24 =>
    Al (b_16 + 4) (.bs 3 1 1 [.p (.int .i64 0)] [(0, 1)]) [(vs_9.getD 0 .any)] fun v27 =>
    WrO V b_16 (some (b_16 + 4)) (b_16 + 5) (.app 3 1 8) [a1, v27] fun v28 =>
    Ca Try.prog v23 [v24, v28] fun _ =>
    Vw fun _ =>
    Pu Try.prog (.bin .add 3) [(vs_9.getD 0 .any), (.p (.int .i64 1))] fun v30 =>
    k_8 [v30]
    ) (
    Rt Try.prog H.nx (.tup []) Q
    )
def S_term_Spots_fn1_K2 (a1 : AV) (a3 : AV) (Q : AV → AH → Prop) (H : AH) (v4 : AV) (_vs : List AV) : AH → Prop :=
  Pu Try.prog (.addOff 5) [v4] fun v15 =>
  RdS Try.prog (.ld 1 false) [v15] fun v16 =>
  Pu Try.prog .len [v16] fun v17 =>
  LoopA Try.prog 1 (S_term_Spots_fn1_L1 a1 a3 Q H v16 v17) [(.p (.int .i64 0))]
def S_term_Spots_fn1 (a0 a1 a2 a3 : AV) (Q : AV → AH → Prop) (H : AH) : Prop := (
    Rg 1 fun b =>
    Al (b + 0) (.bx 27) [a0] fun v4 =>
    CutA Try.prog 0 (fun k =>
      RdS Try.prog (.ld 6 true) [v4] fun v8 =>
      Ca Try.prog (.fn (.func 31) [] []) [v8] fun v9 =>
      CdA v9
        (
        Rg 6 fun b_27 =>
        Vw fun V_28 =>
        Rd Try.prog V_28 (.ld 1 false) [a2] fun v10 =>
        CaV Try.prog V_28 (.fn (.func 32) [] []) [a1] fun v12 =>
        Al (b_27 + 3) (.bs 35 1 1 [.p (.slice none 0 0)] [(0, 1)]) [v12] fun v13 =>
        Wr Try.prog (b_27 + 4) (.app 35 1 24) [v10, v13] fun v14 _ =>
        Wr Try.prog (b_27 + 5) (.st 1) [a2, v14] fun _ _ =>
        k []
        ) (
        k []
        )
      ) (S_term_Spots_fn1_K2 a1 a3 Q H v4)
    ) H
theorem eq_term_Spots_fn1 (a0 a1 a2 a3 : AV) (Q : AV → AH → Prop) (H : AH) : FnA Try.prog 31 (regsF Try.f30) ac_term_Spots_fn1 [] [a0, a1, a2, a3] H Q = S_term_Spots_fn1 a0 a1 a2 a3 Q H := by kernel_rfl
theorem tri_term_Spots_fn1 {a0 a1 a2 a3 : AV} {H : AH} {Q : AV → AH → Prop} (h : S_term_Spots_fn1 a0 a1 a2 a3 Q H) : Tri Try.prog 30 [a0, a1, a2, a3] H Q :=
  tri_of (Ms := [#[], #[], #[0, 0, 2, 6, 15, 31], #[], #[], #[], #[0, 0, 0, 0, 8, 28, 63], #[]]) mixed Try.func30 rfl (by kernel_rfl) (by kernel_rfl) rfl (of_decide_eq_true rfl : 4 ≤ 31) ((eq_term_Spots_fn1 a0 a1 a2 a3 Q H).symm ▸ h : FnA Try.prog 31 (regsF Try.f30) ac_term_Spots_fn1 [] [a0, a1, a2, a3] H Q)

/-! wordhoard/term.shifted$1 -/
def ac_term_shifted_fn1 : AC := (.seq (.reg 0) (.seq (.reg 1) .ret))
def S_term_shifted_fn1 (a0 a1 a2 : AV) (Q : AV → AH → Prop) (H : AH) : Prop := (
    Rg 2 fun b =>
    Al (b + 0) (.bx 27) [a0] fun v3 =>
    Al (b + 1) (.nw 27 [.p (.int .i64 0), .p (.int .i64 0), .p (.int .i64 0), .p (.int .i64 0), .p (.slice none 0 0), .p (.slice none 0 0)]) [] fun v5 =>
    Rg 5 fun b_4 =>
    RdS Try.prog (.ld 6 true) [v3] fun v6 =>
    RdS Try.prog (.ld 1 false) [a2] fun v7 =>
    Ca Try.prog (.fn (.func 44) [] []) [v6, v7, a1] fun v9 =>
    WrS Try.prog (b_4 + 4) (.st 6) [v5, v9] fun _ =>
    RdS Try.prog (.ld 6 true) [v5] fun r5 =>
    Rt Try.prog H.nx r5 Q
    ) H
theorem eq_term_shifted_fn1 (a0 a1 a2 : AV) (Q : AV → AH → Prop) (H : AH) : FnA Try.prog 10 (regsF Try.f55) ac_term_shifted_fn1 [.ce 5 27] [a0, a1, a2] H Q = S_term_shifted_fn1 a0 a1 a2 Q H := by kernel_rfl
theorem tri_term_shifted_fn1 {a0 a1 a2 : AV} {H : AH} {Q : AV → AH → Prop} (h : S_term_shifted_fn1 a0 a1 a2 Q H) : Tri Try.prog 55 [a0, a1, a2] H Q :=
  tri_of (Ms := [#[], #[]]) mixed Try.func55 rfl (by kernel_rfl) (by kernel_rfl) rfl (of_decide_eq_true rfl : 3 ≤ 10) ((eq_term_shifted_fn1 a0 a1 a2 Q H).symm ▸ h : FnA Try.prog 10 (regsF Try.f55) ac_term_shifted_fn1 [.ce 5 27] [a0, a1, a2] H Q)

/-! wordhoard/term.put$1 -/
def ac_term_put_fn1 : AC := (.seq (.reg 0) (.seq (.reg 1) .ret))
def S_term_put_fn1 (a0 a1 a2 : AV) (Q : AV → AH → Prop) (H : AH) : Prop := (
    Rg 2 fun b =>
    Al (b + 0) (.bx 27) [a0] fun v3 =>
    Al (b + 1) (.nw 27 [.p (.int .i64 0), .p (.int .i64 0), .p (.int .i64 0), .p (.int .i64 0), .p (.slice none 0 0), .p (.slice none 0 0)]) [] fun v5 =>
    Rg 5 fun b_4 =>
    RdS Try.prog (.ld 6 true) [v3] fun v6 =>
    RdS Try.prog (.ld 6 true) [a2] fun v7 =>
    Ca Try.prog (.fn (.func 57) [] []) [v6, v7, a1] fun v9 =>
    WrS Try.prog (b_4 + 4) (.st 6) [v5, v9] fun _ =>
    RdS Try.prog (.ld 6 true) [v5] fun r5 =>
    Rt Try.prog H.nx r5 Q
    ) H
theorem eq_term_put_fn1 (a0 a1 a2 : AV) (Q : AV → AH → Prop) (H : AH) : FnA Try.prog 10 (regsF Try.f60) ac_term_put_fn1 [.ce 5 27] [a0, a1, a2] H Q = S_term_put_fn1 a0 a1 a2 Q H := by kernel_rfl
theorem tri_term_put_fn1 {a0 a1 a2 : AV} {H : AH} {Q : AV → AH → Prop} (h : S_term_put_fn1 a0 a1 a2 Q H) : Tri Try.prog 60 [a0, a1, a2] H Q :=
  tri_of (Ms := [#[], #[]]) mixed Try.func60 rfl (by kernel_rfl) (by kernel_rfl) rfl (of_decide_eq_true rfl : 3 ≤ 10) ((eq_term_put_fn1 a0 a1 a2 Q H).symm ▸ h : FnA Try.prog 10 (regsF Try.f60) ac_term_put_fn1 [.ce 5 27] [a0, a1, a2] H Q)

/-! wordhoard/wordhoardref.NormalTerm -/
def ac_wordhoardref_NormalTerm : AC := (.seq (.reg 0) (.seq (.seq (.reg 1) (.block 0 (.loop [5] [(3, 5), (6, 33)] (.seq (.seq (.reg 2) (.cond (.tmp 10) .skip (.exit 0))) (.seq (.block 1 (.seq (.reg 3) (.seq (.seq (.reg 4) (.cond (.tmp 17) (.seq (.reg 5) .ret) .skip)) (.seq (.reg 6) (.seq (.seq (.reg 7) (.cond (.tmp 29) (.seq (.reg 8) .ret) .skip)) (.reg 9)))))) (.reg 10)))))) (.seq (.reg 11) .ret)))
def S_wordhoardref_NormalTerm_C1 (Q : AV → AH → Prop) (H : AH) (v1 : AV) (v2 : AV) (k : List AV → AH → Prop) (vs : List AV) (v14 : AV) : AH → Prop :=
  Rg 11 fun b_15 =>
  Vw fun V =>
  Rd Try.prog V (.ld 6 true) [v1] fun v21 =>
  Pu Try.prog (.idx 1) [v14, (.p (.int .i64 0))] fun v23 =>
  Rd Try.prog V (.ld 1 false) [v23] fun v24 =>
  CaV Try.prog V (.fn (.func 16) [] []) [v21, v24] fun v25 =>
  Pu Try.prog (.ext 0) [v25] fun v26 =>
  Pu Try.prog (.ext 1) [v25] fun v27 =>
  Al (b_15 + 8) (.nw 27 [.p (.int .i64 0), .p (.int .i64 0), .p (.int .i64 0), .p (.int .i64 0), .p (.slice none 0 0), .p (.slice none 0 0)]) [] fun v7 =>
  WrF V (some (b_15 + 8)) none (b_15 + 9) (.st 6) [v7, v26] fun _ =>
  Pu Try.prog (.bin .neq 28) [v27, (.p (.int .i64 0))] fun v29 =>
  CdA v29
    (
    Rg 5 fun b_26 =>
    Pu Try.prog (.bld [.p (.int .i64 0), .p (.int .i64 0), .p (.int .i64 0), .p (.int .i64 0), .p (.slice none 0 0), .p (.slice none 0 0)] []) [] fun v30 =>
    WrS Try.prog (b_26 + 2) (.st 6) [v2, v30] fun _ =>
    RdS Try.prog (.ld 6 true) [v2] fun r2_29 =>
    Rt Try.prog H.nx (.tup [r2_29, (.p (.int .i64 0)), v27]) Q
    ) (
    Rg 2 fun b_30 =>
    RdS Try.prog (.ld 6 true) [v7] fun v32 =>
    WrS Try.prog (b_30 + 1) (.st 6) [v1, v32] fun _ =>
    Pu Try.prog (.bin .add 3) [(vs.getD 0 .any), (.p (.int .i64 1))] fun v12 =>
    k [v12]
    )
def S_wordhoardref_NormalTerm_L2 (Q : AV → AH → Prop) (H : AH) (v1 : AV) (v2 : AV) (vs : List AV) (k : List AV → AH → Prop) : AH → Prop :=
  Pu Try.prog (.bin .leq 3) [(vs.getD 0 .any), (.p (.int .i64 200))] fun v10 =>
  CdA v10
    (
    RdS Try.prog (.ld 6 true) [v1] fun v13 =>
    Ca Try.prog (.fn (.func 14) [] []) [v13] fun v14 =>
    Pu Try.prog .len [v14] fun v16 =>
    Pu Try.prog (.bin .eql 3) [v16, (.p (.int .i64 0))] fun v17 =>
    CdA v17
      (
      Rg 5 fun b_11 =>
      RdS Try.prog (.ld 6 true) [v1] fun v18 =>
      WrS Try.prog (b_11 + 2) (.st 6) [v2, v18] fun _ =>
      RdS Try.prog (.ld 6 true) [v2] fun r2 =>
      Rt Try.prog H.nx (.tup [r2, (vs.getD 0 .any), (.p (.int .i64 0))]) Q
      ) (S_wordhoardref_NormalTerm_C1 Q H v1 v2 k vs v14)
    ) (
    Rg 4 fun b_34 =>
    Pu Try.prog (.bld [.p (.int .i64 0), .p (.int .i64 0), .p (.int .i64 0), .p (.int .i64 0), .p (.slice none 0 0), .p (.slice none 0 0)] []) [] fun v33 =>
    WrS Try.prog (b_34 + 1) (.st 6) [v2, v33] fun _ =>
    RdS Try.prog (.ld 6 true) [v2] fun r2_37 =>
    Rt Try.prog H.nx (.tup [r2_37, (.p (.int .i64 0)), (.p (.int .i64 7))]) Q
    )
def S_wordhoardref_NormalTerm (a0 : AV) (Q : AV → AH → Prop) (H : AH) : Prop := (
    Rg 4 fun b =>
    Al (b + 0) (.bx 27) [a0] fun v1 =>
    Al (b + 1) (.nw 27 [.p (.int .i64 0), .p (.int .i64 0), .p (.int .i64 0), .p (.int .i64 0), .p (.slice none 0 0), .p (.slice none 0 0)]) [] fun v2 =>
    LoopA Try.prog 1 (S_wordhoardref_NormalTerm_L2 Q H v1 v2) [(.p (.int .i64 0))]
    ) H
theorem eq_wordhoardref_NormalTerm (a0 : AV) (Q : AV → AH → Prop) (H : AH) : FnA Try.prog 34 (regsF Try.f11) ac_wordhoardref_NormalTerm [.ce 2 27, .tm 3, .tm 4] [a0] H Q = S_wordhoardref_NormalTerm a0 Q H := by kernel_rfl
theorem tri_wordhoardref_NormalTerm {a0 : AV} {H : AH} {Q : AV → AH → Prop} (h : S_wordhoardref_NormalTerm a0 Q H) : Tri Try.prog 11 [a0] H Q :=
  tri_of (Ms := [#[], #[], #[], #[], #[], #[], #[0, 0, 2, 6, 15, 31, 63, 63, 0, 383, 1023], #[], #[], #[], #[], #[]]) mixed Try.func11 rfl (by kernel_rfl) (by kernel_rfl) rfl (of_decide_eq_true rfl : 1 ≤ 34) ((eq_wordhoardref_NormalTerm a0 Q H).symm ▸ h : FnA Try.prog 34 (regsF Try.f11) ac_wordhoardref_NormalTerm [.ce 2 27, .tm 3, .tm 4] [a0] H Q)

/-! wordhoard/wordhoardref.Spots -/
def ac_wordhoardref_Spots : AC := (.seq (.reg 0) (.seq (.reg 1) (.cut [3] [(7, 12)] (.seq (.reg 2) (.cond (.tmp 8) (.reg 3) .skip)) (.seq (.seq (.reg 4) (.block 0 (.loop [3, 4] [(5, 7), (12, 41)] (.seq (.seq (.reg 5) (.cond (.tmp 16) .skip (.exit 0))) (.seq (.block 1 (.seq (.reg 6) (.seq (.reg 7) (.block 2 (.loop [3, 6] [(25, 41)] (.seq (.seq (.reg 8) (.cond (.tmp 28) .skip (.exit 2))) (.seq (.block 3 (.reg 9)) (.reg 10)))))))) (.reg 11)))))) (.seq (.reg 12) .ret)))))
def S_wordhoardref_Spots_L1 (k_5 : List AV → AH → Prop) (vs_6 : List AV) (v24 : AV) (vs_17 : List AV) (k_16 : List AV → AH → Prop) : AH → Prop :=
  Pu Try.prog .len [v24] fun v27 =>
  Pu Try.prog (.bin .lss 3) [(vs_17.getD 1 .any), v27] fun v28 =>
  CdA v28
    (
    Rg 11 fun b_20 =>
    Al (b_20 + 2) (.bs 3 1 1 [.p (.int .i64 0)] [(0, 1)]) [(vs_6.getD 1 .any)] fun v33 =>
    Pu Try.prog (.idx 1) [v24, (vs_17.getD 1 .any)] fun v36 =>
    RdS Try.prog (.ld 1 false) [v36] fun v37 =>
    WrS Try.prog (b_20 + 7) (.app 3 1 8) [v33, v37] fun v38 =>
    Al (b_20 + 8) (.bs 35 1 1 [.p (.slice none 0 0)] [(0, 1)]) [v38] fun v39 =>
    WrS Try.prog (b_20 + 9) (.app 35 1 24) [(vs_17.getD 0 .any), v39] fun v40 =>
    Pu Try.prog (.bin .add 3) [(vs_17.getD 1 .any), (.p (.int .i64 1))] fun v30 =>
    k_16 [v40, v30]
    ) (
    Pu Try.prog (.bin .add 3) [(vs_6.getD 1 .any), (.p (.int .i64 1))] fun v18 =>
    k_5 [(vs_17.getD 0 .any), v18]
    )
def S_wordhoardref_Spots_L2 (Q : AV → AH → Prop) (H : AH) (v1 : AV) (vs_6 : List AV) (k_5 : List AV → AH → Prop) : AH → Prop :=
  Pu Try.prog (.addOff 5) [v1] fun v13 =>
  RdS Try.prog (.ld 1 false) [v13] fun v14 =>
  Pu Try.prog .len [v14] fun v15 =>
  Pu Try.prog (.bin .lss 3) [(vs_6.getD 1 .any), v15] fun v16 =>
  CdA v16
    (
    Pu Try.prog (.addOff 5) [v1] fun v19 =>
    RdS Try.prog (.ld 1 false) [v19] fun v20 =>
    Pu Try.prog (.idx 6) [v20, (vs_6.getD 1 .any)] fun v22 =>
    RdS Try.prog (.ld 6 true) [v22] fun v23 =>
    Ca Try.prog (.fn (.func 14) [] []) [v23] fun v24 =>
    LoopA Try.prog 2 (S_wordhoardref_Spots_L1 k_5 vs_6 v24) [(vs_6.getD 0 .any), (.p (.int .i64 0))]
    ) (
    Rt Try.prog H.nx (vs_6.getD 0 .any) Q
    )
def S_wordhoardref_Spots_K3 (Q : AV → AH → Prop) (H : AH) (v1 : AV) (vs : List AV) : AH → Prop :=
  LoopA Try.prog 2 (S_wordhoardref_Spots_L2 Q H v1) [(vs.getD 0 .any), (.p (.int .i64 0))]
def S_wordhoardref_Spots (a0 : AV) (Q : AV → AH → Prop) (H : AH) : Prop := (
    Rg 2 fun b =>
    Al (b + 0) (.bx 27) [a0] fun v1 =>
    CutA Try.prog 1 (fun k =>
      RdS Try.prog (.ld 6 true) [v1] fun v7 =>
      Ca Try.prog (.fn (.func 33) [] []) [v7] fun v8 =>
      CdA v8
        (
        Rg 4 fun b_31 =>
        Al (b_31 + 1) (.bs 35 1 1 [.p (.slice none 0 0)] [(0, 1)]) [(.p (.slice none 0 0))] fun v10 =>
        WrS Try.prog (b_31 + 2) (.app 35 1 24) [(.p (.slice none 0 0)), v10] fun v11 =>
        k [v11]
        ) (
        k [(.p (.slice none 0 0))]
        )
      ) (S_wordhoardref_Spots_K3 Q H v1)
    ) H
theorem eq_wordhoardref_Spots (a0 : AV) (Q : AV → AH → Prop) (H : AH) : FnA Try.prog 42 (regsF Try.f14) ac_wordhoardref_Spots [.tm 2] [a0] H Q = S_wordhoardref_Spots a0 Q H := by kernel_rfl
theorem tri_wordhoardref_Spots {a0 : AV} {H : AH} {Q : AV → AH → Prop} (h : S_wordhoardref_Spots a0 Q H) : Tri Try.prog 14 [a0] H Q :=
  tri_of (Ms := [#[], #[], #[], #[], #[], #[], #[], #[], #[], #[], #[], #[], #[]]) mixed Try.func14 rfl (by kernel_rfl) (by kernel_rfl) rfl (of_decide_eq_true rfl : 1 ≤ 42) ((eq_wordhoardref_Spots a0 Q H).symm ▸ h : FnA Try.prog 42 (regsF Try.f14) ac_wordhoardref_Spots [.tm 2] [a0] H Q)

/-! wordhoard/wordhoardref.StepAt -/
def ac_wordhoardref_StepAt : AC := (.seq (.reg 0) (.seq (.reg 1) .ret))
def S_wordhoardref_StepAt (a0 a1 : AV) (Q : AV → AH → Prop) (H : AH) : Prop := (
    Rg 3 fun b =>
    Al (b + 0) (.bx 27) [a0] fun v2 =>
    Al (b + 1) (.nw 27 [.p (.int .i64 0), .p (.int .i64 0), .p (.int .i64 0), .p (.int .i64 0), .p (.slice none 0 0), .p (.slice none 0 0)]) [] fun v4 =>
    Rg 7 fun b_4 =>
    RdS Try.prog (.ld 6 true) [v2] fun v6 =>
    Ca Try.prog (.fn (.func 34) [] []) [v6, a1, (.p (.int .i64 400))] fun v8 =>
    Pu Try.prog (.ext 0) [v8] fun v9 =>
    Pu Try.prog (.ext 1) [v8] fun v10 =>
    WrS Try.prog (b_4 + 5) (.st 6) [v4, v9] fun _ =>
    RdS Try.prog (.ld 6 true) [v4] fun r4 =>
    Rt Try.prog H.nx (.tup [r4, v10]) Q
    ) H
theorem eq_wordhoardref_StepAt (a0 a1 : AV) (Q : AV → AH → Prop) (H : AH) : FnA Try.prog 11 (regsF Try.f16) ac_wordhoardref_StepAt [.ce 4 27, .tm 5] [a0, a1] H Q = S_wordhoardref_StepAt a0 a1 Q H := by kernel_rfl
theorem tri_wordhoardref_StepAt {a0 a1 : AV} {H : AH} {Q : AV → AH → Prop} (h : S_wordhoardref_StepAt a0 a1 Q H) : Tri Try.prog 16 [a0, a1] H Q :=
  tri_of (Ms := [#[], #[]]) mixed Try.func16 rfl (by kernel_rfl) (by kernel_rfl) rfl (of_decide_eq_true rfl : 2 ≤ 11) ((eq_wordhoardref_StepAt a0 a1 Q H).symm ▸ h : FnA Try.prog 11 (regsF Try.f16) ac_wordhoardref_StepAt [.ce 4 27, .tm 5] [a0, a1] H Q)

/-! wordhoard/wordhoardref.stepped -/
def ac_wordhoardref_stepped : AC := (.seq (.reg 0) (.seq (.seq (.reg 1) (.cond (.tmp 17) (.seq (.seq (.reg 2) (.cond (.tmp 20) (.seq (.reg 3) .ret) .skip)) (.seq (.reg 4) (.seq (.reg 5) (.seq (.seq (.reg 6) (.cond (.tmp 39) (.seq (.reg 7) .ret) .skip)) (.seq (.reg 8) .ret))))) .skip)) (.seq (.seq (.reg 9) (.cond (.tmp 54) (.seq (.reg 10) .ret) .skip)) (.seq (.reg 11) (.seq (.reg 12) (.seq (.seq (.reg 13) (.cond (.tmp 84) (.seq (.reg 14) .ret) .skip)) (.seq (.reg 15) (.seq (.reg 16) (.seq (.reg 17) (.seq (.reg 18) .ret))))))))))
def S_wordhoardref_stepped_C1 (a2 : AV) (Q : AV → AH → Prop) (H : AH) (v3 : AV) (v6 : AV) : AH → Prop :=
  Rg 3 fun b_13 =>
  Al (b_13 + 1) (.nw 3 [.p (.int .i64 0)]) [] fun v8 =>
  WrS Try.prog (b_13 + 2) (.st 1) [v8, a2] fun _ =>
  Rg 18 fun b_16 =>
  Vw fun V =>
  Pu Try.prog (.addOff 5) [v3] fun v24 =>
  Rd Try.prog V (.ld 1 false) [v24] fun v25 =>
  Pu Try.prog (.idx 6) [v25, (.p (.int .i64 0))] fun v26 =>
  Pu Try.prog (.addOff 5) [v26] fun v27 =>
  Rd Try.prog V (.ld 1 false) [v27] fun v28 =>
  Pu Try.prog (.idx 6) [v28, (.p (.int .i64 0))] fun v29 =>
  Rd Try.prog V (.ld 6 true) [v29] fun v30 =>
  Pu Try.prog (.addOff 5) [v3] fun v31 =>
  Rd Try.prog V (.ld 1 false) [v31] fun v32 =>
  Pu Try.prog (.idx 6) [v32, (.p (.int .i64 1))] fun v33 =>
  Rd Try.prog V (.ld 6 true) [v33] fun v34 =>
  CaP Try.prog V b_16 [] (.fn (.func 47) [] []) [v30, v34, (.p (.int .i64 0)), v8] fun v35 V_30 =>
  Pu Try.prog (.ext 0) [v35] fun v36 =>
  Pu Try.prog (.ext 1) [v35] fun v37 =>
  Al (b_16 + 15) (.nw 27 [.p (.int .i64 0), .p (.int .i64 0), .p (.int .i64 0), .p (.int .i64 0), .p (.slice none 0 0), .p (.slice none 0 0)]) [] fun v9 =>
  WrF V_30 (some (b_16 + 15)) none (b_16 + 16) (.st 6) [v9, v36] fun _ =>
  Pu Try.prog (.un .not) [v37] fun v39 =>
  CdA v39
    (
    Rg 3 fun b_36 =>
    Pu Try.prog (.bld [.p (.int .i64 0), .p (.int .i64 0), .p (.int .i64 0), .p (.int .i64 0), .p (.slice none 0 0), .p (.slice none 0 0)] []) [] fun v40 =>
    WrS Try.prog (b_36 + 1) (.st 6) [v6, v40] fun _ =>
    RdS Try.prog (.ld 6 true) [v6] fun r6_39 =>
    Rt Try.prog H.nx (.tup [r6_39, (.p (.int .i64 7))]) Q
    ) (
    Rg 3 fun b_40 =>
    RdS Try.prog (.ld 6 true) [v9] fun v41 =>
    WrS Try.prog (b_40 + 1) (.st 6) [v6, v41] fun _ =>
    RdS Try.prog (.ld 6 true) [v6] fun r6_43 =>
    Rt Try.prog H.nx (.tup [r6_43, (.p (.int .i64 0))]) Q
    )
def S_wordhoardref_stepped_C2 (a1 : AV) (a2 : AV) (Q : AV → AH → Prop) (H : AH) (v3 : AV) (v6 : AV) : AH → Prop :=
  Vw fun V_74 =>
  Rd Try.prog V_74 (.ld 6 true) [v3] fun v56 =>
  CaV Try.prog V_74 (.fn (.func 27) [] []) [v56, (.p (.int .i64 400))] fun v57 =>
  Pu Try.prog (.addOff 5) [v3] fun v58 =>
  Rd Try.prog V_74 (.ld 1 false) [v58] fun v59 =>
  Pu Try.prog (.idx 1) [a1, (.p (.int .i64 0))] fun v61 =>
  Rd Try.prog V_74 (.ld 1 false) [v61] fun v62 =>
  Pu Try.prog (.idx 6) [v59, v62] fun v63 =>
  Rd Try.prog V_74 (.ld 6 true) [v63] fun v64 =>
  CaV Try.prog V_74 (.fn (.func 27) [] []) [v64, (.p (.int .i64 400))] fun v65 =>
  Pu Try.prog (.bin .sub 3) [v57, v65] fun v66 =>
  Rg 19 fun b_85 =>
  Vw fun V_86 =>
  Pu Try.prog (.addOff 5) [v3] fun v68 =>
  Rd Try.prog V_86 (.ld 1 false) [v68] fun v69 =>
  Pu Try.prog (.idx 1) [a1, (.p (.int .i64 0))] fun v71 =>
  Rd Try.prog V_86 (.ld 1 false) [v71] fun v72 =>
  Pu Try.prog (.idx 6) [v69, v72] fun v73 =>
  Rd Try.prog V_86 (.ld 6 true) [v73] fun v74 =>
  Pu Try.prog (.slc 1 true false) [a1, (.p (.int .i64 1))] fun v76 =>
  Pu Try.prog (.bin .sub 3) [a2, v66] fun v79 =>
  CaV Try.prog V_86 (.fn (.func 34) [] []) [v74, v76, v79] fun v80 =>
  Pu Try.prog (.ext 0) [v80] fun v81 =>
  Pu Try.prog (.ext 1) [v80] fun v82 =>
  Al (b_85 + 16) (.nw 27 [.p (.int .i64 0), .p (.int .i64 0), .p (.int .i64 0), .p (.int .i64 0), .p (.slice none 0 0), .p (.slice none 0 0)]) [] fun v12 =>
  WrF V_86 (some (b_85 + 16)) none (b_85 + 17) (.st 6) [v12, v81] fun _ =>
  Pu Try.prog (.bin .neq 28) [v82, (.p (.int .i64 0))] fun v84 =>
  CdA v84
    (
    Rg 4 fun b_101 =>
    Pu Try.prog (.bld [.p (.int .i64 0), .p (.int .i64 0), .p (.int .i64 0), .p (.int .i64 0), .p (.slice none 0 0), .p (.slice none 0 0)] []) [] fun v85 =>
    WrS Try.prog (b_101 + 2) (.st 6) [v6, v85] fun _ =>
    RdS Try.prog (.ld 6 true) [v6] fun r6_104 =>
    Rt Try.prog H.nx (.tup [r6_104, v82]) Q
    ) (
    Rg 5 fun b_105 =>
    Al (b_105 + 0) (.bs 27 6 0 [.p (.int .i64 0), .p (.int .i64 0), .p (.int .i64 0), .p (.int .i64 0), .p (.slice none 0 0), .p (.slice none 0 0)] []) [] fun v87 =>
    Pu Try.prog (.addOff 5) [v3] fun v88 =>
    RdS Try.prog (.ld 1 false) [v88] fun v89 =>
    WrS Try.prog (b_105 + 3) (.app 27 6 80) [v87, v89] fun v90 =>
    Rg 7 fun b_110 =>
    Vw fun V_111 =>
    Pu Try.prog (.idx 1) [a1, (.p (.int .i64 0))] fun v93 =>
    Rd Try.prog V_111 (.ld 1 false) [v93] fun v94 =>
    Rd Try.prog V_111 (.ld 6 true) [v12] fun v95 =>
    Pu Try.prog (.idx 6) [v90, v94] fun v96 =>
    Wr Try.prog (b_110 + 6) (.st 6) [v96, v95] fun _ _ =>
    Rg 3 fun b_118 =>
    Pu Try.prog (.addOff 5) [v3] fun v98 =>
    WrS Try.prog (b_118 + 2) (.st 1) [v98, v90] fun _ =>
    Rg 3 fun b_121 =>
    RdS Try.prog (.ld 6 true) [v3] fun v99 =>
    WrS Try.prog (b_121 + 1) (.st 6) [v6, v99] fun _ =>
    RdS Try.prog (.ld 6 true) [v6] fun r6_124 =>
    Rt Try.prog H.nx (.tup [r6_124, (.p (.int .i64 0))]) Q
    )
def S_wordhoardref_stepped_C3 (a1 : AV) (a2 : AV) (Q : AV → AH → Prop) (H : AH) (v3 : AV) (v6 : AV) : AH → Prop :=
  Vw fun V_44 =>
  Pu Try.prog (.idx 1) [a1, (.p (.int .i64 0))] fun v43 =>
  Rd Try.prog V_44 (.ld 1 false) [v43] fun v44 =>
  Pu Try.prog (.bin .lss 3) [v44, (.p (.int .i64 0))] fun v45 =>
  GdV v45 false (fun k => k a1 V_44) V_44 fun v47 V_50 =>
  GdV v45 false (fun k_52 => Pu Try.prog (.idx 1) [v47, (.p (.int .i64 0))] (fun a => k_52 a V_50)) V_50 fun v48 V_53 =>
  GdV v45 false (fun k_55 => Rd Try.prog V_53 (.ld 1 false) [v48] (fun a => k_55 a V_53)) V_53 fun v49 V_56 =>
  GdV v45 false (fun k_58 => Pu Try.prog (.addOff 5) [v3] (fun a => k_58 a V_56)) V_56 fun v50 V_59 =>
  GdV v45 false (fun k_61 => Rd Try.prog V_59 (.ld 1 false) [v50] (fun a => k_61 a V_59)) V_59 fun v51 V_62 =>
  GdV v45 false (fun k_64 => Pu Try.prog .len [v51] (fun a => k_64 a V_62)) V_62 fun v52 V_65 =>
  GdV v45 false (fun k_67 => Pu Try.prog (.bin .geq 3) [v49, v52] (fun a => k_67 a V_65)) V_65 fun v53 _ =>
  Pu Try.prog .pick [v45, (.p (.bool true)), v53] fun v54 =>
  CdA v54
    (
    Rg 3 fun b_70 =>
    Pu Try.prog (.bld [.p (.int .i64 0), .p (.int .i64 0), .p (.int .i64 0), .p (.int .i64 0), .p (.slice none 0 0), .p (.slice none 0 0)] []) [] fun v55 =>
    WrS Try.prog (b_70 + 1) (.st 6) [v6, v55] fun _ =>
    RdS Try.prog (.ld 6 true) [v6] fun r6_73 =>
    Rt Try.prog H.nx (.tup [r6_73, (.p (.int .i64 5))]) Q
    ) (S_wordhoardref_stepped_C2 a1 a2 Q H v3 v6)
def S_wordhoardref_stepped (a0 a1 a2 : AV) (Q : AV → AH → Prop) (H : AH) : Prop := (
    Rg 3 fun b =>
    Al (b + 0) (.bx 27) [a0] fun v3 =>
    Al (b + 1) (.nw 27 [.p (.int .i64 0), .p (.int .i64 0), .p (.int .i64 0), .p (.int .i64 0), .p (.slice none 0 0), .p (.slice none 0 0)]) [] fun v6 =>
    Pu Try.prog .len [a1] fun v16 =>
    Pu Try.prog (.bin .eql 3) [v16, (.p (.int .i64 0))] fun v17 =>
    CdA v17
      (
      RdS Try.prog (.ld 6 true) [v3] fun v18 =>
      Ca Try.prog (.fn (.func 33) [] []) [v18] fun v19 =>
      Pu Try.prog (.un .not) [v19] fun v20 =>
      CdA v20
        (
        Rg 3 fun b_9 =>
        Pu Try.prog (.bld [.p (.int .i64 0), .p (.int .i64 0), .p (.int .i64 0), .p (.int .i64 0), .p (.slice none 0 0), .p (.slice none 0 0)] []) [] fun v21 =>
        WrS Try.prog (b_9 + 1) (.st 6) [v6, v21] fun _ =>
        RdS Try.prog (.ld 6 true) [v6] fun r6 =>
        Rt Try.prog H.nx (.tup [r6, (.p (.int .i64 5))]) Q
        ) (S_wordhoardref_stepped_C1 a2 Q H v3 v6)
      ) (S_wordhoardref_stepped_C3 a1 a2 Q H v3 v6)
    ) H
theorem eq_wordhoardref_stepped (a0 a1 a2 : AV) (Q : AV → AH → Prop) (H : AH) : FnA Try.prog 100 (regsF Try.f34) ac_wordhoardref_stepped [.ce 6 27, .tm 7] [a0, a1, a2] H Q = S_wordhoardref_stepped a0 a1 a2 Q H := by kernel_rfl
theorem tri_wordhoardref_stepped {a0 a1 a2 : AV} {H : AH} {Q : AV → AH → Prop} (h : S_wordhoardref_stepped a0 a1 a2 Q H) : Tri Try.prog 34 [a0, a1, a2] H Q :=
  tri_of (Ms := [#[], #[], #[], #[], #[], #[0, 1, 3, 7, 15, 31, 63, 0, 128, 384, 896, 2047, 4095, 8191, 8191, 0, 49151, 131071], #[], #[], #[], #[0, 1, 3, 7, 15, 31, 63, 127, 31, 287, 799, 2047, 4095], #[], #[0, 1, 0, 4, 0, 16, 48, 124, 252, 511, 1023, 2047], #[0, 1, 0, 4, 12, 31, 63, 0, 128, 0, 0, 1536, 4095, 8191, 16383, 16383, 0, 98303, 262143], #[], #[], #[], #[0, 0, 2, 6, 0, 31, 63], #[], #[]]) mixed Try.func34 rfl (by kernel_rfl) (by kernel_rfl) rfl (of_decide_eq_true rfl : 3 ≤ 100) ((eq_wordhoardref_stepped a0 a1 a2 Q H).symm ▸ h : FnA Try.prog 100 (regsF Try.f34) ac_wordhoardref_stepped [.ce 6 27, .tm 7] [a0, a1, a2] H Q)

/-! wordhoard/wordhoardref.replaced -/
def ac_wordhoardref_replaced : AC := (.seq (.reg 0) (.seq (.seq (.reg 1) (.cond (.tmp 22) (.seq (.reg 2) (.seq (.reg 3) .ret)) .skip)) (.seq (.reg 4) (.seq (.seq (.reg 5) (.cond (.tmp 45) (.seq (.reg 6) .ret) .skip)) (.cut [] [(47, 60)] (.seq (.reg 7) (.cond (.tmp 55) (.reg 8) .skip)) (.cut [2] [(60, 65)] (.seq (.reg 9) (.cond (.tmp 62) (.reg 10) .skip)) (.seq (.reg 11) (.seq (.seq (.reg 12) (.block 0 (.loop [10, 11] [(9, 10), (12, 14), (65, 91)] (.seq (.seq (.reg 13) (.cond (.tmp 69) .skip (.exit 0))) (.seq (.block 1 (.seq (.reg 14) (.seq (.seq (.reg 15) (.cond (.tmp 85) (.seq (.reg 16) .ret) .skip)) (.reg 17)))) (.reg 18)))))) (.seq (.reg 19) (.seq (.reg 20) .ret))))))))))
def S_wordhoardref_replaced_C1 (a3 : AV) (Q : AV → AH → Prop) (H : AH) (v4 : AV) (v5 : AV) (v8 : AV) (vs_52 : List AV) (k_53 : List AV → AH → Prop) (vs_54 : List AV) : AH → Prop :=
  Rg 15 fun b_59 =>
  Vw fun V_60 =>
  Pu Try.prog (.addOff 5) [v4] fun v73 =>
  Rd Try.prog V_60 (.ld 1 false) [v73] fun v74 =>
  Pu Try.prog (.idx 6) [v74, (vs_54.getD 1 .any)] fun v76 =>
  Rd Try.prog V_60 (.ld 6 true) [v76] fun v77 =>
  Rd Try.prog V_60 (.ld 6 true) [v5] fun v78 =>
  CaP Try.prog V_60 b_59 [] (.fn (.func 47) [] []) [v77, v78, (vs_52.getD 0 .any), a3] fun v81 V_67 =>
  Pu Try.prog (.ext 0) [v81] fun v82 =>
  Pu Try.prog (.ext 1) [v81] fun v83 =>
  Al (b_59 + 12) (.nw 27 [.p (.int .i64 0), .p (.int .i64 0), .p (.int .i64 0), .p (.int .i64 0), .p (.slice none 0 0), .p (.slice none 0 0)]) [] fun v12 =>
  WrF V_67 (some (b_59 + 12)) none (b_59 + 13) (.st 6) [v12, v82] fun _ =>
  Pu Try.prog (.un .not) [v83] fun v85 =>
  CdA v85
    (
    Rg 3 fun b_73 =>
    RdS Try.prog (.ld 6 true) [v4] fun v86 =>
    WrS Try.prog (b_73 + 1) (.st 6) [v8, v86] fun _ =>
    RdS Try.prog (.ld 6 true) [v8] fun r8_76 =>
    Rt Try.prog H.nx (.tup [r8_76, (.p (.bool false))]) Q
    ) (
    Rg 5 fun b_77 =>
    RdS Try.prog (.ld 6 true) [v12] fun v88 =>
    Al (b_77 + 2) (.bs 27 6 1 [.p (.int .i64 0), .p (.int .i64 0), .p (.int .i64 0), .p (.int .i64 0), .p (.slice none 0 0), .p (.slice none 0 0)] [(0, 6)]) [v88] fun v89 =>
    WrS Try.prog (b_77 + 3) (.app 27 6 80) [(vs_54.getD 0 .any), v89] fun v90 =>
    Pu Try.prog (.bin .add 3) [(vs_54.getD 1 .any), (.p (.int .i64 1))] fun v71 =>
    k_53 [v90, v71]
    )
def S_wordhoardref_replaced_L2 (a3 : AV) (Q : AV → AH → Prop) (H : AH) (v4 : AV) (v5 : AV) (v8 : AV) (vs_52 : List AV) (vs_54 : List AV) (k_53 : List AV → AH → Prop) : AH → Prop :=
  Pu Try.prog (.addOff 5) [v4] fun v66 =>
  RdS Try.prog (.ld 1 false) [v66] fun v67 =>
  Pu Try.prog .len [v67] fun v68 =>
  Pu Try.prog (.bin .lss 3) [(vs_54.getD 1 .any), v68] fun v69 =>
  CdA v69
    (S_wordhoardref_replaced_C1 a3 Q H v4 v5 v8 vs_52 k_53 vs_54) (
    Rg 3 fun b_82 =>
    Pu Try.prog (.addOff 5) [v4] fun v92 =>
    WrS Try.prog (b_82 + 2) (.st 1) [v92, (vs_54.getD 0 .any)] fun _ =>
    Rg 3 fun b_85 =>
    RdS Try.prog (.ld 6 true) [v4] fun v93 =>
    WrS Try.prog (b_85 + 1) (.st 6) [v8, v93] fun _ =>
    RdS Try.prog (.ld 6 true) [v8] fun r8_88 =>
    Rt Try.prog H.nx (.tup [r8_88, (.p (.bool true))]) Q
    )
def S_wordhoardref_replaced_K3 (a3 : AV) (Q : AV → AH → Prop) (H : AH) (v4 : AV) (v5 : AV) (v8 : AV) (vs_52 : List AV) : AH → Prop :=
  LoopA Try.prog 2 (S_wordhoardref_replaced_L2 a3 Q H v4 v5 v8 vs_52) [(.p (.slice none 0 0)), (.p (.int .i64 0))]
def S_wordhoardref_replaced_K4 (a2 : AV) (a3 : AV) (Q : AV → AH → Prop) (H : AH) (v4 : AV) (v5 : AV) (v8 : AV) (_vs : List AV) : AH → Prop :=
  CutA Try.prog 1 (fun k_51 =>
    Pu Try.prog (.addOff 0) [v4] fun v60 =>
    RdS Try.prog (.ld 1 false) [v60] fun v61 =>
    Pu Try.prog (.bin .eql 3) [v61, (.p (.int .i64 3))] fun v62 =>
    CdA v62
      (
      Pu Try.prog (.bin .add 3) [a2, (.p (.int .i64 1))] fun v64 =>
      k_51 [v64]
      ) (
      k_51 [a2]
      )
    ) (S_wordhoardref_replaced_K3 a3 Q H v4 v5 v8)
def S_wordhoardref_replaced_C5 (a2 : AV) (a3 : AV) (Q : AV → AH → Prop) (H : AH) (v4 : AV) (v5 : AV) (v8 : AV) : AH → Prop :=
  Rg 6 fun b_36 =>
  Pu Try.prog .nilck [a3] fun v38 =>
  RdS Try.prog (.ld 1 false) [v38] fun v39 =>
  Pu Try.prog (.bin .sub 3) [v39, (.p (.int .i64 1))] fun v40 =>
  Pu Try.prog .nilck [a3] fun v41 =>
  WrS Try.prog (b_36 + 5) (.st 1) [v41, v40] fun _ =>
  Pu Try.prog .nilck [a3] fun v43 =>
  RdS Try.prog (.ld 1 false) [v43] fun v44 =>
  Pu Try.prog (.bin .lss 3) [v44, (.p (.int .i64 0))] fun v45 =>
  CdA v45
    (
    Rg 3 fun b_45 =>
    RdS Try.prog (.ld 6 true) [v4] fun v46 =>
    WrS Try.prog (b_45 + 1) (.st 6) [v8, v46] fun _ =>
    RdS Try.prog (.ld 6 true) [v8] fun r8_48 =>
    Rt Try.prog H.nx (.tup [r8_48, (.p (.bool false))]) Q
    ) (
    CutA Try.prog 0 (fun k_49 =>
      Pu Try.prog (.addOff 0) [v4] fun v47 =>
      RdS Try.prog (.ld 1 false) [v47] fun v48 =>
      Pu Try.prog (.bin .eql 3) [v48, (.p (.int .i64 1))] fun v49 =>
      Gd v49 true (fun k_97 => Pu Try.prog (.addOff 1) [v4] k_97) fun v51 =>
      Gd v49 true (fun k_99 => RdS Try.prog (.ld 1 false) [v51] k_99) fun v52 =>
      Gd v49 true (fun k_101 => k_101 a2) fun v53 =>
      Gd v49 true (fun k_103 => Pu Try.prog (.bin .gtr 3) [v52, v53] k_103) fun v54 =>
      Pu Try.prog .pick [v49, v54, (.p (.bool false))] fun v55 =>
      CdA v55
        (
        Rg 5 fun b_105 =>
        Pu Try.prog (.addOff 1) [v4] fun v56 =>
        RdS Try.prog (.ld 1 false) [v56] fun v57 =>
        Pu Try.prog (.bin .sub 3) [v57, (.p (.int .i64 1))] fun v58 =>
        Pu Try.prog (.addOff 1) [v4] fun v59 =>
        WrS Try.prog (b_105 + 4) (.st 1) [v59, v58] fun _ =>
        k_49 []
        ) (
        k_49 []
        )
      ) (S_wordhoardref_replaced_K4 a2 a3 Q H v4 v5 v8)
    )
def S_wordhoardref_replaced (a0 a1 a2 a3 : AV) (Q : AV → AH → Prop) (H : AH) : Prop := (
    Rg 4 fun b =>
    Al (b + 0) (.bx 27) [a0] fun v4 =>
    Al (b + 1) (.bx 27) [a1] fun v5 =>
    Al (b + 2) (.nw 27 [.p (.int .i64 0), .p (.int .i64 0), .p (.int .i64 0), .p (.int .i64 0), .p (.slice none 0 0), .p (.slice none 0 0)]) [] fun v8 =>
    Pu Try.prog (.addOff 0) [v4] fun v14 =>
    RdS Try.prog (.ld 1 false) [v14] fun v15 =>
    Pu Try.prog (.bin .eql 3) [v15, (.p (.int .i64 1))] fun v16 =>
    Gd v16 true (fun k => Pu Try.prog (.addOff 1) [v4] k) fun v18 =>
    Gd v16 true (fun k_11 => RdS Try.prog (.ld 1 false) [v18] k_11) fun v19 =>
    Gd v16 true (fun k_13 => k_13 a2) fun v20 =>
    Gd v16 true (fun k_15 => Pu Try.prog (.bin .eql 3) [v19, v20] k_15) fun v21 =>
    Pu Try.prog .pick [v16, v21, (.p (.bool false))] fun v22 =>
    CdA v22
      (
      Rg 8 fun b_17 =>
      Vw fun V =>
      Pu Try.prog .nilck [a3] fun v24 =>
      Rd Try.prog V (.ld 1 false) [v24] fun v25 =>
      Rd Try.prog V (.ld 6 true) [v5] fun v26 =>
      CaV Try.prog V (.fn (.func 27) [] []) [v26, (.p (.int .i64 400))] fun v27 =>
      Pu Try.prog (.bin .sub 3) [v25, v27] fun v28 =>
      Pu Try.prog .nilck [a3] fun v29 =>
      Wr Try.prog (b_17 + 7) (.st 1) [v29, v28] fun _ _ =>
      Rg 9 fun b_27 =>
      VwD fun V_28 =>
      Rd Try.prog V_28 (.ld 6 true) [v5] fun v30 =>
      CaV Try.prog V_28 (.fn (.func 58) [] []) [v30, a2, (.p (.int .i64 0))] fun v32 =>
      Pu Try.prog .nilck [a3] fun v34 =>
      Rd Try.prog V_28 (.ld 1 false) [v34] fun v35 =>
      Pu Try.prog (.bin .geq 3) [v35, (.p (.int .i64 0))] fun v36 =>
      WrO V_28 b_27 none (b_27 + 7) (.st 6) [v8, v32] fun _ =>
      RdS Try.prog (.ld 6 true) [v8] fun r8 =>
      Rt Try.prog H.nx (.tup [r8, v36]) Q
      ) (S_wordhoardref_replaced_C5 a2 a3 Q H v4 v5 v8)
    ) H
theorem eq_wordhoardref_replaced (a0 a1 a2 a3 : AV) (Q : AV → AH → Prop) (H : AH) : FnA Try.prog 94 (regsF Try.f47) ac_wordhoardref_replaced [.ce 8 27, .tm 9] [a0, a1, a2, a3] H Q = S_wordhoardref_replaced a0 a1 a2 a3 Q H := by kernel_rfl
theorem tri_wordhoardref_replaced {a0 a1 a2 a3 : AV} {H : AH} {Q : AV → AH → Prop} (h : S_wordhoardref_replaced a0 a1 a2 a3 Q H) : Tri Try.prog 47 [a0, a1, a2, a3] H Q :=
  tri_of (Ms := [#[], #[], #[0, 1, 3, 0, 8, 31, 63, 127], #[0, 0, 3, 0, 8, 24, 56, 7, 255], #[], #[], #[], #[], #[], #[], #[], #[], #[], #[], #[0, 1, 0, 7, 15, 0, 0, 0, 255, 511, 1023, 1023, 0, 6143, 16383], #[], #[], #[], #[], #[], #[]]) mixed Try.func47 rfl (by kernel_rfl) (by kernel_rfl) rfl (of_decide_eq_true rfl : 4 ≤ 94) ((eq_wordhoardref_replaced a0 a1 a2 a3 Q H).symm ▸ h : FnA Try.prog 94 (regsF Try.f47) ac_wordhoardref_replaced [.ce 8 27, .tm 9] [a0, a1, a2, a3] H Q)

/-! wordhoard/wordhoardref.lifted -/
def ac_wordhoardref_lifted : AC := (.seq (.reg 0) (.cut [] [(9, 23)] (.seq (.reg 1) (.cond (.tmp 17) (.reg 2) .skip)) (.cut [2] [(23, 28)] (.seq (.reg 3) (.cond (.tmp 25) (.reg 4) .skip)) (.seq (.reg 5) (.seq (.seq (.reg 6) (.block 0 (.loop [7, 8] [(28, 46)] (.seq (.seq (.reg 7) (.cond (.tmp 32) .skip (.exit 0))) (.seq (.block 1 (.reg 8)) (.reg 9)))))) (.seq (.reg 10) (.seq (.reg 11) .ret)))))))
def S_wordhoardref_lifted_L1 (a1 : AV) (Q : AV → AH → Prop) (H : AH) (v3 : AV) (v6 : AV) (vs_7 : List AV) (vs_9 : List AV) (k_8 : List AV → AH → Prop) : AH → Prop :=
  Pu Try.prog (.addOff 5) [v3] fun v29 =>
  RdS Try.prog (.ld 1 false) [v29] fun v30 =>
  Pu Try.prog .len [v30] fun v31 =>
  Pu Try.prog (.bin .lss 3) [(vs_9.getD 1 .any), v31] fun v32 =>
  CdA v32
    (
    Rg 12 fun b_14 =>
    Pu Try.prog (.addOff 5) [v3] fun v36 =>
    RdS Try.prog (.ld 1 false) [v36] fun v37 =>
    Pu Try.prog (.idx 6) [v37, (vs_9.getD 1 .any)] fun v39 =>
    RdS Try.prog (.ld 6 true) [v39] fun v40 =>
    Ca Try.prog (.fn (.func 58) [] []) [v40, a1, (vs_7.getD 0 .any)] fun v43 =>
    Al (b_14 + 9) (.bs 27 6 1 [.p (.int .i64 0), .p (.int .i64 0), .p (.int .i64 0), .p (.int .i64 0), .p (.slice none 0 0), .p (.slice none 0 0)] [(0, 6)]) [v43] fun v44 =>
    WrS Try.prog (b_14 + 10) (.app 27 6 80) [(vs_9.getD 0 .any), v44] fun v45 =>
    Pu Try.prog (.bin .add 3) [(vs_9.getD 1 .any), (.p (.int .i64 1))] fun v34 =>
    k_8 [v45, v34]
    ) (
    Rg 3 fun b_23 =>
    Pu Try.prog (.addOff 5) [v3] fun v47 =>
    WrS Try.prog (b_23 + 2) (.st 1) [v47, (vs_9.getD 0 .any)] fun _ =>
    Rg 2 fun b_26 =>
    RdS Try.prog (.ld 6 true) [v3] fun v48 =>
    WrS Try.prog (b_26 + 1) (.st 6) [v6, v48] fun _ =>
    RdS Try.prog (.ld 6 true) [v6] fun r6 =>
    Rt Try.prog H.nx r6 Q
    )
def S_wordhoardref_lifted_K2 (a1 : AV) (Q : AV → AH → Prop) (H : AH) (v3 : AV) (v6 : AV) (vs_7 : List AV) : AH → Prop :=
  LoopA Try.prog 2 (S_wordhoardref_lifted_L1 a1 Q H v3 v6 vs_7) [(.p (.slice none 0 0)), (.p (.int .i64 0))]
def S_wordhoardref_lifted_K3 (a1 : AV) (a2 : AV) (Q : AV → AH → Prop) (H : AH) (v3 : AV) (v6 : AV) (_vs : List AV) : AH → Prop :=
  CutA Try.prog 1 (fun k_6 =>
    Pu Try.prog (.addOff 0) [v3] fun v23 =>
    RdS Try.prog (.ld 1 false) [v23] fun v24 =>
    Pu Try.prog (.bin .eql 3) [v24, (.p (.int .i64 3))] fun v25 =>
    CdA v25
      (
      Pu Try.prog (.bin .add 3) [a2, (.p (.int .i64 1))] fun v27 =>
      k_6 [v27]
      ) (
      k_6 [a2]
      )
    ) (S_wordhoardref_lifted_K2 a1 Q H v3 v6)
def S_wordhoardref_lifted (a0 a1 a2 : AV) (Q : AV → AH → Prop) (H : AH) : Prop := (
    Rg 2 fun b =>
    Al (b + 0) (.bx 27) [a0] fun v3 =>
    Al (b + 1) (.nw 27 [.p (.int .i64 0), .p (.int .i64 0), .p (.int .i64 0), .p (.int .i64 0), .p (.slice none 0 0), .p (.slice none 0 0)]) [] fun v6 =>
    CutA Try.prog 0 (fun k =>
      Pu Try.prog (.addOff 0) [v3] fun v9 =>
      RdS Try.prog (.ld 1 false) [v9] fun v10 =>
      Pu Try.prog (.bin .eql 3) [v10, (.p (.int .i64 1))] fun v11 =>
      Gd v11 true (fun k_38 => Pu Try.prog (.addOff 1) [v3] k_38) fun v13 =>
      Gd v11 true (fun k_40 => RdS Try.prog (.ld 1 false) [v13] k_40) fun v14 =>
      Gd v11 true (fun k_42 => k_42 a2) fun v15 =>
      Gd v11 true (fun k_44 => Pu Try.prog (.bin .geq 3) [v14, v15] k_44) fun v16 =>
      Pu Try.prog .pick [v11, v16, (.p (.bool false))] fun v17 =>
      CdA v17
        (
        Rg 6 fun b_46 =>
        Pu Try.prog (.addOff 1) [v3] fun v18 =>
        RdS Try.prog (.ld 1 false) [v18] fun v19 =>
        Pu Try.prog (.bin .add 3) [v19, a1] fun v21 =>
        Pu Try.prog (.addOff 1) [v3] fun v22 =>
        WrS Try.prog (b_46 + 5) (.st 1) [v22, v21] fun _ =>
        k []
        ) (
        k []
        )
      ) (S_wordhoardref_lifted_K3 a1 a2 Q H v3 v6)
    ) H
theorem eq_wordhoardref_lifted (a0 a1 a2 : AV) (Q : AV → AH → Prop) (H : AH) : FnA Try.prog 49 (regsF Try.f58) ac_wordhoardref_lifted [.ce 6 27] [a0, a1, a2] H Q = S_wordhoardref_lifted a0 a1 a2 Q H := by kernel_rfl
theorem tri_wordhoardref_lifted {a0 a1 a2 : AV} {H : AH} {Q : AV → AH → Prop} (h : S_wordhoardref_lifted a0 a1 a2 Q H) : Tri Try.prog 58 [a0, a1, a2] H Q :=
  tri_of (Ms := [#[], #[], #[], #[], #[], #[], #[], #[], #[], #[], #[], #[]]) mixed Try.func58 rfl (by kernel_rfl) (by kernel_rfl) rfl (of_decide_eq_true rfl : 3 ≤ 49) ((eq_wordhoardref_lifted a0 a1 a2 Q H).symm ▸ h : FnA Try.prog 49 (regsF Try.f58) ac_wordhoardref_lifted [.ce 6 27] [a0, a1, a2] H Q)
end Go.Proofs.Ytkocpdekknfmaaa
