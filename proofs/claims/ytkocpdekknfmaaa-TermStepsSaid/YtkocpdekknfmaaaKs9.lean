/- Texts that the proof rests on, part 9: what each holds stands at its head. -/
import Derived.Test.YtkocpdekknfmaaaKs8

/- Abstract walks of functions, written by a program (wip/aw/aw.py): each equation is checked by the kernel. -/
namespace Go.Proofs.Ytkocpdekknfmaaa
open Go.RowKit

/-! slices.Clone[[]int,int] -/
def ac_slices_Clone_s_int_int : AC := (.seq (.reg 0) (.seq (.seq (.reg 1) (.cond (.tmp 4) (.seq (.reg 2) .ret) .skip)) (.seq (.reg 3) .ret)))
def S_slices_Clone_s_int_int (a0 : AV) (Q : AV → AH → Prop) (H : AH) : Prop := (
    Pu Try.prog (.bin .eql 35) [a0, (.p (.slice none 0 0))] fun v4 =>
    CdA v4
      (
      Rt Try.prog H.nx (.p (.slice none 0 0)) Q
      ) (
      Rg 4 fun b =>
      Al (b + 0) (.bs 3 1 0 [.p (.int .i64 0)] []) [] fun v5 =>
      WrS Try.prog (b + 2) (.app 3 1 8) [v5, a0] fun v7 =>
      Rt Try.prog H.nx v7 Q
      )
    ) H
theorem eq_slices_Clone_s_int_int (a0 : AV) (Q : AV → AH → Prop) (H : AH) : FnA Try.prog 8 (regsF Try.f32) ac_slices_Clone_s_int_int [.tm 2] [a0] H Q = S_slices_Clone_s_int_int a0 Q H := by kernel_rfl
theorem tri_slices_Clone_s_int_int {a0 : AV} {H : AH} {Q : AV → AH → Prop} (h : S_slices_Clone_s_int_int a0 Q H) : Tri Try.prog 32 [a0] H Q :=
  tri_of (Ms := [#[], #[], #[], #[]]) mixed Try.func32 rfl (by kernel_rfl) (by kernel_rfl) rfl (of_decide_eq_true rfl : 1 ≤ 8) ((eq_slices_Clone_s_int_int a0 Q H).symm ▸ h : FnA Try.prog 8 (regsF Try.f32) ac_slices_Clone_s_int_int [.tm 2] [a0] H Q)

/-! slices.Clone[[]wordhoard/api.Term,wordhoard/api.Term] -/
def ac_slices_Clone_s_api_Term_api_Term : AC := (.seq (.reg 0) (.seq (.seq (.reg 1) (.cond (.tmp 4) (.seq (.reg 2) .ret) .skip)) (.seq (.reg 3) .ret)))
def S_slices_Clone_s_api_Term_api_Term (a0 : AV) (Q : AV → AH → Prop) (H : AH) : Prop := (
    Pu Try.prog (.bin .eql 25) [a0, (.p (.slice none 0 0))] fun v4 =>
    CdA v4
      (
      Rt Try.prog H.nx (.p (.slice none 0 0)) Q
      ) (
      Rg 4 fun b =>
      Al (b + 0) (.bs 27 6 0 [.p (.int .i64 0), .p (.int .i64 0), .p (.int .i64 0), .p (.int .i64 0), .p (.slice none 0 0), .p (.slice none 0 0)] []) [] fun v5 =>
      WrS Try.prog (b + 2) (.app 27 6 80) [v5, a0] fun v7 =>
      Rt Try.prog H.nx v7 Q
      )
    ) H
theorem eq_slices_Clone_s_api_Term_api_Term (a0 : AV) (Q : AV → AH → Prop) (H : AH) : FnA Try.prog 8 (regsF Try.f46) ac_slices_Clone_s_api_Term_api_Term [.tm 2] [a0] H Q = S_slices_Clone_s_api_Term_api_Term a0 Q H := by kernel_rfl
theorem tri_slices_Clone_s_api_Term_api_Term {a0 : AV} {H : AH} {Q : AV → AH → Prop} (h : S_slices_Clone_s_api_Term_api_Term a0 Q H) : Tri Try.prog 46 [a0] H Q :=
  tri_of (Ms := [#[], #[], #[], #[]]) mixed Try.func46 rfl (by kernel_rfl) (by kernel_rfl) rfl (of_decide_eq_true rfl : 1 ≤ 8) ((eq_slices_Clone_s_api_Term_api_Term a0 Q H).symm ▸ h : FnA Try.prog 8 (regsF Try.f46) ac_slices_Clone_s_api_Term_api_Term [.tm 2] [a0] H Q)

/-! slices.Clone[[]wordhoard/api.Type,wordhoard/api.Type] -/
def ac_slices_Clone_s_api_Type_api_Type : AC := (.seq (.reg 0) (.seq (.seq (.reg 1) (.cond (.tmp 4) (.seq (.reg 2) .ret) .skip)) (.seq (.reg 3) .ret)))
def S_slices_Clone_s_api_Type_api_Type (a0 : AV) (Q : AV → AH → Prop) (H : AH) : Prop := (
    Pu Try.prog (.bin .eql 22) [a0, (.p (.slice none 0 0))] fun v4 =>
    CdA v4
      (
      Rt Try.prog H.nx (.p (.slice none 0 0)) Q
      ) (
      Rg 4 fun b =>
      Al (b + 0) (.bs 24 3 0 [.p (.int .i64 0), .p (.int .i64 0), .p (.slice none 0 0)] []) [] fun v5 =>
      WrS Try.prog (b + 2) (.app 24 3 40) [v5, a0] fun v7 =>
      Rt Try.prog H.nx v7 Q
      )
    ) H
theorem eq_slices_Clone_s_api_Type_api_Type (a0 : AV) (Q : AV → AH → Prop) (H : AH) : FnA Try.prog 8 (regsF Try.f48) ac_slices_Clone_s_api_Type_api_Type [.tm 2] [a0] H Q = S_slices_Clone_s_api_Type_api_Type a0 Q H := by kernel_rfl
theorem tri_slices_Clone_s_api_Type_api_Type {a0 : AV} {H : AH} {Q : AV → AH → Prop} (h : S_slices_Clone_s_api_Type_api_Type a0 Q H) : Tri Try.prog 48 [a0] H Q :=
  tri_of (Ms := [#[], #[], #[], #[]]) mixed Try.func48 rfl (by kernel_rfl) (by kernel_rfl) rfl (of_decide_eq_true rfl : 1 ≤ 8) ((eq_slices_Clone_s_api_Type_api_Type a0 Q H).symm ▸ h : FnA Try.prog 8 (regsF Try.f48) ac_slices_Clone_s_api_Type_api_Type [.tm 2] [a0] H Q)

/-! slices.EqualFunc[[]wordhoard/api.Type,[]wordhoard/api.Type,wordhoard/api.Type,wordhoard/api.Type] -/
def ac_slices_EqualFunc_s_api_Type_s_api_Type_api_Type_api_Type : AC := (.seq (.reg 0) (.seq (.seq (.reg 1) (.cond (.tmp 14) (.seq (.reg 2) .ret) .skip)) (.seq (.seq (.reg 3) (.block 0 (.loop [17] [(6, 10), (18, 32)] (.seq (.reg 4) (.seq (.cond (.tmp 18) .skip (.exit 0)) (.seq (.block 1 (.seq (.reg 5) (.seq (.reg 6) (.seq (.reg 7) (.cond (.tmp 30) (.seq (.reg 8) .ret) .skip))))) (.reg 9))))))) (.seq (.reg 10) .ret))))
def S_slices_EqualFunc_s_api_Type_s_api_Type_api_Type_api_Type_L1 (a0 : AV) (a1 : AV) (a2 : AV) (Q : AV → AH → Prop) (H : AH) (v16 : AV) (vs : List AV) (k : List AV → AH → Prop) : AH → Prop :=
  Pu Try.prog (.bin .lss 3) [(vs.getD 0 .any), v16] fun v18 =>
  CdA v18
    (
    Rg 6 fun b =>
    Pu Try.prog (.idx 3) [a0, (vs.getD 0 .any)] fun v20 =>
    RdS Try.prog (.ld 3 true) [v20] fun v21 =>
    Al (b + 3) (.nw 24 [.p (.int .i64 0), .p (.int .i64 0), .p (.slice none 0 0)]) [] fun v8 =>
    WrS Try.prog (b + 5) (.st 3) [v8, v21] fun _ =>
    Rg 6 fun b_13 =>
    Pu Try.prog (.idx 3) [a1, (vs.getD 0 .any)] fun v24 =>
    RdS Try.prog (.ld 3 true) [v24] fun v25 =>
    Al (b_13 + 4) (.nw 24 [.p (.int .i64 0), .p (.int .i64 0), .p (.slice none 0 0)]) [] fun v9 =>
    WrS Try.prog (b_13 + 5) (.st 3) [v9, v25] fun _ =>
    RdS Try.prog (.ld 3 true) [v8] fun v27 =>
    RdS Try.prog (.ld 3 true) [v9] fun v28 =>
    Ca Try.prog a2 [v27, v28] fun v29 =>
    Pu Try.prog (.un .not) [v29] fun v30 =>
    CdA v30
      (
      Rt Try.prog H.nx (.p (.bool false)) Q
      ) (
      Pu Try.prog (.bin .add 3) [(vs.getD 0 .any), (.p (.int .i64 1))] fun v31 =>
      k [v31]
      )
    ) (
    Rt Try.prog H.nx (.p (.bool true)) Q
    )
def S_slices_EqualFunc_s_api_Type_s_api_Type_api_Type_api_Type (a0 a1 a2 : AV) (Q : AV → AH → Prop) (H : AH) : Prop := (
    Pu Try.prog .len [a0] fun v11 =>
    Pu Try.prog .len [a1] fun v13 =>
    Pu Try.prog (.bin .neq 3) [v11, v13] fun v14 =>
    CdA v14
      (
      Rt Try.prog H.nx (.p (.bool false)) Q
      ) (
      Pu Try.prog .len [a0] fun v16 =>
      LoopA Try.prog 1 (S_slices_EqualFunc_s_api_Type_s_api_Type_api_Type_api_Type_L1 a0 a1 a2 Q H v16) [(.p (.int .i64 0))]
      )
    ) H
theorem eq_slices_EqualFunc_s_api_Type_s_api_Type_api_Type_api_Type (a0 a1 a2 : AV) (Q : AV → AH → Prop) (H : AH) : FnA Try.prog 32 (regsF Try.f59) ac_slices_EqualFunc_s_api_Type_s_api_Type_api_Type_api_Type [.tm 6] [a0, a1, a2] H Q = S_slices_EqualFunc_s_api_Type_s_api_Type_api_Type_api_Type a0 a1 a2 Q H := by kernel_rfl
theorem tri_slices_EqualFunc_s_api_Type_s_api_Type_api_Type_api_Type {a0 a1 a2 : AV} {H : AH} {Q : AV → AH → Prop} (h : S_slices_EqualFunc_s_api_Type_s_api_Type_api_Type_api_Type a0 a1 a2 Q H) : Tri Try.prog 59 [a0, a1, a2] H Q :=
  tri_of (Ms := [#[], #[], #[], #[], #[], #[], #[], #[], #[], #[], #[]]) mixed Try.func59 rfl (by kernel_rfl) (by kernel_rfl) rfl (of_decide_eq_true rfl : 3 ≤ 32) ((eq_slices_EqualFunc_s_api_Type_s_api_Type_api_Type_api_Type a0 a1 a2 Q H).symm ▸ h : FnA Try.prog 32 (regsF Try.f59) ac_slices_EqualFunc_s_api_Type_s_api_Type_api_Type_api_Type [.tm 6] [a0, a1, a2] H Q)

/-! wordhoard/deep.Count[wordhoard/api.Term] -/
def ac_deep_Count_api_Term : AC := (.seq (.reg 0) (.seq (.reg 1) (.seq (.seq (.reg 2) (.block 0 (.loop [7, 14] [(9, 10), (15, 30)] (.seq (.reg 3) (.seq (.cond (.tmp 15) .skip (.exit 0)) (.seq (.block 1 (.seq (.reg 4) (.seq (.seq (.reg 5) (.cond (.tmp 20) (.exit 0) .skip)) (.reg 6)))) (.reg 7))))))) (.seq (.reg 8) .ret))))
def S_deep_Count_api_Term_L1 (a1 : AV) (a2 : AV) (Q : AV → AH → Prop) (H : AH) (v12 : AV) (v13 : AV) (vs : List AV) (k : List AV → AH → Prop) : AH → Prop :=
  Pu Try.prog (.bin .lss 3) [(vs.getD 1 .any), v13] fun v15 =>
  CdA v15
    (
    Rg 4 fun b_9 =>
    Pu Try.prog (.idx 6) [v12, (vs.getD 1 .any)] fun v16 =>
    RdS Try.prog (.ld 6 true) [v16] fun v17 =>
    Al (b_9 + 2) (.nw 27 [.p (.int .i64 0), .p (.int .i64 0), .p (.int .i64 0), .p (.int .i64 0), .p (.slice none 0 0), .p (.slice none 0 0)]) [] fun v9 =>
    WrS Try.prog (b_9 + 3) (.st 6) [v9, v17] fun _ =>
    Pu Try.prog (.bin .gtr 3) [(vs.getD 0 .any), a2] fun v20 =>
    CdA v20
      (
      Rt Try.prog H.nx (vs.getD 0 .any) Q
      ) (
      RdS Try.prog (.ld 6 true) [v9] fun v22 =>
      Pu Try.prog (.bin .sub 3) [a2, (vs.getD 0 .any)] fun v26 =>
      Ca Try.prog (.fn (.func 50) [] []) [v22, a1, v26] fun v27 =>
      Pu Try.prog (.bin .add 3) [(vs.getD 0 .any), v27] fun v28 =>
      Pu Try.prog (.bin .add 3) [(vs.getD 1 .any), (.p (.int .i64 1))] fun v29 =>
      k [v28, v29]
      )
    ) (
    Rt Try.prog H.nx (vs.getD 0 .any) Q
    )
def S_deep_Count_api_Term (a0 a1 a2 : AV) (Q : AV → AH → Prop) (H : AH) : Prop := (
    Rg 2 fun b =>
    Al (b + 0) (.bx 27) [a0] fun v3 =>
    RdS Try.prog (.ld 6 true) [v3] fun v11 =>
    Ca Try.prog a1 [v11] fun v12 =>
    Pu Try.prog .len [v12] fun v13 =>
    LoopA Try.prog 2 (S_deep_Count_api_Term_L1 a1 a2 Q H v12 v13) [(.p (.int .i64 1)), (.p (.int .i64 0))]
    ) H
theorem eq_deep_Count_api_Term (a0 a1 a2 : AV) (Q : AV → AH → Prop) (H : AH) : FnA Try.prog 31 (regsF Try.f50) ac_deep_Count_api_Term [.tm 6] [a0, a1, a2] H Q = S_deep_Count_api_Term a0 a1 a2 Q H := by kernel_rfl
theorem tri_deep_Count_api_Term {a0 a1 a2 : AV} {H : AH} {Q : AV → AH → Prop} (h : S_deep_Count_api_Term a0 a1 a2 Q H) : Tri Try.prog 50 [a0, a1, a2] H Q :=
  tri_of (Ms := [#[], #[], #[], #[], #[], #[], #[], #[], #[]]) mixed Try.func50 rfl (by kernel_rfl) (by kernel_rfl) rfl (of_decide_eq_true rfl : 3 ≤ 31) ((eq_deep_Count_api_Term a0 a1 a2 Q H).symm ▸ h : FnA Try.prog 31 (regsF Try.f50) ac_deep_Count_api_Term [.tm 6] [a0, a1, a2] H Q)

/-! wordhoard/deep.Count[wordhoard/api.Type] -/
def ac_deep_Count_api_Type : AC := (.seq (.reg 0) (.seq (.reg 1) (.seq (.seq (.reg 2) (.block 0 (.loop [7, 14] [(9, 10), (15, 30)] (.seq (.reg 3) (.seq (.cond (.tmp 15) .skip (.exit 0)) (.seq (.block 1 (.seq (.reg 4) (.seq (.seq (.reg 5) (.cond (.tmp 20) (.exit 0) .skip)) (.reg 6)))) (.reg 7))))))) (.seq (.reg 8) .ret))))
def S_deep_Count_api_Type_L1 (a1 : AV) (a2 : AV) (Q : AV → AH → Prop) (H : AH) (v12 : AV) (v13 : AV) (vs : List AV) (k : List AV → AH → Prop) : AH → Prop :=
  Pu Try.prog (.bin .lss 3) [(vs.getD 1 .any), v13] fun v15 =>
  CdA v15
    (
    Rg 4 fun b_9 =>
    Pu Try.prog (.idx 3) [v12, (vs.getD 1 .any)] fun v16 =>
    RdS Try.prog (.ld 3 true) [v16] fun v17 =>
    Al (b_9 + 2) (.nw 24 [.p (.int .i64 0), .p (.int .i64 0), .p (.slice none 0 0)]) [] fun v9 =>
    WrS Try.prog (b_9 + 3) (.st 3) [v9, v17] fun _ =>
    Pu Try.prog (.bin .gtr 3) [(vs.getD 0 .any), a2] fun v20 =>
    CdA v20
      (
      Rt Try.prog H.nx (vs.getD 0 .any) Q
      ) (
      RdS Try.prog (.ld 3 true) [v9] fun v22 =>
      Pu Try.prog (.bin .sub 3) [a2, (vs.getD 0 .any)] fun v26 =>
      Ca Try.prog (.fn (.func 52) [] []) [v22, a1, v26] fun v27 =>
      Pu Try.prog (.bin .add 3) [(vs.getD 0 .any), v27] fun v28 =>
      Pu Try.prog (.bin .add 3) [(vs.getD 1 .any), (.p (.int .i64 1))] fun v29 =>
      k [v28, v29]
      )
    ) (
    Rt Try.prog H.nx (vs.getD 0 .any) Q
    )
def S_deep_Count_api_Type (a0 a1 a2 : AV) (Q : AV → AH → Prop) (H : AH) : Prop := (
    Rg 2 fun b =>
    Al (b + 0) (.bx 24) [a0] fun v3 =>
    RdS Try.prog (.ld 3 true) [v3] fun v11 =>
    Ca Try.prog a1 [v11] fun v12 =>
    Pu Try.prog .len [v12] fun v13 =>
    LoopA Try.prog 2 (S_deep_Count_api_Type_L1 a1 a2 Q H v12 v13) [(.p (.int .i64 1)), (.p (.int .i64 0))]
    ) H
theorem eq_deep_Count_api_Type (a0 a1 a2 : AV) (Q : AV → AH → Prop) (H : AH) : FnA Try.prog 31 (regsF Try.f52) ac_deep_Count_api_Type [.tm 6] [a0, a1, a2] H Q = S_deep_Count_api_Type a0 a1 a2 Q H := by kernel_rfl
theorem tri_deep_Count_api_Type {a0 a1 a2 : AV} {H : AH} {Q : AV → AH → Prop} (h : S_deep_Count_api_Type a0 a1 a2 Q H) : Tri Try.prog 52 [a0, a1, a2] H Q :=
  tri_of (Ms := [#[], #[], #[], #[], #[], #[], #[], #[], #[]]) mixed Try.func52 rfl (by kernel_rfl) (by kernel_rfl) rfl (of_decide_eq_true rfl : 3 ≤ 31) ((eq_deep_Count_api_Type a0 a1 a2 Q H).symm ▸ h : FnA Try.prog 31 (regsF Try.f52) ac_deep_Count_api_Type [.tm 6] [a0, a1, a2] H Q)

/-! wordhoard/term.Check -/
def ac_term_Check : AC := (.seq (.reg 0) (.seq (.seq (.reg 1) (.cond (.tmp 5) (.seq (.reg 2) .ret) .skip)) (.seq (.reg 3) .ret)))
def S_term_Check (a0 : AV) (Q : AV → AH → Prop) (H : AH) : Prop := (
    Rg 2 fun b =>
    Al (b + 0) (.bx 27) [a0] fun v1 =>
    RdS Try.prog (.ld 6 true) [v1] fun v3 =>
    Ca Try.prog (.fn (.func 38) [] []) [v3, (.p (.int .i64 400))] fun v4 =>
    Pu Try.prog (.bin .gtr 3) [v4, (.p (.int .i64 400))] fun v5 =>
    CdA v5
      (
      Rt Try.prog H.nx (.p (.int .i64 7)) Q
      ) (
      RdS Try.prog (.ld 6 true) [v1] fun v6 =>
      Ca Try.prog (.fn (.func 39) [] []) [v6] fun v7 =>
      Rt Try.prog H.nx v7 Q
      )
    ) H
theorem eq_term_Check (a0 : AV) (Q : AV → AH → Prop) (H : AH) : FnA Try.prog 8 (regsF Try.f19) ac_term_Check [.tm 2] [a0] H Q = S_term_Check a0 Q H := by kernel_rfl
theorem tri_term_Check {a0 : AV} {H : AH} {Q : AV → AH → Prop} (h : S_term_Check a0 Q H) : Tri Try.prog 19 [a0] H Q :=
  tri_of (Ms := [#[], #[], #[], #[]]) mixed Try.func19 rfl (by kernel_rfl) (by kernel_rfl) rfl (of_decide_eq_true rfl : 1 ≤ 8) ((eq_term_Check a0 Q H).symm ▸ h : FnA Try.prog 8 (regsF Try.f19) ac_term_Check [.tm 2] [a0] H Q)

/-! wordhoard/term.CheckType -/
def ac_term_CheckType : AC := (.seq (.reg 0) (.seq (.seq (.reg 1) (.cond (.tmp 5) (.seq (.reg 2) .ret) .skip)) (.seq (.reg 3) .ret)))
def S_term_CheckType (a0 : AV) (Q : AV → AH → Prop) (H : AH) : Prop := (
    Rg 2 fun b =>
    Al (b + 0) (.bx 24) [a0] fun v1 =>
    RdS Try.prog (.ld 3 true) [v1] fun v3 =>
    Ca Try.prog (.fn (.func 40) [] []) [v3, (.p (.int .i64 60))] fun v4 =>
    Pu Try.prog (.bin .gtr 3) [v4, (.p (.int .i64 60))] fun v5 =>
    CdA v5
      (
      Rt Try.prog H.nx (.p (.int .i64 7)) Q
      ) (
      RdS Try.prog (.ld 3 true) [v1] fun v6 =>
      Ca Try.prog (.fn (.func 41) [] []) [v6] fun v7 =>
      Rt Try.prog H.nx v7 Q
      )
    ) H
theorem eq_term_CheckType (a0 : AV) (Q : AV → AH → Prop) (H : AH) : FnA Try.prog 8 (regsF Try.f21) ac_term_CheckType [.tm 2] [a0] H Q = S_term_CheckType a0 Q H := by kernel_rfl
theorem tri_term_CheckType {a0 : AV} {H : AH} {Q : AV → AH → Prop} (h : S_term_CheckType a0 Q H) : Tri Try.prog 21 [a0] H Q :=
  tri_of (Ms := [#[], #[], #[], #[]]) mixed Try.func21 rfl (by kernel_rfl) (by kernel_rfl) rfl (of_decide_eq_true rfl : 1 ≤ 8) ((eq_term_CheckType a0 Q H).symm ▸ h : FnA Try.prog 8 (regsF Try.f21) ac_term_CheckType [.tm 2] [a0] H Q)

/-! wordhoard/term.isSpot -/
def ac_term_isSpot : AC := (.seq (.reg 0) (.seq (.reg 1) .ret))
def S_term_isSpot (a0 : AV) (Q : AV → AH → Prop) (H : AH) : Prop := (
    Rg 2 fun b =>
    Al (b + 0) (.bx 27) [a0] fun v1 =>
    Pu Try.prog (.addOff 0) [v1] fun v3 =>
    RdS Try.prog (.ld 1 false) [v3] fun v4 =>
    Pu Try.prog (.bin .eql 3) [v4, (.p (.int .i64 4))] fun v5 =>
    Gd v5 true (fun k => Pu Try.prog (.addOff 5) [v1] k) fun v7 =>
    Gd v5 true (fun k_9 => RdS Try.prog (.ld 1 false) [v7] k_9) fun v8 =>
    Gd v5 true (fun k_11 => Pu Try.prog (.idx 6) [v8, (.p (.int .i64 0))] k_11) fun v9 =>
    Gd v5 true (fun k_13 => Pu Try.prog (.addOff 0) [v9] k_13) fun v10 =>
    Gd v5 true (fun k_15 => RdS Try.prog (.ld 1 false) [v10] k_15) fun v11 =>
    Gd v5 true (fun k_17 => Pu Try.prog (.bin .eql 3) [v11, (.p (.int .i64 3))] k_17) fun v12 =>
    Pu Try.prog .pick [v5, v12, (.p (.bool false))] fun v13 =>
    Rt Try.prog H.nx v13 Q
    ) H
theorem eq_term_isSpot (a0 : AV) (Q : AV → AH → Prop) (H : AH) : FnA Try.prog 14 (regsF Try.f31) ac_term_isSpot [.tm 2] [a0] H Q = S_term_isSpot a0 Q H := by kernel_rfl
theorem tri_term_isSpot {a0 : AV} {H : AH} {Q : AV → AH → Prop} (h : S_term_isSpot a0 Q H) : Tri Try.prog 31 [a0] H Q :=
  tri_of (Ms := [#[], #[]]) mixed Try.func31 rfl (by kernel_rfl) (by kernel_rfl) rfl (of_decide_eq_true rfl : 1 ≤ 14) ((eq_term_isSpot a0 Q H).symm ▸ h : FnA Try.prog 14 (regsF Try.f31) ac_term_isSpot [.tm 2] [a0] H Q)

/-! wordhoard/term.copiedType -/
def ac_term_copiedType : AC := (.seq (.reg 0) (.seq (.reg 1) (.seq (.seq (.reg 2) (.block 0 (.loop [3, 9] [(5, 6), (10, 19)] (.seq (.reg 3) (.seq (.cond (.tmp 10) .skip (.exit 0)) (.seq (.block 1 (.seq (.reg 4) (.reg 5))) (.reg 6))))))) (.seq (.reg 7) (.seq (.reg 8) .ret)))))
def S_term_copiedType_L1 (Q : AV → AH → Prop) (H : AH) (v1 : AV) (v2 : AV) (v7 : AV) (v8 : AV) (vs : List AV) (k : List AV → AH → Prop) : AH → Prop :=
  Pu Try.prog (.bin .lss 3) [(vs.getD 1 .any), v8] fun v10 =>
  CdA v10
    (
    Rg 4 fun b_10 =>
    Pu Try.prog (.idx 3) [v7, (vs.getD 1 .any)] fun v11 =>
    RdS Try.prog (.ld 3 true) [v11] fun v12 =>
    Al (b_10 + 2) (.nw 24 [.p (.int .i64 0), .p (.int .i64 0), .p (.slice none 0 0)]) [] fun v5 =>
    WrS Try.prog (b_10 + 3) (.st 3) [v5, v12] fun _ =>
    Rg 6 fun b_15 =>
    RdS Try.prog (.ld 3 true) [v5] fun v14 =>
    Ca Try.prog (.fn (.func 36) [] []) [v14] fun v15 =>
    Al (b_15 + 3) (.bs 24 3 1 [.p (.int .i64 0), .p (.int .i64 0), .p (.slice none 0 0)] [(0, 3)]) [v15] fun v16 =>
    WrS Try.prog (b_15 + 4) (.app 24 3 40) [(vs.getD 0 .any), v16] fun v17 =>
    Pu Try.prog (.bin .add 3) [(vs.getD 1 .any), (.p (.int .i64 1))] fun v18 =>
    k [v17, v18]
    ) (
    Rg 3 fun b_21 =>
    Pu Try.prog (.addOff 2) [v1] fun v20 =>
    WrS Try.prog (b_21 + 2) (.st 1) [v20, (vs.getD 0 .any)] fun _ =>
    Rg 2 fun b_24 =>
    RdS Try.prog (.ld 3 true) [v1] fun v21 =>
    WrS Try.prog (b_24 + 1) (.st 3) [v2, v21] fun _ =>
    RdS Try.prog (.ld 3 true) [v2] fun r2 =>
    Rt Try.prog H.nx r2 Q
    )
def S_term_copiedType (a0 : AV) (Q : AV → AH → Prop) (H : AH) : Prop := (
    Rg 2 fun b =>
    Al (b + 0) (.bx 24) [a0] fun v1 =>
    Al (b + 1) (.nw 24 [.p (.int .i64 0), .p (.int .i64 0), .p (.slice none 0 0)]) [] fun v2 =>
    Pu Try.prog (.addOff 2) [v1] fun v6 =>
    RdS Try.prog (.ld 1 false) [v6] fun v7 =>
    Pu Try.prog .len [v7] fun v8 =>
    LoopA Try.prog 2 (S_term_copiedType_L1 Q H v1 v2 v7 v8) [(.p (.slice none 0 0)), (.p (.int .i64 0))]
    ) H
theorem eq_term_copiedType (a0 : AV) (Q : AV → AH → Prop) (H : AH) : FnA Try.prog 22 (regsF Try.f36) ac_term_copiedType [.ce 2 24] [a0] H Q = S_term_copiedType a0 Q H := by kernel_rfl
theorem tri_term_copiedType {a0 : AV} {H : AH} {Q : AV → AH → Prop} (h : S_term_copiedType a0 Q H) : Tri Try.prog 36 [a0] H Q :=
  tri_of (Ms := [#[], #[], #[], #[], #[], #[], #[], #[], #[]]) mixed Try.func36 rfl (by kernel_rfl) (by kernel_rfl) rfl (of_decide_eq_true rfl : 1 ≤ 22) ((eq_term_copiedType a0 Q H).symm ▸ h : FnA Try.prog 22 (regsF Try.f36) ac_term_copiedType [.ce 2 24] [a0] H Q)

/-! wordhoard/term.size -/
def ac_term_size : AC := (.seq (.reg 0) (.seq (.reg 1) .ret))
def S_term_size (a0 a1 : AV) (Q : AV → AH → Prop) (H : AH) : Prop := (
    Rg 2 fun b =>
    Al (b + 0) (.bx 27) [a0] fun v2 =>
    RdS Try.prog (.ld 6 true) [v2] fun v5 =>
    Ca Try.prog (.fn (.func 50) [] []) [v5, (.fn (.func 51) [] []), a1] fun v7 =>
    Rt Try.prog H.nx v7 Q
    ) H
theorem eq_term_size (a0 a1 : AV) (Q : AV → AH → Prop) (H : AH) : FnA Try.prog 8 (regsF Try.f38) ac_term_size [.tm 4] [a0, a1] H Q = S_term_size a0 a1 Q H := by kernel_rfl
theorem tri_term_size {a0 a1 : AV} {H : AH} {Q : AV → AH → Prop} (h : S_term_size a0 a1 Q H) : Tri Try.prog 38 [a0, a1] H Q :=
  tri_of (Ms := [#[], #[]]) mixed Try.func38 rfl (by kernel_rfl) (by kernel_rfl) rfl (of_decide_eq_true rfl : 2 ≤ 8) ((eq_term_size a0 a1 Q H).symm ▸ h : FnA Try.prog 8 (regsF Try.f38) ac_term_size [.tm 4] [a0, a1] H Q)

/-! wordhoard/term.check -/
def ac_term_check : AC := (.seq (.reg 0) (.seq (.seq (.reg 1) (.cond (.tmp 16) (.seq (.reg 2) .ret) .skip)) (.seq (.reg 3) (.seq (.seq (.reg 4) (.cond (.tmp 26) (.seq (.reg 5) .ret) .skip)) (.seq (.reg 6) (.seq (.seq (.reg 7) (.cond (.tmp 65) (.seq (.reg 8) .ret) .skip)) (.cut [] [(2, 3), (5, 6), (66, 75)] (.seq (.reg 9) (.cond (.tmp 68) (.seq (.reg 10) (.seq (.reg 11) (.cond (.tmp 73) (.seq (.reg 12) .ret) .skip))) .skip)) (.seq (.seq (.reg 13) (.block 0 (.loop [78] [(2, 3), (7, 9), (79, 88)] (.seq (.reg 14) (.seq (.cond (.tmp 79) .skip (.exit 0)) (.seq (.block 1 (.seq (.reg 15) (.seq (.reg 16) (.seq (.reg 17) (.cond (.tmp 85) (.seq (.reg 18) .ret) .skip))))) (.reg 19))))))) (.seq (.reg 20) .ret)))))))))
def S_term_check_L1 (Q : AV → AH → Prop) (H : AH) (v76 : AV) (v77 : AV) (vs_87 : List AV) (k_86 : List AV → AH → Prop) : AH → Prop :=
  Pu Try.prog (.bin .lss 3) [(vs_87.getD 0 .any), v77] fun v79 =>
  CdA v79
    (
    Rg 4 fun b_89 =>
    Pu Try.prog (.idx 6) [v76, (vs_87.getD 0 .any)] fun v80 =>
    RdS Try.prog (.ld 6 true) [v80] fun v81 =>
    Al (b_89 + 2) (.nw 27 [.p (.int .i64 0), .p (.int .i64 0), .p (.int .i64 0), .p (.int .i64 0), .p (.slice none 0 0), .p (.slice none 0 0)]) [] fun v7 =>
    WrS Try.prog (b_89 + 3) (.st 6) [v7, v81] fun _ =>
    RdS Try.prog (.ld 6 true) [v7] fun v82 =>
    Ca Try.prog (.fn (.func 39) [] []) [v82] fun v83 =>
    Pu Try.prog (.bin .neq 28) [v83, (.p (.int .i64 0))] fun v85 =>
    CdA v85
      (
      Rt Try.prog H.nx v83 Q
      ) (
      Pu Try.prog (.bin .add 3) [(vs_87.getD 0 .any), (.p (.int .i64 1))] fun v87 =>
      k_86 [v87]
      )
    ) (
    Rt Try.prog H.nx (.p (.int .i64 0)) Q
    )
def S_term_check_K2 (Q : AV → AH → Prop) (H : AH) (v1 : AV) (_vs : List AV) : AH → Prop :=
  Pu Try.prog (.addOff 5) [v1] fun v75 =>
  RdS Try.prog (.ld 1 false) [v75] fun v76 =>
  Pu Try.prog .len [v76] fun v77 =>
  LoopA Try.prog 1 (S_term_check_L1 Q H v76 v77) [(.p (.int .i64 0))]
def S_term_check_C3 (Q : AV → AH → Prop) (H : AH) (v1 : AV) : AH → Prop :=
  Pu Try.prog (.addOff 2) [v1] fun v27 =>
  Pu Try.prog (.addOff 0) [v27] fun v28 =>
  RdS Try.prog (.ld 1 false) [v28] fun v29 =>
  Pu Try.prog (.bin .eql 3) [v29, (.p (.int .i64 0))] fun v30 =>
  Gd v30 true (fun k_27 => Pu Try.prog (.addOff 2) [v1] k_27) fun v32 =>
  Gd v30 true (fun k_29 => Pu Try.prog (.addOff 1) [v32] k_29) fun v33 =>
  Gd v30 true (fun k_31 => RdS Try.prog (.ld 1 false) [v33] k_31) fun v34 =>
  Gd v30 true (fun k_33 => Pu Try.prog (.bin .eql 3) [v34, (.p (.int .i64 0))] k_33) fun v35 =>
  Pu Try.prog .pick [v30, v35, (.p (.bool false))] fun v36 =>
  Gd v36 true (fun k_36 => Pu Try.prog (.addOff 2) [v1] k_36) fun v38 =>
  Gd v36 true (fun k_38 => Pu Try.prog (.addOff 2) [v38] k_38) fun v39 =>
  Gd v36 true (fun k_40 => RdS Try.prog (.ld 1 false) [v39] k_40) fun v40 =>
  Gd v36 true (fun k_42 => Pu Try.prog .len [v40] k_42) fun v41 =>
  Gd v36 true (fun k_44 => Pu Try.prog (.bin .eql 3) [v41, (.p (.int .i64 0))] k_44) fun v42 =>
  Pu Try.prog .pick [v36, v42, (.p (.bool false))] fun v43 =>
  Pu Try.prog (.addOff 1) [v1] fun v44 =>
  RdS Try.prog (.ld 1 false) [v44] fun v45 =>
  Pu Try.prog (.bin .lss 3) [v45, (.p (.int .i64 0))] fun v46 =>
  Gd v46 false (fun k_50 => Pu Try.prog (.addOff 1) [v1] k_50) fun v48 =>
  Gd v46 false (fun k_52 => RdS Try.prog (.ld 1 false) [v48] k_52) fun v49 =>
  Gd v46 false (fun k_54 => Pu Try.prog (.bin .gtr 3) [v49, (.p (.int .i64 0))] k_54) fun v50 =>
  Gd v46 false (fun k_56 => k_56 v50) fun v51 =>
  Gd v51 true (fun k_58 => Pu Try.prog (.addOff 0) [v1] k_58) fun v52 =>
  Gd v51 true (fun k_60 => RdS Try.prog (.ld 1 false) [v52] k_60) fun v53 =>
  Gd v51 true (fun k_62 => Pu Try.prog (.bin .geq 3) [v53, (.p (.int .i64 3))] k_62) fun v54 =>
  Gd v46 false (fun k_64 => Pu Try.prog .pick [v51, v54, (.p (.bool false))] k_64) fun v55 =>
  Pu Try.prog .pick [v46, (.p (.bool true)), v55] fun v56 =>
  Gd v56 false (fun k_67 => k_67 v43) fun v58 =>
  Gd v56 false (fun k_69 => Pu Try.prog (.un .not) [v58] k_69) fun v59 =>
  Gd v56 false (fun k_71 => k_71 v59) fun v60 =>
  Gd v60 true (fun k_73 => Pu Try.prog (.addOff 0) [v1] k_73) fun v61 =>
  Gd v60 true (fun k_75 => RdS Try.prog (.ld 1 false) [v61] k_75) fun v62 =>
  Gd v60 true (fun k_77 => Pu Try.prog (.bin .neq 3) [v62, (.p (.int .i64 3))] k_77) fun v63 =>
  Gd v56 false (fun k_79 => Pu Try.prog .pick [v60, v63, (.p (.bool false))] k_79) fun v64 =>
  Pu Try.prog .pick [v56, (.p (.bool true)), v64] fun v65 =>
  CdA v65
    (
    Rt Try.prog H.nx (.p (.int .i64 3)) Q
    ) (
    CutA Try.prog 0 (fun k_81 =>
      Pu Try.prog (.addOff 0) [v1] fun v66 =>
      RdS Try.prog (.ld 1 false) [v66] fun v67 =>
      Pu Try.prog (.bin .eql 3) [v67, (.p (.int .i64 3))] fun v68 =>
      CdA v68
        (
        Pu Try.prog (.addOff 2) [v1] fun v69 =>
        RdS Try.prog (.ld 3 true) [v69] fun v70 =>
        Ca Try.prog (.fn (.func 21) [] []) [v70] fun v71 =>
        Pu Try.prog (.bin .neq 28) [v71, (.p (.int .i64 0))] fun v73 =>
        CdA v73
          (
          Rt Try.prog H.nx v71 Q
          ) (
          k_81 []
          )
        ) (
        k_81 []
        )
      ) (S_term_check_K2 Q H v1)
    )
def S_term_check (a0 : AV) (Q : AV → AH → Prop) (H : AH) : Prop := (
    Rg 2 fun b =>
    Al (b + 0) (.bx 27) [a0] fun v1 =>
    Pu Try.prog (.addOff 0) [v1] fun v9 =>
    RdS Try.prog (.ld 1 false) [v9] fun v10 =>
    Pu Try.prog (.bin .lss 3) [v10, (.p (.int .i64 1))] fun v11 =>
    Gd v11 false (fun k => Pu Try.prog (.addOff 0) [v1] k) fun v13 =>
    Gd v11 false (fun k_9 => RdS Try.prog (.ld 1 false) [v13] k_9) fun v14 =>
    Gd v11 false (fun k_11 => Pu Try.prog (.bin .gtr 3) [v14, (.p (.int .i64 4))] k_11) fun v15 =>
    Pu Try.prog .pick [v11, (.p (.bool true)), v15] fun v16 =>
    CdA v16
      (
      Rt Try.prog H.nx (.p (.int .i64 4)) Q
      ) (
      Pu Try.prog (.bld [.p (.int .i64 0), .p (.int .i64 0), .p (.int .i64 0), .p (.int .i64 0)] [(0, 1), (1, 1), (2, 1), (3, 1)]) [(.p (.int .i64 0)), (.p (.int .i64 0)), (.p (.int .i64 1)), (.p (.int .i64 2))] fun v17 =>
      Pu Try.prog (.addOff 0) [v1] fun v18 =>
      RdS Try.prog (.ld 1 false) [v18] fun v19 =>
      Pu Try.prog (.bin .sub 3) [v19, (.p (.int .i64 1))] fun v20 =>
      Pu Try.prog (.vidx 4 1 false) [v17, v20] fun v21 =>
      Pu Try.prog (.addOff 5) [v1] fun v22 =>
      RdS Try.prog (.ld 1 false) [v22] fun v23 =>
      Pu Try.prog .len [v23] fun v24 =>
      Pu Try.prog (.bin .neq 3) [v24, v21] fun v26 =>
      CdA v26
        (
        Rt Try.prog H.nx (.p (.int .i64 1)) Q
        ) (S_term_check_C3 Q H v1)
      )
    ) H
theorem eq_term_check (a0 : AV) (Q : AV → AH → Prop) (H : AH) : FnA Try.prog 88 (regsF Try.f39) ac_term_check [.tm 2] [a0] H Q = S_term_check a0 Q H := by kernel_rfl
theorem tri_term_check {a0 : AV} {H : AH} {Q : AV → AH → Prop} (h : S_term_check a0 Q H) : Tri Try.prog 39 [a0] H Q :=
  tri_of (Ms := [#[], #[], #[], #[], #[], #[], #[], #[], #[], #[], #[], #[], #[], #[], #[], #[], #[], #[], #[], #[], #[]]) mixed Try.func39 rfl (by kernel_rfl) (by kernel_rfl) rfl (of_decide_eq_true rfl : 1 ≤ 88) ((eq_term_check a0 Q H).symm ▸ h : FnA Try.prog 88 (regsF Try.f39) ac_term_check [.tm 2] [a0] H Q)

/-! wordhoard/term.typeSize -/
def ac_term_typeSize : AC := (.seq (.reg 0) (.seq (.reg 1) .ret))
def S_term_typeSize (a0 a1 : AV) (Q : AV → AH → Prop) (H : AH) : Prop := (
    Rg 2 fun b =>
    Al (b + 0) (.bx 24) [a0] fun v2 =>
    RdS Try.prog (.ld 3 true) [v2] fun v5 =>
    Ca Try.prog (.fn (.func 52) [] []) [v5, (.fn (.func 53) [] []), a1] fun v7 =>
    Rt Try.prog H.nx v7 Q
    ) H
theorem eq_term_typeSize (a0 a1 : AV) (Q : AV → AH → Prop) (H : AH) : FnA Try.prog 8 (regsF Try.f40) ac_term_typeSize [.tm 4] [a0, a1] H Q = S_term_typeSize a0 a1 Q H := by kernel_rfl
theorem tri_term_typeSize {a0 a1 : AV} {H : AH} {Q : AV → AH → Prop} (h : S_term_typeSize a0 a1 Q H) : Tri Try.prog 40 [a0, a1] H Q :=
  tri_of (Ms := [#[], #[]]) mixed Try.func40 rfl (by kernel_rfl) (by kernel_rfl) rfl (of_decide_eq_true rfl : 2 ≤ 8) ((eq_term_typeSize a0 a1 Q H).symm ▸ h : FnA Try.prog 8 (regsF Try.f40) ac_term_typeSize [.tm 4] [a0, a1] H Q)

/-! wordhoard/term.checkType -/
def ac_term_checkType : AC := (.seq (.reg 0) (.seq (.block 0 (.seq (.reg 1) (.cond (.tmp 6) (.seq (.reg 2) .ret) (.seq (.reg 3) (.cond (.tmp 15) (.seq (.reg 4) .ret) (.seq (.reg 5) (.cond (.tmp 24) (.seq (.reg 6) .ret) .skip))))))) (.seq (.seq (.reg 7) (.block 1 (.loop [46] [(2, 3), (4, 6), (47, 56)] (.seq (.reg 8) (.seq (.cond (.tmp 47) .skip (.exit 1)) (.seq (.block 2 (.seq (.reg 9) (.seq (.reg 10) (.seq (.reg 11) (.cond (.tmp 53) (.seq (.reg 12) .ret) .skip))))) (.reg 13))))))) (.seq (.reg 14) .ret))))
def S_term_checkType_L1 (Q : AV → AH → Prop) (H : AH) (v44 : AV) (v45 : AV) (vs : List AV) (k_51 : List AV → AH → Prop) : AH → Prop :=
  Pu Try.prog (.bin .lss 3) [(vs.getD 0 .any), v45] fun v47 =>
  CdA v47
    (
    Rg 4 fun b_54 =>
    Pu Try.prog (.idx 3) [v44, (vs.getD 0 .any)] fun v48 =>
    RdS Try.prog (.ld 3 true) [v48] fun v49 =>
    Al (b_54 + 2) (.nw 24 [.p (.int .i64 0), .p (.int .i64 0), .p (.slice none 0 0)]) [] fun v4 =>
    WrS Try.prog (b_54 + 3) (.st 3) [v4, v49] fun _ =>
    RdS Try.prog (.ld 3 true) [v4] fun v50 =>
    Ca Try.prog (.fn (.func 41) [] []) [v50] fun v51 =>
    Pu Try.prog (.bin .neq 28) [v51, (.p (.int .i64 0))] fun v53 =>
    CdA v53
      (
      Rt Try.prog H.nx v51 Q
      ) (
      Pu Try.prog (.bin .add 3) [(vs.getD 0 .any), (.p (.int .i64 1))] fun v55 =>
      k_51 [v55]
      )
    ) (
    Rt Try.prog H.nx (.p (.int .i64 0)) Q
    )
def S_term_checkType_C2 (Q : AV → AH → Prop) (H : AH) (v1 : AV) : AH → Prop :=
  Pu Try.prog (.addOff 1) [v1] fun v25 =>
  RdS Try.prog (.ld 1 false) [v25] fun v26 =>
  Pu Try.prog (.bin .lss 3) [v26, (.p (.int .i64 0))] fun v27 =>
  Gd v27 false (fun k_25 => Pu Try.prog (.addOff 1) [v1] k_25) fun v29 =>
  Gd v27 false (fun k_27 => RdS Try.prog (.ld 1 false) [v29] k_27) fun v30 =>
  Gd v27 false (fun k_29 => Pu Try.prog (.bin .gtr 3) [v30, (.p (.int .i64 9))] k_29) fun v31 =>
  Pu Try.prog .pick [v27, (.p (.bool true)), v31] fun v32 =>
  Gd v32 false (fun k_32 => Pu Try.prog (.addOff 1) [v1] k_32) fun v34 =>
  Gd v32 false (fun k_34 => RdS Try.prog (.ld 1 false) [v34] k_34) fun v35 =>
  Gd v32 false (fun k_36 => Pu Try.prog (.bin .gtr 3) [v35, (.p (.int .i64 0))] k_36) fun v36 =>
  Gd v32 false (fun k_38 => k_38 v36) fun v37 =>
  Gd v37 true (fun k_40 => Pu Try.prog (.addOff 0) [v1] k_40) fun v38 =>
  Gd v37 true (fun k_42 => RdS Try.prog (.ld 1 false) [v38] k_42) fun v39 =>
  Gd v37 true (fun k_44 => Pu Try.prog (.bin .eql 3) [v39, (.p (.int .i64 2))] k_44) fun v40 =>
  Gd v32 false (fun k_46 => Pu Try.prog .pick [v37, v40, (.p (.bool false))] k_46) fun v41 =>
  Pu Try.prog .pick [v32, (.p (.bool true)), v41] fun v42 =>
  CdA v42
    (
    Rt Try.prog H.nx (.p (.int .i64 3)) Q
    ) (
    Pu Try.prog (.addOff 2) [v1] fun v43 =>
    RdS Try.prog (.ld 1 false) [v43] fun v44 =>
    Pu Try.prog .len [v44] fun v45 =>
    LoopA Try.prog 1 (S_term_checkType_L1 Q H v44 v45) [(.p (.int .i64 0))]
    )
def S_term_checkType (a0 : AV) (Q : AV → AH → Prop) (H : AH) : Prop := (
    Rg 2 fun b =>
    Al (b + 0) (.bx 24) [a0] fun v1 =>
    Pu Try.prog (.addOff 0) [v1] fun v7 =>
    RdS Try.prog (.ld 1 false) [v7] fun v8 =>
    Pu Try.prog (.bin .neq 3) [v8, (.p (.int .i64 1))] fun v9 =>
    Gd v9 true (fun k => Pu Try.prog (.addOff 0) [v1] k) fun v11 =>
    Gd v9 true (fun k_9 => RdS Try.prog (.ld 1 false) [v11] k_9) fun v12 =>
    Gd v9 true (fun k_11 => Pu Try.prog (.bin .neq 3) [v12, (.p (.int .i64 2))] k_11) fun v13 =>
    Pu Try.prog .pick [v9, v13, (.p (.bool false))] fun v14 =>
    CdA v14
      (
      Rt Try.prog H.nx (.p (.int .i64 4)) Q
      ) (
      Pu Try.prog (.addOff 2) [v1] fun v16 =>
      RdS Try.prog (.ld 1 false) [v16] fun v17 =>
      Pu Try.prog .len [v17] fun v18 =>
      Pu Try.prog (.addOff 0) [v1] fun v19 =>
      RdS Try.prog (.ld 1 false) [v19] fun v20 =>
      Pu Try.prog (.bin .sub 3) [v20, (.p (.int .i64 1))] fun v21 =>
      Pu Try.prog (.bin .mul 3) [(.p (.int .i64 2)), v21] fun v22 =>
      Pu Try.prog (.bin .neq 3) [v18, v22] fun v23 =>
      CdA v23
        (
        Rt Try.prog H.nx (.p (.int .i64 1)) Q
        ) (S_term_checkType_C2 Q H v1)
      )
    ) H
theorem eq_term_checkType (a0 : AV) (Q : AV → AH → Prop) (H : AH) : FnA Try.prog 56 (regsF Try.f41) ac_term_checkType [.tm 2] [a0] H Q = S_term_checkType a0 Q H := by kernel_rfl
theorem tri_term_checkType {a0 : AV} {H : AH} {Q : AV → AH → Prop} (h : S_term_checkType a0 Q H) : Tri Try.prog 41 [a0] H Q :=
  tri_of (Ms := [#[], #[], #[], #[], #[], #[], #[], #[], #[], #[], #[], #[], #[], #[], #[]]) mixed Try.func41 rfl (by kernel_rfl) (by kernel_rfl) rfl (of_decide_eq_true rfl : 1 ≤ 56) ((eq_term_checkType a0 Q H).symm ▸ h : FnA Try.prog 56 (regsF Try.f41) ac_term_checkType [.tm 2] [a0] H Q)

/-! wordhoard/term.sameType -/
def ac_term_sameType : AC := (.seq (.reg 0) (.seq (.reg 1) .ret))
def S_term_sameType (a0 a1 : AV) (Q : AV → AH → Prop) (H : AH) : Prop := (
    Rg 3 fun b =>
    Al (b + 0) (.bx 24) [a0] fun v2 =>
    Al (b + 1) (.bx 24) [a1] fun v3 =>
    Pu Try.prog (.addOff 0) [v2] fun v5 =>
    RdS Try.prog (.ld 1 false) [v5] fun v6 =>
    Pu Try.prog (.addOff 0) [v3] fun v7 =>
    RdS Try.prog (.ld 1 false) [v7] fun v8 =>
    Pu Try.prog (.bin .eql 3) [v6, v8] fun v9 =>
    Gd v9 true (fun k => Pu Try.prog (.addOff 1) [v2] k) fun v11 =>
    Gd v9 true (fun k_12 => RdS Try.prog (.ld 1 false) [v11] k_12) fun v12 =>
    Gd v9 true (fun k_14 => Pu Try.prog (.addOff 1) [v3] k_14) fun v13 =>
    Gd v9 true (fun k_16 => RdS Try.prog (.ld 1 false) [v13] k_16) fun v14 =>
    Gd v9 true (fun k_18 => Pu Try.prog (.bin .eql 3) [v12, v14] k_18) fun v15 =>
    Pu Try.prog .pick [v9, v15, (.p (.bool false))] fun v16 =>
    Gd v16 true (fun k_21 => Pu Try.prog (.addOff 2) [v2] k_21) fun v18 =>
    Gd v16 true (fun k_23 => RdS Try.prog (.ld 1 false) [v18] k_23) fun v19 =>
    Gd v16 true (fun k_25 => Pu Try.prog (.addOff 2) [v3] k_25) fun v20 =>
    Gd v16 true (fun k_27 => RdS Try.prog (.ld 1 false) [v20] k_27) fun v21 =>
    Gd v16 true (fun k_29 => Ca Try.prog (.fn (.func 59) [] []) [v19, v21, (.fn (.func 49) [] [])] k_29) fun v22 =>
    Pu Try.prog .pick [v16, v22, (.p (.bool false))] fun v23 =>
    Rt Try.prog H.nx v23 Q
    ) H
theorem eq_term_sameType (a0 a1 : AV) (Q : AV → AH → Prop) (H : AH) : FnA Try.prog 24 (regsF Try.f49) ac_term_sameType [.tm 4] [a0, a1] H Q = S_term_sameType a0 a1 Q H := by kernel_rfl
theorem tri_term_sameType {a0 a1 : AV} {H : AH} {Q : AV → AH → Prop} (h : S_term_sameType a0 a1 Q H) : Tri Try.prog 49 [a0, a1] H Q :=
  tri_of (Ms := [#[], #[]]) mixed Try.func49 rfl (by kernel_rfl) (by kernel_rfl) rfl (of_decide_eq_true rfl : 2 ≤ 24) ((eq_term_sameType a0 a1 Q H).symm ▸ h : FnA Try.prog 24 (regsF Try.f49) ac_term_sameType [.tm 4] [a0, a1] H Q)

/-! wordhoard/term.kids -/
def ac_term_kids : AC := (.seq (.reg 0) (.seq (.reg 1) .ret))
def S_term_kids (a0 : AV) (Q : AV → AH → Prop) (H : AH) : Prop := (
    Rg 2 fun b =>
    Al (b + 0) (.bx 27) [a0] fun v1 =>
    Pu Try.prog (.addOff 5) [v1] fun v3 =>
    RdS Try.prog (.ld 1 false) [v3] fun v4 =>
    Rt Try.prog H.nx v4 Q
    ) H
theorem eq_term_kids (a0 : AV) (Q : AV → AH → Prop) (H : AH) : FnA Try.prog 5 (regsF Try.f51) ac_term_kids [.tm 2] [a0] H Q = S_term_kids a0 Q H := by kernel_rfl
theorem tri_term_kids {a0 : AV} {H : AH} {Q : AV → AH → Prop} (h : S_term_kids a0 Q H) : Tri Try.prog 51 [a0] H Q :=
  tri_of (Ms := [#[], #[]]) mixed Try.func51 rfl (by kernel_rfl) (by kernel_rfl) rfl (of_decide_eq_true rfl : 1 ≤ 5) ((eq_term_kids a0 Q H).symm ▸ h : FnA Try.prog 5 (regsF Try.f51) ac_term_kids [.tm 2] [a0] H Q)

/-! wordhoard/term.typeKids -/
def ac_term_typeKids : AC := (.seq (.reg 0) (.seq (.reg 1) .ret))
def S_term_typeKids (a0 : AV) (Q : AV → AH → Prop) (H : AH) : Prop := (
    Rg 2 fun b =>
    Al (b + 0) (.bx 24) [a0] fun v1 =>
    Pu Try.prog (.addOff 2) [v1] fun v3 =>
    RdS Try.prog (.ld 1 false) [v3] fun v4 =>
    Rt Try.prog H.nx v4 Q
    ) H
theorem eq_term_typeKids (a0 : AV) (Q : AV → AH → Prop) (H : AH) : FnA Try.prog 5 (regsF Try.f53) ac_term_typeKids [.tm 2] [a0] H Q = S_term_typeKids a0 Q H := by kernel_rfl
theorem tri_term_typeKids {a0 : AV} {H : AH} {Q : AV → AH → Prop} (h : S_term_typeKids a0 Q H) : Tri Try.prog 53 [a0] H Q :=
  tri_of (Ms := [#[], #[]]) mixed Try.func53 rfl (by kernel_rfl) (by kernel_rfl) rfl (of_decide_eq_true rfl : 1 ≤ 5) ((eq_term_typeKids a0 Q H).symm ▸ h : FnA Try.prog 5 (regsF Try.f53) ac_term_typeKids [.tm 2] [a0] H Q)

/-! wordhoard/term.uses -/
def ac_term_uses : AC := (.seq (.reg 0) (.seq (.seq (.reg 1) (.cond (.tmp 16) (.seq (.reg 2) .ret) .skip)) (.cut [1] [(17, 22)] (.seq (.reg 3) (.cond (.tmp 19) (.reg 4) .skip)) (.seq (.reg 5) (.seq (.seq (.reg 6) (.block 0 (.loop [5, 25] [(7, 8), (26, 35)] (.seq (.reg 7) (.seq (.cond (.tmp 26) .skip (.exit 0)) (.seq (.block 1 (.seq (.reg 8) (.reg 9))) (.reg 10))))))) (.seq (.reg 11) .ret))))))
def S_term_uses_L1 (Q : AV → AH → Prop) (H : AH) (vs : List AV) (v23 : AV) (v24 : AV) (vs_21 : List AV) (k_20 : List AV → AH → Prop) : AH → Prop :=
  Pu Try.prog (.bin .lss 3) [(vs_21.getD 1 .any), v24] fun v26 =>
  CdA v26
    (
    Rg 4 fun b_23 =>
    Pu Try.prog (.idx 6) [v23, (vs_21.getD 1 .any)] fun v27 =>
    RdS Try.prog (.ld 6 true) [v27] fun v28 =>
    Al (b_23 + 2) (.nw 27 [.p (.int .i64 0), .p (.int .i64 0), .p (.int .i64 0), .p (.int .i64 0), .p (.slice none 0 0), .p (.slice none 0 0)]) [] fun v7 =>
    WrS Try.prog (b_23 + 3) (.st 6) [v7, v28] fun _ =>
    RdS Try.prog (.ld 6 true) [v7] fun v30 =>
    Ca Try.prog (.fn (.func 56) [] []) [v30, (vs.getD 0 .any)] fun v32 =>
    Pu Try.prog (.bin .add 3) [(vs_21.getD 0 .any), v32] fun v33 =>
    Pu Try.prog (.bin .add 3) [(vs_21.getD 1 .any), (.p (.int .i64 1))] fun v34 =>
    k_20 [v33, v34]
    ) (
    Rt Try.prog H.nx (vs_21.getD 0 .any) Q
    )
def S_term_uses_K2 (Q : AV → AH → Prop) (H : AH) (v2 : AV) (vs : List AV) : AH → Prop :=
  Pu Try.prog (.addOff 5) [v2] fun v22 =>
  RdS Try.prog (.ld 1 false) [v22] fun v23 =>
  Pu Try.prog .len [v23] fun v24 =>
  LoopA Try.prog 2 (S_term_uses_L1 Q H vs v23 v24) [(.p (.int .i64 0)), (.p (.int .i64 0))]
def S_term_uses (a0 a1 : AV) (Q : AV → AH → Prop) (H : AH) : Prop := (
    Rg 2 fun b =>
    Al (b + 0) (.bx 27) [a0] fun v2 =>
    Pu Try.prog (.addOff 0) [v2] fun v8 =>
    RdS Try.prog (.ld 1 false) [v8] fun v9 =>
    Pu Try.prog (.bin .eql 3) [v9, (.p (.int .i64 1))] fun v10 =>
    Gd v10 true (fun k => Pu Try.prog (.addOff 1) [v2] k) fun v12 =>
    Gd v10 true (fun k_9 => RdS Try.prog (.ld 1 false) [v12] k_9) fun v13 =>
    Gd v10 true (fun k_11 => k_11 a1) fun v14 =>
    Gd v10 true (fun k_13 => Pu Try.prog (.bin .eql 3) [v13, v14] k_13) fun v15 =>
    Pu Try.prog .pick [v10, v15, (.p (.bool false))] fun v16 =>
    CdA v16
      (
      Rt Try.prog H.nx (.p (.int .i64 1)) Q
      ) (
      CutA Try.prog 1 (fun k_15 =>
        Pu Try.prog (.addOff 0) [v2] fun v17 =>
        RdS Try.prog (.ld 1 false) [v17] fun v18 =>
        Pu Try.prog (.bin .eql 3) [v18, (.p (.int .i64 3))] fun v19 =>
        CdA v19
          (
          Pu Try.prog (.bin .add 3) [a1, (.p (.int .i64 1))] fun v21 =>
          k_15 [v21]
          ) (
          k_15 [a1]
          )
        ) (S_term_uses_K2 Q H v2)
      )
    ) H
theorem eq_term_uses (a0 a1 : AV) (Q : AV → AH → Prop) (H : AH) : FnA Try.prog 36 (regsF Try.f56) ac_term_uses [.tm 4] [a0, a1] H Q = S_term_uses a0 a1 Q H := by kernel_rfl
theorem tri_term_uses {a0 a1 : AV} {H : AH} {Q : AV → AH → Prop} (h : S_term_uses a0 a1 Q H) : Tri Try.prog 56 [a0, a1] H Q :=
  tri_of (Ms := [#[], #[], #[], #[], #[], #[], #[], #[], #[], #[], #[], #[]]) mixed Try.func56 rfl (by kernel_rfl) (by kernel_rfl) rfl (of_decide_eq_true rfl : 2 ≤ 36) ((eq_term_uses a0 a1 Q H).symm ▸ h : FnA Try.prog 36 (regsF Try.f56) ac_term_uses [.tm 4] [a0, a1] H Q)

/-! wordhoard/wordhoardref.CheckTerm -/
def ac_wordhoardref_CheckTerm : AC := (.seq (.reg 0) (.seq (.seq (.reg 1) (.cond (.tmp 5) (.seq (.reg 2) .ret) .skip)) (.seq (.reg 3) .ret)))
def S_wordhoardref_CheckTerm (a0 : AV) (Q : AV → AH → Prop) (H : AH) : Prop := (
    Rg 2 fun b =>
    Al (b + 0) (.bx 27) [a0] fun v1 =>
    RdS Try.prog (.ld 6 true) [v1] fun v3 =>
    Ca Try.prog (.fn (.func 27) [] []) [v3, (.p (.int .i64 400))] fun v4 =>
    Pu Try.prog (.bin .gtr 3) [v4, (.p (.int .i64 400))] fun v5 =>
    CdA v5
      (
      Rt Try.prog H.nx (.p (.int .i64 7)) Q
      ) (
      RdS Try.prog (.ld 6 true) [v1] fun v6 =>
      Ca Try.prog (.fn (.func 28) [] []) [v6] fun v7 =>
      Rt Try.prog H.nx v7 Q
      )
    ) H
theorem eq_wordhoardref_CheckTerm (a0 : AV) (Q : AV → AH → Prop) (H : AH) : FnA Try.prog 8 (regsF Try.f8) ac_wordhoardref_CheckTerm [.tm 2] [a0] H Q = S_wordhoardref_CheckTerm a0 Q H := by kernel_rfl
theorem tri_wordhoardref_CheckTerm {a0 : AV} {H : AH} {Q : AV → AH → Prop} (h : S_wordhoardref_CheckTerm a0 Q H) : Tri Try.prog 8 [a0] H Q :=
  tri_of (Ms := [#[], #[], #[], #[]]) mixed Try.func8 rfl (by kernel_rfl) (by kernel_rfl) rfl (of_decide_eq_true rfl : 1 ≤ 8) ((eq_wordhoardref_CheckTerm a0 Q H).symm ▸ h : FnA Try.prog 8 (regsF Try.f8) ac_wordhoardref_CheckTerm [.tm 2] [a0] H Q)

/-! wordhoard/wordhoardref.SameTerm -/
def ac_wordhoardref_SameTerm : AC := (.seq (.reg 0) (.seq (.seq (.reg 1) (.cond (.tmp 34) (.seq (.reg 2) .ret) .skip)) (.seq (.seq (.reg 3) (.block 0 (.loop [5] [(4, 5), (35, 54)] (.seq (.seq (.reg 4) (.cond (.tmp 39) .skip (.exit 0))) (.seq (.block 1 (.seq (.reg 5) (.cond (.tmp 53) (.seq (.reg 6) .ret) .skip))) (.reg 7)))))) (.seq (.reg 8) .ret))))
def S_wordhoardref_SameTerm_L1 (Q : AV → AH → Prop) (H : AH) (v2 : AV) (v3 : AV) (vs : List AV) (k_48 : List AV → AH → Prop) : AH → Prop :=
  Pu Try.prog (.addOff 5) [v2] fun v36 =>
  RdS Try.prog (.ld 1 false) [v36] fun v37 =>
  Pu Try.prog .len [v37] fun v38 =>
  Pu Try.prog (.bin .lss 3) [(vs.getD 0 .any), v38] fun v39 =>
  CdA v39
    (
    Vw fun V =>
    Pu Try.prog (.addOff 5) [v2] fun v42 =>
    Rd Try.prog V (.ld 1 false) [v42] fun v43 =>
    Pu Try.prog (.idx 6) [v43, (vs.getD 0 .any)] fun v45 =>
    Rd Try.prog V (.ld 6 true) [v45] fun v46 =>
    Pu Try.prog (.addOff 5) [v3] fun v47 =>
    Rd Try.prog V (.ld 1 false) [v47] fun v48 =>
    Pu Try.prog (.idx 6) [v48, (vs.getD 0 .any)] fun v50 =>
    Rd Try.prog V (.ld 6 true) [v50] fun v51 =>
    CaV Try.prog V (.fn (.func 10) [] []) [v46, v51] fun v52 =>
    Pu Try.prog (.un .not) [v52] fun v53 =>
    CdA v53
      (
      Rt Try.prog H.nx (.p (.bool false)) Q
      ) (
      Pu Try.prog (.bin .add 3) [(vs.getD 0 .any), (.p (.int .i64 1))] fun v41 =>
      k_48 [v41]
      )
    ) (
    Rt Try.prog H.nx (.p (.bool true)) Q
    )
def S_wordhoardref_SameTerm (a0 a1 : AV) (Q : AV → AH → Prop) (H : AH) : Prop := (
    Rg 3 fun b =>
    Al (b + 0) (.bx 27) [a0] fun v2 =>
    Al (b + 1) (.bx 27) [a1] fun v3 =>
    Pu Try.prog (.addOff 0) [v2] fun v6 =>
    RdS Try.prog (.ld 1 false) [v6] fun v7 =>
    Pu Try.prog (.addOff 0) [v3] fun v8 =>
    RdS Try.prog (.ld 1 false) [v8] fun v9 =>
    Pu Try.prog (.bin .neq 3) [v7, v9] fun v10 =>
    Gd v10 false (fun k => Pu Try.prog (.addOff 1) [v2] k) fun v12 =>
    Gd v10 false (fun k_12 => RdS Try.prog (.ld 1 false) [v12] k_12) fun v13 =>
    Gd v10 false (fun k_14 => Pu Try.prog (.addOff 1) [v3] k_14) fun v14 =>
    Gd v10 false (fun k_16 => RdS Try.prog (.ld 1 false) [v14] k_16) fun v15 =>
    Gd v10 false (fun k_18 => Pu Try.prog (.bin .neq 3) [v13, v15] k_18) fun v16 =>
    Pu Try.prog .pick [v10, (.p (.bool true)), v16] fun v17 =>
    Gd v17 false (fun k_21 => Pu Try.prog (.addOff 2) [v2] k_21) fun v19 =>
    Gd v17 false (fun k_23 => RdS Try.prog (.ld 3 true) [v19] k_23) fun v20 =>
    Gd v17 false (fun k_25 => Pu Try.prog (.addOff 2) [v3] k_25) fun v21 =>
    Gd v17 false (fun k_27 => RdS Try.prog (.ld 3 true) [v21] k_27) fun v22 =>
    Gd v17 false (fun k_29 => Ca Try.prog (.fn (.func 20) [] []) [v20, v22] k_29) fun v23 =>
    Gd v17 false (fun k_31 => Pu Try.prog (.un .not) [v23] k_31) fun v24 =>
    Pu Try.prog .pick [v17, (.p (.bool true)), v24] fun v25 =>
    Gd v25 false (fun k_34 => Pu Try.prog (.addOff 5) [v2] k_34) fun v27 =>
    Gd v25 false (fun k_36 => RdS Try.prog (.ld 1 false) [v27] k_36) fun v28 =>
    Gd v25 false (fun k_38 => Pu Try.prog .len [v28] k_38) fun v29 =>
    Gd v25 false (fun k_40 => Pu Try.prog (.addOff 5) [v3] k_40) fun v30 =>
    Gd v25 false (fun k_42 => RdS Try.prog (.ld 1 false) [v30] k_42) fun v31 =>
    Gd v25 false (fun k_44 => Pu Try.prog .len [v31] k_44) fun v32 =>
    Gd v25 false (fun k_46 => Pu Try.prog (.bin .neq 3) [v29, v32] k_46) fun v33 =>
    Pu Try.prog .pick [v25, (.p (.bool true)), v33] fun v34 =>
    CdA v34
      (
      Rt Try.prog H.nx (.p (.bool false)) Q
      ) (
      LoopA Try.prog 1 (S_wordhoardref_SameTerm_L1 Q H v2 v3) [(.p (.int .i64 0))]
      )
    ) H
theorem eq_wordhoardref_SameTerm (a0 a1 : AV) (Q : AV → AH → Prop) (H : AH) : FnA Try.prog 54 (regsF Try.f10) ac_wordhoardref_SameTerm [.tm 4] [a0, a1] H Q = S_wordhoardref_SameTerm a0 a1 Q H := by kernel_rfl
theorem tri_wordhoardref_SameTerm {a0 a1 : AV} {H : AH} {Q : AV → AH → Prop} (h : S_wordhoardref_SameTerm a0 a1 Q H) : Tri Try.prog 10 [a0, a1] H Q :=
  tri_of (Ms := [#[], #[], #[], #[], #[], #[0, 1, 0, 7, 15, 0, 32, 0, 224, 480, 1023, 2047], #[], #[], #[]]) mixed Try.func10 rfl (by kernel_rfl) (by kernel_rfl) rfl (of_decide_eq_true rfl : 2 ≤ 54) ((eq_wordhoardref_SameTerm a0 a1 Q H).symm ▸ h : FnA Try.prog 54 (regsF Try.f10) ac_wordhoardref_SameTerm [.tm 4] [a0, a1] H Q)

/-! wordhoard/wordhoardref.Same -/
def ac_wordhoardref_Same : AC := (.seq (.reg 0) (.seq (.seq (.reg 1) (.cond (.tmp 10) (.seq (.reg 2) .ret) .skip)) (.seq (.seq (.reg 3) (.block 0 (.loop [5] [(4, 5), (11, 26)] (.seq (.seq (.reg 4) (.cond (.tmp 14) .skip (.exit 0))) (.seq (.block 1 (.seq (.reg 5) (.cond (.tmp 25) (.seq (.reg 6) .ret) .skip))) (.reg 7)))))) (.seq (.reg 8) .ret))))
def S_wordhoardref_Same_L1 (a0 : AV) (a1 : AV) (Q : AV → AH → Prop) (H : AH) (vs : List AV) (k : List AV → AH → Prop) : AH → Prop :=
  Pu Try.prog .len [a0] fun v13 =>
  Pu Try.prog (.bin .lss 3) [(vs.getD 0 .any), v13] fun v14 =>
  CdA v14
    (
    Vw fun V =>
    Pu Try.prog (.idx 1) [a0, (vs.getD 0 .any)] fun v19 =>
    Rd Try.prog V (.ld 1 false) [v19] fun v20 =>
    Pu Try.prog (.idx 1) [a1, (vs.getD 0 .any)] fun v23 =>
    Rd Try.prog V (.ld 1 false) [v23] fun v24 =>
    Pu Try.prog (.bin .neq 3) [v20, v24] fun v25 =>
    CdA v25
      (
      Rt Try.prog H.nx (.p (.bool false)) Q
      ) (
      Pu Try.prog (.bin .add 3) [(vs.getD 0 .any), (.p (.int .i64 1))] fun v16 =>
      k [v16]
      )
    ) (
    Rt Try.prog H.nx (.p (.bool true)) Q
    )
def S_wordhoardref_Same (a0 a1 : AV) (Q : AV → AH → Prop) (H : AH) : Prop := (
    Pu Try.prog .len [a0] fun v7 =>
    Pu Try.prog .len [a1] fun v9 =>
    Pu Try.prog (.bin .neq 3) [v7, v9] fun v10 =>
    CdA v10
      (
      Rt Try.prog H.nx (.p (.bool false)) Q
      ) (
      LoopA Try.prog 1 (S_wordhoardref_Same_L1 a0 a1 Q H) [(.p (.int .i64 0))]
      )
    ) H
theorem eq_wordhoardref_Same (a0 a1 : AV) (Q : AV → AH → Prop) (H : AH) : FnA Try.prog 26 (regsF Try.f15) ac_wordhoardref_Same [.tm 4] [a0, a1] H Q = S_wordhoardref_Same a0 a1 Q H := by kernel_rfl
theorem tri_wordhoardref_Same {a0 a1 : AV} {H : AH} {Q : AV → AH → Prop} (h : S_wordhoardref_Same a0 a1 Q H) : Tri Try.prog 15 [a0, a1] H Q :=
  tri_of (Ms := [#[], #[], #[], #[], #[], #[0, 0, 3, 7, 0, 0, 48, 112, 255], #[], #[], #[]]) mixed Try.func15 rfl (by kernel_rfl) (by kernel_rfl) rfl (of_decide_eq_true rfl : 2 ≤ 26) ((eq_wordhoardref_Same a0 a1 Q H).symm ▸ h : FnA Try.prog 26 (regsF Try.f15) ac_wordhoardref_Same [.tm 4] [a0, a1] H Q)

/-! wordhoard/wordhoardref.SameType -/
def ac_wordhoardref_SameType : AC := (.seq (.reg 0) (.seq (.seq (.reg 1) (.cond (.tmp 26) (.seq (.reg 2) .ret) .skip)) (.seq (.seq (.reg 3) (.block 0 (.loop [5] [(4, 5), (27, 46)] (.seq (.seq (.reg 4) (.cond (.tmp 31) .skip (.exit 0))) (.seq (.block 1 (.seq (.reg 5) (.cond (.tmp 45) (.seq (.reg 6) .ret) .skip))) (.reg 7)))))) (.seq (.reg 8) .ret))))
def S_wordhoardref_SameType_L1 (Q : AV → AH → Prop) (H : AH) (v2 : AV) (v3 : AV) (vs : List AV) (k_35 : List AV → AH → Prop) : AH → Prop :=
  Pu Try.prog (.addOff 2) [v2] fun v28 =>
  RdS Try.prog (.ld 1 false) [v28] fun v29 =>
  Pu Try.prog .len [v29] fun v30 =>
  Pu Try.prog (.bin .lss 3) [(vs.getD 0 .any), v30] fun v31 =>
  CdA v31
    (
    Vw fun V =>
    Pu Try.prog (.addOff 2) [v2] fun v34 =>
    Rd Try.prog V (.ld 1 false) [v34] fun v35 =>
    Pu Try.prog (.idx 3) [v35, (vs.getD 0 .any)] fun v37 =>
    Rd Try.prog V (.ld 3 true) [v37] fun v38 =>
    Pu Try.prog (.addOff 2) [v3] fun v39 =>
    Rd Try.prog V (.ld 1 false) [v39] fun v40 =>
    Pu Try.prog (.idx 3) [v40, (vs.getD 0 .any)] fun v42 =>
    Rd Try.prog V (.ld 3 true) [v42] fun v43 =>
    CaV Try.prog V (.fn (.func 20) [] []) [v38, v43] fun v44 =>
    Pu Try.prog (.un .not) [v44] fun v45 =>
    CdA v45
      (
      Rt Try.prog H.nx (.p (.bool false)) Q
      ) (
      Pu Try.prog (.bin .add 3) [(vs.getD 0 .any), (.p (.int .i64 1))] fun v33 =>
      k_35 [v33]
      )
    ) (
    Rt Try.prog H.nx (.p (.bool true)) Q
    )
def S_wordhoardref_SameType (a0 a1 : AV) (Q : AV → AH → Prop) (H : AH) : Prop := (
    Rg 3 fun b =>
    Al (b + 0) (.bx 24) [a0] fun v2 =>
    Al (b + 1) (.bx 24) [a1] fun v3 =>
    Pu Try.prog (.addOff 0) [v2] fun v6 =>
    RdS Try.prog (.ld 1 false) [v6] fun v7 =>
    Pu Try.prog (.addOff 0) [v3] fun v8 =>
    RdS Try.prog (.ld 1 false) [v8] fun v9 =>
    Pu Try.prog (.bin .neq 3) [v7, v9] fun v10 =>
    Gd v10 false (fun k => Pu Try.prog (.addOff 1) [v2] k) fun v12 =>
    Gd v10 false (fun k_12 => RdS Try.prog (.ld 1 false) [v12] k_12) fun v13 =>
    Gd v10 false (fun k_14 => Pu Try.prog (.addOff 1) [v3] k_14) fun v14 =>
    Gd v10 false (fun k_16 => RdS Try.prog (.ld 1 false) [v14] k_16) fun v15 =>
    Gd v10 false (fun k_18 => Pu Try.prog (.bin .neq 3) [v13, v15] k_18) fun v16 =>
    Pu Try.prog .pick [v10, (.p (.bool true)), v16] fun v17 =>
    Gd v17 false (fun k_21 => Pu Try.prog (.addOff 2) [v2] k_21) fun v19 =>
    Gd v17 false (fun k_23 => RdS Try.prog (.ld 1 false) [v19] k_23) fun v20 =>
    Gd v17 false (fun k_25 => Pu Try.prog .len [v20] k_25) fun v21 =>
    Gd v17 false (fun k_27 => Pu Try.prog (.addOff 2) [v3] k_27) fun v22 =>
    Gd v17 false (fun k_29 => RdS Try.prog (.ld 1 false) [v22] k_29) fun v23 =>
    Gd v17 false (fun k_31 => Pu Try.prog .len [v23] k_31) fun v24 =>
    Gd v17 false (fun k_33 => Pu Try.prog (.bin .neq 3) [v21, v24] k_33) fun v25 =>
    Pu Try.prog .pick [v17, (.p (.bool true)), v25] fun v26 =>
    CdA v26
      (
      Rt Try.prog H.nx (.p (.bool false)) Q
      ) (
      LoopA Try.prog 1 (S_wordhoardref_SameType_L1 Q H v2 v3) [(.p (.int .i64 0))]
      )
    ) H
theorem eq_wordhoardref_SameType (a0 a1 : AV) (Q : AV → AH → Prop) (H : AH) : FnA Try.prog 46 (regsF Try.f20) ac_wordhoardref_SameType [.tm 4] [a0, a1] H Q = S_wordhoardref_SameType a0 a1 Q H := by kernel_rfl
theorem tri_wordhoardref_SameType {a0 a1 : AV} {H : AH} {Q : AV → AH → Prop} (h : S_wordhoardref_SameType a0 a1 Q H) : Tri Try.prog 20 [a0, a1] H Q :=
  tri_of (Ms := [#[], #[], #[], #[], #[], #[0, 1, 0, 7, 15, 0, 32, 0, 224, 480, 1023, 2047], #[], #[], #[]]) mixed Try.func20 rfl (by kernel_rfl) (by kernel_rfl) rfl (of_decide_eq_true rfl : 2 ≤ 46) ((eq_wordhoardref_SameType a0 a1 Q H).symm ▸ h : FnA Try.prog 46 (regsF Try.f20) ac_wordhoardref_SameType [.tm 4] [a0, a1] H Q)

/-! wordhoard/wordhoardref.CheckType -/
def ac_wordhoardref_CheckType : AC := (.seq (.reg 0) (.seq (.seq (.reg 1) (.cond (.tmp 5) (.seq (.reg 2) .ret) .skip)) (.seq (.reg 3) .ret)))
def S_wordhoardref_CheckType (a0 : AV) (Q : AV → AH → Prop) (H : AH) : Prop := (
    Rg 2 fun b =>
    Al (b + 0) (.bx 24) [a0] fun v1 =>
    RdS Try.prog (.ld 3 true) [v1] fun v3 =>
    Ca Try.prog (.fn (.func 42) [] []) [v3, (.p (.int .i64 60))] fun v4 =>
    Pu Try.prog (.bin .gtr 3) [v4, (.p (.int .i64 60))] fun v5 =>
    CdA v5
      (
      Rt Try.prog H.nx (.p (.int .i64 7)) Q
      ) (
      RdS Try.prog (.ld 3 true) [v1] fun v6 =>
      Ca Try.prog (.fn (.func 43) [] []) [v6] fun v7 =>
      Rt Try.prog H.nx v7 Q
      )
    ) H
theorem eq_wordhoardref_CheckType (a0 : AV) (Q : AV → AH → Prop) (H : AH) : FnA Try.prog 8 (regsF Try.f22) ac_wordhoardref_CheckType [.tm 2] [a0] H Q = S_wordhoardref_CheckType a0 Q H := by kernel_rfl
theorem tri_wordhoardref_CheckType {a0 : AV} {H : AH} {Q : AV → AH → Prop} (h : S_wordhoardref_CheckType a0 Q H) : Tri Try.prog 22 [a0] H Q :=
  tri_of (Ms := [#[], #[], #[], #[]]) mixed Try.func22 rfl (by kernel_rfl) (by kernel_rfl) rfl (of_decide_eq_true rfl : 1 ≤ 8) ((eq_wordhoardref_CheckType a0 Q H).symm ▸ h : FnA Try.prog 8 (regsF Try.f22) ac_wordhoardref_CheckType [.tm 2] [a0] H Q)

/-! wordhoard/wordhoardref.TermSize -/
def ac_wordhoardref_TermSize : AC := (.seq (.reg 0) (.seq (.reg 1) (.seq (.seq (.reg 2) (.block 0 (.loop [5, 6] [(7, 30)] (.seq (.seq (.reg 3) (.cond (.tmp 16) .skip (.exit 0))) (.seq (.block 1 (.reg 4)) (.reg 5)))))) (.seq (.seq (.reg 6) (.cond (.tmp 32) (.seq (.reg 7) .ret) .skip)) (.seq (.reg 8) .ret)))))
def S_wordhoardref_TermSize_L1 (a1 : AV) (Q : AV → AH → Prop) (H : AH) (v2 : AV) (vs : List AV) (k : List AV → AH → Prop) : AH → Prop :=
  Pu Try.prog (.addOff 5) [v2] fun v8 =>
  RdS Try.prog (.ld 1 false) [v8] fun v9 =>
  Pu Try.prog .len [v9] fun v10 =>
  Pu Try.prog (.bin .lss 3) [(vs.getD 1 .any), v10] fun v11 =>
  Gd v11 true (fun k_10 => k_10 (vs.getD 0 .any)) fun v13 =>
  Gd v11 true (fun k_12 => k_12 a1) fun v14 =>
  Gd v11 true (fun k_14 => Pu Try.prog (.bin .leq 3) [v13, v14] k_14) fun v15 =>
  Pu Try.prog .pick [v11, v15, (.p (.bool false))] fun v16 =>
  CdA v16
    (
    Pu Try.prog (.addOff 5) [v2] fun v20 =>
    RdS Try.prog (.ld 1 false) [v20] fun v21 =>
    Pu Try.prog (.idx 6) [v21, (vs.getD 1 .any)] fun v23 =>
    RdS Try.prog (.ld 6 true) [v23] fun v24 =>
    Pu Try.prog (.bin .sub 3) [a1, (vs.getD 0 .any)] fun v27 =>
    Ca Try.prog (.fn (.func 27) [] []) [v24, v27] fun v28 =>
    Pu Try.prog (.bin .add 3) [(vs.getD 0 .any), v28] fun v29 =>
    Pu Try.prog (.bin .add 3) [(vs.getD 1 .any), (.p (.int .i64 1))] fun v18 =>
    k [v29, v18]
    ) (
    Pu Try.prog (.bin .gtr 3) [(vs.getD 0 .any), a1] fun v32 =>
    CdA v32
      (
      Pu Try.prog (.bin .add 3) [a1, (.p (.int .i64 1))] fun v34 =>
      Rt Try.prog H.nx v34 Q
      ) (
      Rt Try.prog H.nx (vs.getD 0 .any) Q
      )
    )
def S_wordhoardref_TermSize (a0 a1 : AV) (Q : AV → AH → Prop) (H : AH) : Prop := (
    Rg 2 fun b =>
    Al (b + 0) (.bx 27) [a0] fun v2 =>
    LoopA Try.prog 2 (S_wordhoardref_TermSize_L1 a1 Q H v2) [(.p (.int .i64 1)), (.p (.int .i64 0))]
    ) H
theorem eq_wordhoardref_TermSize (a0 a1 : AV) (Q : AV → AH → Prop) (H : AH) : FnA Try.prog 36 (regsF Try.f27) ac_wordhoardref_TermSize [.tm 4] [a0, a1] H Q = S_wordhoardref_TermSize a0 a1 Q H := by kernel_rfl
theorem tri_wordhoardref_TermSize {a0 a1 : AV} {H : AH} {Q : AV → AH → Prop} (h : S_wordhoardref_TermSize a0 a1 Q H) : Tri Try.prog 27 [a0, a1] H Q :=
  tri_of (Ms := [#[], #[], #[], #[], #[], #[], #[], #[], #[]]) mixed Try.func27 rfl (by kernel_rfl) (by kernel_rfl) rfl (of_decide_eq_true rfl : 2 ≤ 36) ((eq_wordhoardref_TermSize a0 a1 Q H).symm ▸ h : FnA Try.prog 36 (regsF Try.f27) ac_wordhoardref_TermSize [.tm 4] [a0, a1] H Q)

/-! wordhoard/wordhoardref.termWrong -/
def ac_wordhoardref_termWrong : AC := (.seq (.reg 0) (.seq (.seq (.reg 1) (.cond (.tmp 14) (.seq (.reg 2) .ret) .skip)) (.seq (.reg 3) (.cut [3] [(15, 21)] (.seq (.reg 4) (.cond (.tmp 17) (.reg 5) .skip)) (.seq (.seq (.reg 6) (.cond (.tmp 25) (.seq (.reg 7) .ret) .skip)) (.seq (.seq (.reg 8) (.cond (.tmp 62) (.seq (.reg 9) .ret) .skip)) (.cut [] [(2, 3), (4, 5), (63, 72)] (.seq (.reg 10) (.cond (.tmp 65) (.seq (.reg 11) (.seq (.reg 12) (.cond (.tmp 70) (.seq (.reg 13) .ret) .skip))) .skip)) (.seq (.seq (.reg 14) (.block 0 (.loop [5] [(2, 3), (6, 7), (72, 88)] (.seq (.seq (.reg 15) (.cond (.tmp 76) .skip (.exit 0))) (.seq (.block 1 (.seq (.reg 16) (.seq (.reg 17) (.cond (.tmp 86) (.seq (.reg 18) .ret) .skip)))) (.reg 19)))))) (.seq (.reg 20) .ret)))))))))
def S_wordhoardref_termWrong_L1 (Q : AV → AH → Prop) (H : AH) (v1 : AV) (vs_87 : List AV) (k_86 : List AV → AH → Prop) : AH → Prop :=
  Pu Try.prog (.addOff 5) [v1] fun v73 =>
  RdS Try.prog (.ld 1 false) [v73] fun v74 =>
  Pu Try.prog .len [v74] fun v75 =>
  Pu Try.prog (.bin .lss 3) [(vs_87.getD 0 .any), v75] fun v76 =>
  CdA v76
    (
    Pu Try.prog (.addOff 5) [v1] fun v79 =>
    RdS Try.prog (.ld 1 false) [v79] fun v80 =>
    Pu Try.prog (.idx 6) [v80, (vs_87.getD 0 .any)] fun v82 =>
    RdS Try.prog (.ld 6 true) [v82] fun v83 =>
    Ca Try.prog (.fn (.func 28) [] []) [v83] fun v84 =>
    Pu Try.prog (.bin .neq 28) [v84, (.p (.int .i64 0))] fun v86 =>
    CdA v86
      (
      Rt Try.prog H.nx v84 Q
      ) (
      Pu Try.prog (.bin .add 3) [(vs_87.getD 0 .any), (.p (.int .i64 1))] fun v78 =>
      k_86 [v78]
      )
    ) (
    Rt Try.prog H.nx (.p (.int .i64 0)) Q
    )
def S_wordhoardref_termWrong_K2 (Q : AV → AH → Prop) (H : AH) (v1 : AV) (_vs_85 : List AV) : AH → Prop :=
  LoopA Try.prog 1 (S_wordhoardref_termWrong_L1 Q H v1) [(.p (.int .i64 0))]
def S_wordhoardref_termWrong_C3 (Q : AV → AH → Prop) (H : AH) (v1 : AV) : AH → Prop :=
  Pu Try.prog (.addOff 1) [v1] fun v26 =>
  RdS Try.prog (.ld 1 false) [v26] fun v27 =>
  Pu Try.prog (.bin .lss 3) [v27, (.p (.int .i64 0))] fun v28 =>
  Gd v28 false (fun k_23 => Pu Try.prog (.addOff 0) [v1] k_23) fun v30 =>
  Gd v28 false (fun k_25 => RdS Try.prog (.ld 1 false) [v30] k_25) fun v31 =>
  Gd v28 false (fun k_27 => Pu Try.prog (.bin .gtr 3) [v31, (.p (.int .i64 2))] k_27) fun v32 =>
  Gd v28 false (fun k_29 => k_29 v32) fun v33 =>
  Gd v33 true (fun k_31 => Pu Try.prog (.addOff 1) [v1] k_31) fun v34 =>
  Gd v33 true (fun k_33 => RdS Try.prog (.ld 1 false) [v34] k_33) fun v35 =>
  Gd v33 true (fun k_35 => Pu Try.prog (.bin .neq 3) [v35, (.p (.int .i64 0))] k_35) fun v36 =>
  Gd v28 false (fun k_37 => Pu Try.prog .pick [v33, v36, (.p (.bool false))] k_37) fun v37 =>
  Pu Try.prog .pick [v28, (.p (.bool true)), v37] fun v38 =>
  Gd v38 false (fun k_40 => Pu Try.prog (.addOff 0) [v1] k_40) fun v40 =>
  Gd v38 false (fun k_42 => RdS Try.prog (.ld 1 false) [v40] k_42) fun v41 =>
  Gd v38 false (fun k_44 => Pu Try.prog (.bin .neq 3) [v41, (.p (.int .i64 3))] k_44) fun v42 =>
  Gd v38 false (fun k_46 => k_46 v42) fun v43 =>
  Gd v43 true (fun k_48 => Pu Try.prog (.addOff 2) [v1] k_48) fun v44 =>
  Gd v43 true (fun k_50 => Pu Try.prog (.addOff 0) [v44] k_50) fun v45 =>
  Gd v43 true (fun k_52 => RdS Try.prog (.ld 1 false) [v45] k_52) fun v46 =>
  Gd v43 true (fun k_54 => Pu Try.prog (.bin .neq 3) [v46, (.p (.int .i64 0))] k_54) fun v47 =>
  Gd v43 true (fun k_56 => k_56 v47) fun v48 =>
  Gd v48 false (fun k_58 => Pu Try.prog (.addOff 2) [v1] k_58) fun v49 =>
  Gd v48 false (fun k_60 => Pu Try.prog (.addOff 1) [v49] k_60) fun v50 =>
  Gd v48 false (fun k_62 => RdS Try.prog (.ld 1 false) [v50] k_62) fun v51 =>
  Gd v48 false (fun k_64 => Pu Try.prog (.bin .neq 3) [v51, (.p (.int .i64 0))] k_64) fun v52 =>
  Gd v43 true (fun k_66 => Pu Try.prog .pick [v48, (.p (.bool true)), v52] k_66) fun v53 =>
  Gd v43 true (fun k_68 => k_68 v53) fun v54 =>
  Gd v54 false (fun k_70 => Pu Try.prog (.addOff 2) [v1] k_70) fun v55 =>
  Gd v54 false (fun k_72 => Pu Try.prog (.addOff 2) [v55] k_72) fun v56 =>
  Gd v54 false (fun k_74 => RdS Try.prog (.ld 1 false) [v56] k_74) fun v57 =>
  Gd v54 false (fun k_76 => Pu Try.prog .len [v57] k_76) fun v58 =>
  Gd v54 false (fun k_78 => Pu Try.prog (.bin .gtr 3) [v58, (.p (.int .i64 0))] k_78) fun v59 =>
  Gd v43 true (fun k_80 => Pu Try.prog .pick [v54, (.p (.bool true)), v59] k_80) fun v60 =>
  Gd v38 false (fun k_82 => Pu Try.prog .pick [v43, v60, (.p (.bool false))] k_82) fun v61 =>
  Pu Try.prog .pick [v38, (.p (.bool true)), v61] fun v62 =>
  CdA v62
    (
    Rt Try.prog H.nx (.p (.int .i64 3)) Q
    ) (
    CutA Try.prog 0 (fun k_84 =>
      Pu Try.prog (.addOff 0) [v1] fun v63 =>
      RdS Try.prog (.ld 1 false) [v63] fun v64 =>
      Pu Try.prog (.bin .eql 3) [v64, (.p (.int .i64 3))] fun v65 =>
      CdA v65
        (
        Pu Try.prog (.addOff 2) [v1] fun v66 =>
        RdS Try.prog (.ld 3 true) [v66] fun v67 =>
        Ca Try.prog (.fn (.func 22) [] []) [v67] fun v68 =>
        Pu Try.prog (.bin .neq 28) [v68, (.p (.int .i64 0))] fun v70 =>
        CdA v70
          (
          Rt Try.prog H.nx v68 Q
          ) (
          k_84 []
          )
        ) (
        k_84 []
        )
      ) (S_wordhoardref_termWrong_K2 Q H v1)
    )
def S_wordhoardref_termWrong_K4 (Q : AV → AH → Prop) (H : AH) (v1 : AV) (vs : List AV) : AH → Prop :=
  Pu Try.prog (.addOff 5) [v1] fun v21 =>
  RdS Try.prog (.ld 1 false) [v21] fun v22 =>
  Pu Try.prog .len [v22] fun v23 =>
  Pu Try.prog (.bin .neq 3) [v23, (vs.getD 0 .any)] fun v25 =>
  CdA v25
    (
    Rt Try.prog H.nx (.p (.int .i64 1)) Q
    ) (S_wordhoardref_termWrong_C3 Q H v1)
def S_wordhoardref_termWrong (a0 : AV) (Q : AV → AH → Prop) (H : AH) : Prop := (
    Rg 2 fun b =>
    Al (b + 0) (.bx 27) [a0] fun v1 =>
    Pu Try.prog (.addOff 0) [v1] fun v7 =>
    RdS Try.prog (.ld 1 false) [v7] fun v8 =>
    Pu Try.prog (.bin .lss 3) [v8, (.p (.int .i64 1))] fun v9 =>
    Gd v9 false (fun k => Pu Try.prog (.addOff 0) [v1] k) fun v11 =>
    Gd v9 false (fun k_9 => RdS Try.prog (.ld 1 false) [v11] k_9) fun v12 =>
    Gd v9 false (fun k_11 => Pu Try.prog (.bin .gtr 3) [v12, (.p (.int .i64 4))] k_11) fun v13 =>
    Pu Try.prog .pick [v9, (.p (.bool true)), v13] fun v14 =>
    CdA v14
      (
      Rt Try.prog H.nx (.p (.int .i64 4)) Q
      ) (
      CutA Try.prog 1 (fun k_13 =>
        Pu Try.prog (.addOff 0) [v1] fun v15 =>
        RdS Try.prog (.ld 1 false) [v15] fun v16 =>
        Pu Try.prog (.bin .gtr 3) [v16, (.p (.int .i64 2))] fun v17 =>
        CdA v17
          (
          Pu Try.prog (.addOff 0) [v1] fun v18 =>
          RdS Try.prog (.ld 1 false) [v18] fun v19 =>
          Pu Try.prog (.bin .sub 3) [v19, (.p (.int .i64 2))] fun v20 =>
          k_13 [v20]
          ) (
          k_13 [(.p (.int .i64 0))]
          )
        ) (S_wordhoardref_termWrong_K4 Q H v1)
      )
    ) H
theorem eq_wordhoardref_termWrong (a0 : AV) (Q : AV → AH → Prop) (H : AH) : FnA Try.prog 88 (regsF Try.f28) ac_wordhoardref_termWrong [.tm 2] [a0] H Q = S_wordhoardref_termWrong a0 Q H := by kernel_rfl
theorem tri_wordhoardref_termWrong {a0 : AV} {H : AH} {Q : AV → AH → Prop} (h : S_wordhoardref_termWrong a0 Q H) : Tri Try.prog 28 [a0] H Q :=
  tri_of (Ms := [#[], #[], #[], #[], #[], #[], #[], #[], #[], #[], #[], #[], #[], #[], #[], #[], #[], #[], #[], #[], #[]]) mixed Try.func28 rfl (by kernel_rfl) (by kernel_rfl) rfl (of_decide_eq_true rfl : 1 ≤ 88) ((eq_wordhoardref_termWrong a0 Q H).symm ▸ h : FnA Try.prog 88 (regsF Try.f28) ac_wordhoardref_termWrong [.tm 2] [a0] H Q)

/-! wordhoard/wordhoardref.IsSpot -/
def ac_wordhoardref_IsSpot : AC := (.seq (.reg 0) (.seq (.reg 1) .ret))
def S_wordhoardref_IsSpot (a0 : AV) (Q : AV → AH → Prop) (H : AH) : Prop := (
    Rg 2 fun b =>
    Al (b + 0) (.bx 27) [a0] fun v1 =>
    Pu Try.prog (.addOff 0) [v1] fun v3 =>
    RdS Try.prog (.ld 1 false) [v3] fun v4 =>
    Pu Try.prog (.bin .eql 3) [v4, (.p (.int .i64 4))] fun v5 =>
    Gd v5 true (fun k => Pu Try.prog (.addOff 5) [v1] k) fun v7 =>
    Gd v5 true (fun k_9 => RdS Try.prog (.ld 1 false) [v7] k_9) fun v8 =>
    Gd v5 true (fun k_11 => Pu Try.prog (.idx 6) [v8, (.p (.int .i64 0))] k_11) fun v9 =>
    Gd v5 true (fun k_13 => Pu Try.prog (.addOff 0) [v9] k_13) fun v10 =>
    Gd v5 true (fun k_15 => RdS Try.prog (.ld 1 false) [v10] k_15) fun v11 =>
    Gd v5 true (fun k_17 => Pu Try.prog (.bin .eql 3) [v11, (.p (.int .i64 3))] k_17) fun v12 =>
    Pu Try.prog .pick [v5, v12, (.p (.bool false))] fun v13 =>
    Rt Try.prog H.nx v13 Q
    ) H
theorem eq_wordhoardref_IsSpot (a0 : AV) (Q : AV → AH → Prop) (H : AH) : FnA Try.prog 14 (regsF Try.f33) ac_wordhoardref_IsSpot [.tm 2] [a0] H Q = S_wordhoardref_IsSpot a0 Q H := by kernel_rfl
theorem tri_wordhoardref_IsSpot {a0 : AV} {H : AH} {Q : AV → AH → Prop} (h : S_wordhoardref_IsSpot a0 Q H) : Tri Try.prog 33 [a0] H Q :=
  tri_of (Ms := [#[], #[]]) mixed Try.func33 rfl (by kernel_rfl) (by kernel_rfl) rfl (of_decide_eq_true rfl : 1 ≤ 14) ((eq_wordhoardref_IsSpot a0 Q H).symm ▸ h : FnA Try.prog 14 (regsF Try.f33) ac_wordhoardref_IsSpot [.tm 2] [a0] H Q)

/-! wordhoard/wordhoardref.TypeSize -/
def ac_wordhoardref_TypeSize : AC := (.seq (.reg 0) (.seq (.reg 1) (.seq (.seq (.reg 2) (.block 0 (.loop [5, 6] [(7, 30)] (.seq (.seq (.reg 3) (.cond (.tmp 16) .skip (.exit 0))) (.seq (.block 1 (.reg 4)) (.reg 5)))))) (.seq (.seq (.reg 6) (.cond (.tmp 32) (.seq (.reg 7) .ret) .skip)) (.seq (.reg 8) .ret)))))
def S_wordhoardref_TypeSize_L1 (a1 : AV) (Q : AV → AH → Prop) (H : AH) (v2 : AV) (vs : List AV) (k : List AV → AH → Prop) : AH → Prop :=
  Pu Try.prog (.addOff 2) [v2] fun v8 =>
  RdS Try.prog (.ld 1 false) [v8] fun v9 =>
  Pu Try.prog .len [v9] fun v10 =>
  Pu Try.prog (.bin .lss 3) [(vs.getD 1 .any), v10] fun v11 =>
  Gd v11 true (fun k_10 => k_10 (vs.getD 0 .any)) fun v13 =>
  Gd v11 true (fun k_12 => k_12 a1) fun v14 =>
  Gd v11 true (fun k_14 => Pu Try.prog (.bin .leq 3) [v13, v14] k_14) fun v15 =>
  Pu Try.prog .pick [v11, v15, (.p (.bool false))] fun v16 =>
  CdA v16
    (
    Pu Try.prog (.addOff 2) [v2] fun v20 =>
    RdS Try.prog (.ld 1 false) [v20] fun v21 =>
    Pu Try.prog (.idx 3) [v21, (vs.getD 1 .any)] fun v23 =>
    RdS Try.prog (.ld 3 true) [v23] fun v24 =>
    Pu Try.prog (.bin .sub 3) [a1, (vs.getD 0 .any)] fun v27 =>
    Ca Try.prog (.fn (.func 42) [] []) [v24, v27] fun v28 =>
    Pu Try.prog (.bin .add 3) [(vs.getD 0 .any), v28] fun v29 =>
    Pu Try.prog (.bin .add 3) [(vs.getD 1 .any), (.p (.int .i64 1))] fun v18 =>
    k [v29, v18]
    ) (
    Pu Try.prog (.bin .gtr 3) [(vs.getD 0 .any), a1] fun v32 =>
    CdA v32
      (
      Pu Try.prog (.bin .add 3) [a1, (.p (.int .i64 1))] fun v34 =>
      Rt Try.prog H.nx v34 Q
      ) (
      Rt Try.prog H.nx (vs.getD 0 .any) Q
      )
    )
def S_wordhoardref_TypeSize (a0 a1 : AV) (Q : AV → AH → Prop) (H : AH) : Prop := (
    Rg 2 fun b =>
    Al (b + 0) (.bx 24) [a0] fun v2 =>
    LoopA Try.prog 2 (S_wordhoardref_TypeSize_L1 a1 Q H v2) [(.p (.int .i64 1)), (.p (.int .i64 0))]
    ) H
theorem eq_wordhoardref_TypeSize (a0 a1 : AV) (Q : AV → AH → Prop) (H : AH) : FnA Try.prog 36 (regsF Try.f42) ac_wordhoardref_TypeSize [.tm 4] [a0, a1] H Q = S_wordhoardref_TypeSize a0 a1 Q H := by kernel_rfl
theorem tri_wordhoardref_TypeSize {a0 a1 : AV} {H : AH} {Q : AV → AH → Prop} (h : S_wordhoardref_TypeSize a0 a1 Q H) : Tri Try.prog 42 [a0, a1] H Q :=
  tri_of (Ms := [#[], #[], #[], #[], #[], #[], #[], #[], #[]]) mixed Try.func42 rfl (by kernel_rfl) (by kernel_rfl) rfl (of_decide_eq_true rfl : 2 ≤ 36) ((eq_wordhoardref_TypeSize a0 a1 Q H).symm ▸ h : FnA Try.prog 36 (regsF Try.f42) ac_wordhoardref_TypeSize [.tm 4] [a0, a1] H Q)

/-! wordhoard/wordhoardref.typeWrong -/
def ac_wordhoardref_typeWrong : AC := (.seq (.reg 0) (.seq (.seq (.reg 1) (.cond (.tmp 12) (.seq (.reg 2) .ret) .skip)) (.seq (.seq (.reg 3) (.cond (.tmp 32) (.seq (.reg 4) .ret) .skip)) (.seq (.seq (.reg 5) (.cond (.tmp 50) (.seq (.reg 6) .ret) .skip)) (.seq (.seq (.reg 7) (.block 0 (.loop [3] [(2, 3), (4, 5), (51, 67)] (.seq (.seq (.reg 8) (.cond (.tmp 55) .skip (.exit 0))) (.seq (.block 1 (.seq (.reg 9) (.seq (.reg 10) (.cond (.tmp 65) (.seq (.reg 11) .ret) .skip)))) (.reg 12)))))) (.seq (.reg 13) .ret))))))
def S_wordhoardref_typeWrong_L1 (Q : AV → AH → Prop) (H : AH) (v1 : AV) (vs : List AV) (k_71 : List AV → AH → Prop) : AH → Prop :=
  Pu Try.prog (.addOff 2) [v1] fun v52 =>
  RdS Try.prog (.ld 1 false) [v52] fun v53 =>
  Pu Try.prog .len [v53] fun v54 =>
  Pu Try.prog (.bin .lss 3) [(vs.getD 0 .any), v54] fun v55 =>
  CdA v55
    (
    Pu Try.prog (.addOff 2) [v1] fun v58 =>
    RdS Try.prog (.ld 1 false) [v58] fun v59 =>
    Pu Try.prog (.idx 3) [v59, (vs.getD 0 .any)] fun v61 =>
    RdS Try.prog (.ld 3 true) [v61] fun v62 =>
    Ca Try.prog (.fn (.func 43) [] []) [v62] fun v63 =>
    Pu Try.prog (.bin .neq 28) [v63, (.p (.int .i64 0))] fun v65 =>
    CdA v65
      (
      Rt Try.prog H.nx v63 Q
      ) (
      Pu Try.prog (.bin .add 3) [(vs.getD 0 .any), (.p (.int .i64 1))] fun v57 =>
      k_71 [v57]
      )
    ) (
    Rt Try.prog H.nx (.p (.int .i64 0)) Q
    )
def S_wordhoardref_typeWrong_C2 (Q : AV → AH → Prop) (H : AH) (v1 : AV) : AH → Prop :=
  Pu Try.prog (.addOff 1) [v1] fun v33 =>
  RdS Try.prog (.ld 1 false) [v33] fun v34 =>
  Pu Try.prog (.bin .lss 3) [v34, (.p (.int .i64 0))] fun v35 =>
  Gd v35 false (fun k_48 => Pu Try.prog (.addOff 1) [v1] k_48) fun v37 =>
  Gd v35 false (fun k_50 => RdS Try.prog (.ld 1 false) [v37] k_50) fun v38 =>
  Gd v35 false (fun k_52 => Pu Try.prog (.bin .gtr 3) [v38, (.p (.int .i64 9))] k_52) fun v39 =>
  Pu Try.prog .pick [v35, (.p (.bool true)), v39] fun v40 =>
  Gd v40 false (fun k_55 => Pu Try.prog (.addOff 0) [v1] k_55) fun v42 =>
  Gd v40 false (fun k_57 => RdS Try.prog (.ld 1 false) [v42] k_57) fun v43 =>
  Gd v40 false (fun k_59 => Pu Try.prog (.bin .eql 3) [v43, (.p (.int .i64 2))] k_59) fun v44 =>
  Gd v40 false (fun k_61 => k_61 v44) fun v45 =>
  Gd v45 true (fun k_63 => Pu Try.prog (.addOff 1) [v1] k_63) fun v46 =>
  Gd v45 true (fun k_65 => RdS Try.prog (.ld 1 false) [v46] k_65) fun v47 =>
  Gd v45 true (fun k_67 => Pu Try.prog (.bin .gtr 3) [v47, (.p (.int .i64 0))] k_67) fun v48 =>
  Gd v40 false (fun k_69 => Pu Try.prog .pick [v45, v48, (.p (.bool false))] k_69) fun v49 =>
  Pu Try.prog .pick [v40, (.p (.bool true)), v49] fun v50 =>
  CdA v50
    (
    Rt Try.prog H.nx (.p (.int .i64 3)) Q
    ) (
    LoopA Try.prog 1 (S_wordhoardref_typeWrong_L1 Q H v1) [(.p (.int .i64 0))]
    )
def S_wordhoardref_typeWrong_C3 (Q : AV → AH → Prop) (H : AH) (v1 : AV) : AH → Prop :=
  Pu Try.prog (.addOff 0) [v1] fun v13 =>
  RdS Try.prog (.ld 1 false) [v13] fun v14 =>
  Pu Try.prog (.bin .eql 3) [v14, (.p (.int .i64 1))] fun v15 =>
  Gd v15 true (fun k_17 => Pu Try.prog (.addOff 2) [v1] k_17) fun v17 =>
  Gd v15 true (fun k_19 => RdS Try.prog (.ld 1 false) [v17] k_19) fun v18 =>
  Gd v15 true (fun k_21 => Pu Try.prog .len [v18] k_21) fun v19 =>
  Gd v15 true (fun k_23 => Pu Try.prog (.bin .gtr 3) [v19, (.p (.int .i64 0))] k_23) fun v20 =>
  Pu Try.prog .pick [v15, v20, (.p (.bool false))] fun v21 =>
  Gd v21 false (fun k_26 => Pu Try.prog (.addOff 0) [v1] k_26) fun v23 =>
  Gd v21 false (fun k_28 => RdS Try.prog (.ld 1 false) [v23] k_28) fun v24 =>
  Gd v21 false (fun k_30 => Pu Try.prog (.bin .eql 3) [v24, (.p (.int .i64 2))] k_30) fun v25 =>
  Gd v21 false (fun k_32 => k_32 v25) fun v26 =>
  Gd v26 true (fun k_34 => Pu Try.prog (.addOff 2) [v1] k_34) fun v27 =>
  Gd v26 true (fun k_36 => RdS Try.prog (.ld 1 false) [v27] k_36) fun v28 =>
  Gd v26 true (fun k_38 => Pu Try.prog .len [v28] k_38) fun v29 =>
  Gd v26 true (fun k_40 => Pu Try.prog (.bin .neq 3) [v29, (.p (.int .i64 2))] k_40) fun v30 =>
  Gd v21 false (fun k_42 => Pu Try.prog .pick [v26, v30, (.p (.bool false))] k_42) fun v31 =>
  Pu Try.prog .pick [v21, (.p (.bool true)), v31] fun v32 =>
  CdA v32
    (
    Rt Try.prog H.nx (.p (.int .i64 1)) Q
    ) (S_wordhoardref_typeWrong_C2 Q H v1)
def S_wordhoardref_typeWrong (a0 : AV) (Q : AV → AH → Prop) (H : AH) : Prop := (
    Rg 2 fun b =>
    Al (b + 0) (.bx 24) [a0] fun v1 =>
    Pu Try.prog (.addOff 0) [v1] fun v5 =>
    RdS Try.prog (.ld 1 false) [v5] fun v6 =>
    Pu Try.prog (.bin .neq 3) [v6, (.p (.int .i64 1))] fun v7 =>
    Gd v7 true (fun k => Pu Try.prog (.addOff 0) [v1] k) fun v9 =>
    Gd v7 true (fun k_9 => RdS Try.prog (.ld 1 false) [v9] k_9) fun v10 =>
    Gd v7 true (fun k_11 => Pu Try.prog (.bin .neq 3) [v10, (.p (.int .i64 2))] k_11) fun v11 =>
    Pu Try.prog .pick [v7, v11, (.p (.bool false))] fun v12 =>
    CdA v12
      (
      Rt Try.prog H.nx (.p (.int .i64 4)) Q
      ) (S_wordhoardref_typeWrong_C3 Q H v1)
    ) H
theorem eq_wordhoardref_typeWrong (a0 : AV) (Q : AV → AH → Prop) (H : AH) : FnA Try.prog 67 (regsF Try.f43) ac_wordhoardref_typeWrong [.tm 2] [a0] H Q = S_wordhoardref_typeWrong a0 Q H := by kernel_rfl
theorem tri_wordhoardref_typeWrong {a0 : AV} {H : AH} {Q : AV → AH → Prop} (h : S_wordhoardref_typeWrong a0 Q H) : Tri Try.prog 43 [a0] H Q :=
  tri_of (Ms := [#[], #[], #[], #[], #[], #[], #[], #[], #[], #[], #[], #[], #[], #[]]) mixed Try.func43 rfl (by kernel_rfl) (by kernel_rfl) rfl (of_decide_eq_true rfl : 1 ≤ 67) ((eq_wordhoardref_typeWrong a0 Q H).symm ▸ h : FnA Try.prog 67 (regsF Try.f43) ac_wordhoardref_typeWrong [.tm 2] [a0] H Q)
end Go.Proofs.Ytkocpdekknfmaaa
