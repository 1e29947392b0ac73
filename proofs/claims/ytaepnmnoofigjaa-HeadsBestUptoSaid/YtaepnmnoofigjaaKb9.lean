/- Texts that the proof rests on, part 9: what each holds stands at its head. -/
import Derived.Test.YtaepnmnoofigjaaKb8

/- Abstract walks of functions, written by a program (wip/aw/aw.py): each equation is checked by the kernel. -/
namespace Go.Proofs.Ytaepnmnoofigjaa
open Go.RowKit

/-! slices.ContainsFunc[[]int,int] -/
def ac_slices_ContainsFunc_s_int_int : AC := (.seq (.reg 0) (.seq (.reg 1) .ret))
def S_slices_ContainsFunc_s_int_int (a0 a1 : AV) (Q : AV → AH → Prop) (H : AH) : Prop := (
    Ca Try.prog (.fn (.func 33) [] []) [a0, a1] fun v7 =>
    Pu Try.prog (.bin .geq 3) [v7, (.p (.int .i64 0))] fun v8 =>
    Rt Try.prog H.nx v8 Q
    ) H
theorem eq_slices_ContainsFunc_s_int_int (a0 a1 : AV) (Q : AV → AH → Prop) (H : AH) : FnA Try.prog 9 (regsF Try.f27) ac_slices_ContainsFunc_s_int_int [.tm 4] [a0, a1] H Q = S_slices_ContainsFunc_s_int_int a0 a1 Q H := by kernel_rfl
theorem tri_slices_ContainsFunc_s_int_int {a0 a1 : AV} {H : AH} {Q : AV → AH → Prop} (h : S_slices_ContainsFunc_s_int_int a0 a1 Q H) : Tri Try.prog 27 [a0, a1] H Q :=
  tri_of (Ms := [#[], #[]]) mixed Try.func27 rfl (by kernel_rfl) (by kernel_rfl) rfl (of_decide_eq_true rfl : 2 ≤ 9) ((eq_slices_ContainsFunc_s_int_int a0 a1 Q H).symm ▸ h : FnA Try.prog 9 (regsF Try.f27) ac_slices_ContainsFunc_s_int_int [.tm 4] [a0, a1] H Q)

/-! slices.IndexFunc[[]int,int] -/
def ac_slices_IndexFunc_s_int_int : AC := (.seq (.reg 0) (.seq (.seq (.reg 1) (.block 0 (.loop [8] [(4, 6), (9, 19)] (.seq (.reg 2) (.seq (.cond (.tmp 9) .skip (.exit 0)) (.seq (.block 1 (.seq (.reg 3) (.seq (.reg 4) (.cond (.tmp 16) (.seq (.reg 5) .ret) .skip)))) (.reg 6))))))) (.seq (.reg 7) .ret)))
def S_slices_IndexFunc_s_int_int_L1 (a0 : AV) (a1 : AV) (Q : AV → AH → Prop) (H : AH) (v7 : AV) (vs : List AV) (k : List AV → AH → Prop) : AH → Prop :=
  Pu Try.prog (.bin .lss 3) [(vs.getD 0 .any), v7] fun v9 =>
  CdA v9
    (
    Pu Try.prog (.idx 1) [a0, (vs.getD 0 .any)] fun v14 =>
    RdS Try.prog (.ld 1 false) [v14] fun v15 =>
    Ca Try.prog a1 [v15] fun v16 =>
    CdA v16
      (
      Rt Try.prog H.nx (vs.getD 0 .any) Q
      ) (
      Pu Try.prog (.bin .add 3) [(vs.getD 0 .any), (.p (.int .i64 1))] fun v18 =>
      k [v18]
      )
    ) (
    Rt Try.prog H.nx (.p (.int .i64 (-1))) Q
    )
def S_slices_IndexFunc_s_int_int (a0 a1 : AV) (Q : AV → AH → Prop) (H : AH) : Prop := (
    Pu Try.prog .len [a0] fun v7 =>
    LoopA Try.prog 1 (S_slices_IndexFunc_s_int_int_L1 a0 a1 Q H v7) [(.p (.int .i64 0))]
    ) H
theorem eq_slices_IndexFunc_s_int_int (a0 a1 : AV) (Q : AV → AH → Prop) (H : AH) : FnA Try.prog 19 (regsF Try.f33) ac_slices_IndexFunc_s_int_int [.tm 4] [a0, a1] H Q = S_slices_IndexFunc_s_int_int a0 a1 Q H := by kernel_rfl
theorem tri_slices_IndexFunc_s_int_int {a0 a1 : AV} {H : AH} {Q : AV → AH → Prop} (h : S_slices_IndexFunc_s_int_int a0 a1 Q H) : Tri Try.prog 33 [a0, a1] H Q :=
  tri_of (Ms := [#[], #[], #[], #[], #[], #[], #[], #[]]) mixed Try.func33 rfl (by kernel_rfl) (by kernel_rfl) rfl (of_decide_eq_true rfl : 2 ≤ 19) ((eq_slices_IndexFunc_s_int_int a0 a1 Q H).symm ▸ h : FnA Try.prog 19 (regsF Try.f33) ac_slices_IndexFunc_s_int_int [.tm 4] [a0, a1] H Q)

/-! slices.Contains[[]int,int] -/
def ac_slices_Contains_s_int_int : AC := (.seq (.reg 0) (.seq (.reg 1) .ret))
def S_slices_Contains_s_int_int (a0 a1 : AV) (Q : AV → AH → Prop) (H : AH) : Prop := (
    Ca Try.prog (.fn (.func 36) [] []) [a0, a1] fun v7 =>
    Pu Try.prog (.bin .geq 3) [v7, (.p (.int .i64 0))] fun v8 =>
    Rt Try.prog H.nx v8 Q
    ) H
theorem eq_slices_Contains_s_int_int (a0 a1 : AV) (Q : AV → AH → Prop) (H : AH) : FnA Try.prog 9 (regsF Try.f35) ac_slices_Contains_s_int_int [.tm 4] [a0, a1] H Q = S_slices_Contains_s_int_int a0 a1 Q H := by kernel_rfl
theorem tri_slices_Contains_s_int_int {a0 a1 : AV} {H : AH} {Q : AV → AH → Prop} (h : S_slices_Contains_s_int_int a0 a1 Q H) : Tri Try.prog 35 [a0, a1] H Q :=
  tri_of (Ms := [#[], #[]]) mixed Try.func35 rfl (by kernel_rfl) (by kernel_rfl) rfl (of_decide_eq_true rfl : 2 ≤ 9) ((eq_slices_Contains_s_int_int a0 a1 Q H).symm ▸ h : FnA Try.prog 9 (regsF Try.f35) ac_slices_Contains_s_int_int [.tm 4] [a0, a1] H Q)

/-! slices.Index[[]int,int] -/
def ac_slices_Index_s_int_int : AC := (.seq (.reg 0) (.seq (.seq (.reg 1) (.block 0 (.loop [8] [(4, 6), (9, 19)] (.seq (.reg 2) (.seq (.cond (.tmp 9) .skip (.exit 0)) (.seq (.block 1 (.seq (.reg 3) (.seq (.reg 4) (.cond (.tmp 16) (.seq (.reg 5) .ret) .skip)))) (.reg 6))))))) (.seq (.reg 7) .ret)))
def S_slices_Index_s_int_int_L1 (a0 : AV) (a1 : AV) (Q : AV → AH → Prop) (H : AH) (v7 : AV) (vs : List AV) (k : List AV → AH → Prop) : AH → Prop :=
  Pu Try.prog (.bin .lss 3) [(vs.getD 0 .any), v7] fun v9 =>
  CdA v9
    (
    Pu Try.prog (.idx 1) [a0, (vs.getD 0 .any)] fun v14 =>
    RdS Try.prog (.ld 1 false) [v14] fun v15 =>
    Pu Try.prog (.bin .eql 3) [a1, v15] fun v16 =>
    CdA v16
      (
      Rt Try.prog H.nx (vs.getD 0 .any) Q
      ) (
      Pu Try.prog (.bin .add 3) [(vs.getD 0 .any), (.p (.int .i64 1))] fun v18 =>
      k [v18]
      )
    ) (
    Rt Try.prog H.nx (.p (.int .i64 (-1))) Q
    )
def S_slices_Index_s_int_int (a0 a1 : AV) (Q : AV → AH → Prop) (H : AH) : Prop := (
    Pu Try.prog .len [a0] fun v7 =>
    LoopA Try.prog 1 (S_slices_Index_s_int_int_L1 a0 a1 Q H v7) [(.p (.int .i64 0))]
    ) H
theorem eq_slices_Index_s_int_int (a0 a1 : AV) (Q : AV → AH → Prop) (H : AH) : FnA Try.prog 19 (regsF Try.f36) ac_slices_Index_s_int_int [.tm 4] [a0, a1] H Q = S_slices_Index_s_int_int a0 a1 Q H := by kernel_rfl
theorem tri_slices_Index_s_int_int {a0 a1 : AV} {H : AH} {Q : AV → AH → Prop} (h : S_slices_Index_s_int_int a0 a1 Q H) : Tri Try.prog 36 [a0, a1] H Q :=
  tri_of (Ms := [#[], #[], #[], #[], #[], #[], #[], #[]]) mixed Try.func36 rfl (by kernel_rfl) (by kernel_rfl) rfl (of_decide_eq_true rfl : 2 ≤ 19) ((eq_slices_Index_s_int_int a0 a1 Q H).symm ▸ h : FnA Try.prog 19 (regsF Try.f36) ac_slices_Index_s_int_int [.tm 4] [a0, a1] H Q)

/-! wordhoard/heads.Best -/
def ac_heads_Best : AC := (.seq (.reg 0) (.seq (.seq (.reg 1) (.seq (.reg 2) (.cond (.tmp 10) (.seq (.reg 3) .ret) .skip))) (.seq (.reg 4) (.seq (.reg 5) .ret))))
def S_heads_Best (a0 : AV) (Q : AV → AH → Prop) (H : AH) : Prop := (
    Rg 4 fun b =>
    Al (b + 0) (.bx 22) [a0] fun v1 =>
    RdS Try.prog (.ld 1 false) [v1] fun v7 =>
    Ca Try.prog (.fn (.func 12) [] []) [v7] fun v8 =>
    Pu Try.prog (.bin .neq 25) [v8, (.p (.int .i64 0))] fun v10 =>
    CdA v10
      (
      Rt Try.prog H.nx (.tup [(.p (.slice none 0 0)), (.p (.int .i64 0)), v8]) Q
      ) (
      RdS Try.prog (.ld 1 false) [v1] fun v12 =>
      Pu Try.prog .len [v12] fun v13 =>
      Pu Try.prog (.bin .sub 3) [v13, (.p (.int .i64 1))] fun v14 =>
      Pu Try.prog (.mkfn (.func 22) 0) [v1] fun v15 =>
      Ca Try.prog (.fn (.func 21) [] []) [v14, v15] fun v16 =>
      RdS Try.prog (.ld 1 false) [v1] fun v18 =>
      Ca Try.prog (.fn (.func 23) [] []) [v18, v16] fun v20 =>
      Rt Try.prog H.nx (.tup [v16, v20, (.p (.int .i64 0))]) Q
      )
    ) H
theorem eq_heads_Best (a0 : AV) (Q : AV → AH → Prop) (H : AH) : FnA Try.prog 21 (regsF Try.f6) ac_heads_Best [.tm 2, .tm 3, .tm 4] [a0] H Q = S_heads_Best a0 Q H := by kernel_rfl
theorem tri_heads_Best {a0 : AV} {H : AH} {Q : AV → AH → Prop} (h : S_heads_Best a0 Q H) : Tri Try.prog 6 [a0] H Q :=
  tri_of (Ms := [#[], #[], #[], #[], #[], #[]]) mixed Try.func6 rfl (by kernel_rfl) (by kernel_rfl) rfl (of_decide_eq_true rfl : 1 ≤ 21) ((eq_heads_Best a0 Q H).symm ▸ h : FnA Try.prog 21 (regsF Try.f6) ac_heads_Best [.tm 2, .tm 3, .tm 4] [a0] H Q)

/-! wordhoard/heads.BestFlat -/
def ac_heads_BestFlat : AC := (.seq (.reg 0) (.seq (.seq (.reg 1) (.seq (.reg 2) (.cond (.tmp 16) (.seq (.reg 3) .ret) .skip))) (.seq (.reg 4) (.seq (.reg 5) (.seq (.seq (.reg 6) (.block 0 (.loop [40] [(9, 11), (41, 64)] (.seq (.reg 7) (.seq (.cond (.tmp 41) .skip (.exit 0)) (.seq (.block 1 (.seq (.reg 8) (.seq (.reg 9) (.seq (.reg 10) (.block 2 (.loop [52] [(10, 11), (53, 63)] (.seq (.reg 11) (.seq (.cond (.tmp 53) .skip (.exit 2)) (.seq (.block 3 (.seq (.reg 12) (.reg 13))) (.reg 14)))))))))) (.reg 15))))))) (.seq (.seq (.reg 16) (.block 4 (.loop [11] [(12, 13), (64, 82)] (.seq (.seq (.reg 17) (.cond (.tmp 66) .skip (.exit 4))) (.seq (.block 5 (.seq (.reg 18) (.block 6 (.loop [12] [(69, 82)] (.seq (.seq (.reg 19) (.cond (.tmp 73) .skip (.exit 6))) (.seq (.block 7 (.reg 20)) (.reg 21))))))) (.reg 22)))))) (.seq (.reg 23) (.seq (.reg 24) .ret))))))))
def S_heads_BestFlat_L1 (v19 : AV) (k : List AV → AH → Prop) (vs : List AV) (v43 : AV) (v51 : AV) (vs_34 : List AV) (k_33 : List AV → AH → Prop) : AH → Prop :=
  Pu Try.prog (.bin .lss 3) [(vs_34.getD 0 .any), v51] fun v53 =>
  CdA v53
    (
    Rg 8 fun b_36 =>
    Vw fun V_37 =>
    Pu Try.prog .nilck [v43] fun v56 =>
    Rd Try.prog V_37 (.ld 1 false) [v56] fun v57 =>
    Al (b_36 + 5) (.ms 56 2 16 [.p (.int .i64 0), .p (.int .i64 0)]) [v19, v19] fun v60 =>
    Pu Try.prog (.idx 1) [v57, (vs_34.getD 0 .any)] fun v61 =>
    Wr Try.prog (b_36 + 7) (.st 1) [v61, v60] fun _ _ =>
    Pu Try.prog (.bin .add 3) [(vs_34.getD 0 .any), (.p (.int .i64 1))] fun v62 =>
    k_33 [v62]
    ) (
    Pu Try.prog (.bin .add 3) [(vs.getD 0 .any), (.p (.int .i64 1))] fun v63 =>
    k [v63]
    )
def S_heads_BestFlat_L2 (v19 : AV) (v25 : AV) (k_46 : List AV → AH → Prop) (vs_47 : List AV) (vs_50 : List AV) (k_49 : List AV → AH → Prop) : AH → Prop :=
  Pu Try.prog (.bin .add 3) [(vs_50.getD 0 .any), (vs_47.getD 0 .any)] fun v71 =>
  Pu Try.prog (.bin .lss 3) [v71, v19] fun v73 =>
  CdA v73
    (
    Pu Try.prog (.bin .add 3) [(vs_50.getD 0 .any), (vs_47.getD 0 .any)] fun v80 =>
    Ca Try.prog (.fn (.func 24) [] []) [v25, (vs_50.getD 0 .any), v80] fun _ =>
    Pu Try.prog (.bin .add 3) [(vs_50.getD 0 .any), (.p (.int .i64 1))] fun v75 =>
    k_49 [v75]
    ) (
    Pu Try.prog (.bin .add 3) [(vs_47.getD 0 .any), (.p (.int .i64 1))] fun v68 =>
    k_46 [v68]
    )
def S_heads_BestFlat_L3 (a0 : AV) (Q : AV → AH → Prop) (H : AH) (v19 : AV) (v25 : AV) (vs_47 : List AV) (k_46 : List AV → AH → Prop) : AH → Prop :=
  Pu Try.prog (.bin .lss 3) [(vs_47.getD 0 .any), v19] fun v66 =>
  CdA v66
    (
    LoopA Try.prog 1 (S_heads_BestFlat_L2 v19 v25 k_46 vs_47) [(.p (.int .i64 0))]
    ) (
    Pu Try.prog (.bin .sub 3) [v19, (.p (.int .i64 1))] fun v84 =>
    Ca Try.prog (.fn (.func 25) [] []) [v25, (.p (.int .i64 0)), v84, (.p (.int .i64 0)), (.p (.bool false))] fun _ =>
    Vw fun V_59 =>
    Pu Try.prog .nilck [v25] fun v87 =>
    Pu Try.prog (.addOff 5) [v87] fun v88 =>
    Rd Try.prog V_59 (.ld 1 false) [v88] fun v89 =>
    Pu Try.prog .nilck [v25] fun v92 =>
    Pu Try.prog (.addOff 5) [v92] fun v93 =>
    Rd Try.prog V_59 (.ld 1 false) [v93] fun v94 =>
    CaV Try.prog V_59 (.fn (.func 23) [] []) [a0, v94] fun v95 =>
    Rt Try.prog H.nx (.tup [v89, v95, (.p (.int .i64 0))]) Q
    )
def S_heads_BestFlat_L4 (a0 : AV) (Q : AV → AH → Prop) (H : AH) (v19 : AV) (v25 : AV) (v38 : AV) (v39 : AV) (vs : List AV) (k : List AV → AH → Prop) : AH → Prop :=
  Pu Try.prog (.bin .lss 3) [(vs.getD 0 .any), v39] fun v41 =>
  CdA v41
    (
    Pu Try.prog (.idx 1) [v38, (vs.getD 0 .any)] fun v42 =>
    RdS Try.prog (.ld 1 false) [v42] fun v43 =>
    Rg 5 fun b_26 =>
    Al (b_26 + 2) (.ms 45 1 24 [.p (.slice none 0 0)]) [v19, v19] fun v46 =>
    Pu Try.prog .nilck [v43] fun v47 =>
    WrS Try.prog (b_26 + 4) (.st 1) [v47, v46] fun _ =>
    Pu Try.prog .nilck [v43] fun v49 =>
    RdS Try.prog (.ld 1 false) [v49] fun v50 =>
    Pu Try.prog .len [v50] fun v51 =>
    LoopA Try.prog 1 (S_heads_BestFlat_L1 v19 k vs v43 v51) [(.p (.int .i64 0))]
    ) (
    LoopA Try.prog 1 (S_heads_BestFlat_L3 a0 Q H v19 v25) [(.p (.int .i64 1))]
    )
def S_heads_BestFlat (a0 : AV) (Q : AV → AH → Prop) (H : AH) : Prop := (
    Ca Try.prog (.fn (.func 12) [] []) [a0] fun v14 =>
    Pu Try.prog (.bin .neq 25) [v14, (.p (.int .i64 0))] fun v16 =>
    CdA v16
      (
      Rt Try.prog H.nx (.tup [(.p (.slice none 0 0)), (.p (.int .i64 0)), v14]) Q
      ) (
      Pu Try.prog .len [a0] fun v19 =>
      Rg 7 fun b =>
      Pu Try.prog (.bin .sub 3) [v19, (.p (.int .i64 1))] fun v22 =>
      Al (b + 3) (.ms 3 1 8 [.p (.int .i64 0)]) [v22, v22] fun v23 =>
      Pu Try.prog (.bld [.p (.slice none 0 0), .p (.slice none 0 0), .p (.slice none 0 0), .p (.slice none 0 0), .p (.slice none 0 0), .p (.slice none 0 0)] [(0, 1), (5, 1)]) [a0, v23] fun v24 =>
      Al (b + 5) (.bx 42) [v24] fun v25 =>
      Rg 15 fun b_9 =>
      Vw fun _ =>
      Pu Try.prog .nilck [v25] fun v27 =>
      Pu Try.prog (.addOff 1) [v27] fun v28 =>
      Pu Try.prog .nilck [v25] fun v30 =>
      Pu Try.prog (.addOff 2) [v30] fun v31 =>
      Pu Try.prog .nilck [v25] fun v33 =>
      Pu Try.prog (.addOff 3) [v33] fun v34 =>
      Pu Try.prog .nilck [v25] fun v36 =>
      Pu Try.prog (.addOff 4) [v36] fun v37 =>
      Al (b_9 + 12) (.bs 43 1 4 [.p (.pointer none)] [(0, 1), (1, 1), (2, 1), (3, 1)]) [v28, v31, v34, v37] fun v38 =>
      Pu Try.prog .len [v38] fun v39 =>
      LoopA Try.prog 1 (S_heads_BestFlat_L4 a0 Q H v19 v25 v38 v39) [(.p (.int .i64 0))]
      )
    ) H
theorem eq_heads_BestFlat (a0 : AV) (Q : AV → AH → Prop) (H : AH) : FnA Try.prog 96 (regsF Try.f7) ac_heads_BestFlat [.tm 2, .tm 3, .tm 4] [a0] H Q = S_heads_BestFlat a0 Q H := by kernel_rfl
theorem tri_heads_BestFlat {a0 : AV} {H : AH} {Q : AV → AH → Prop} (h : S_heads_BestFlat a0 Q H) : Tri Try.prog 7 [a0] H Q :=
  tri_of (Ms := [#[], #[], #[], #[], #[], #[], #[0, 1, 3, 0, 8, 24, 0, 64, 192, 0, 512, 1536, 4095, 8191, 0], #[], #[], #[], #[], #[], #[], #[0, 1, 3, 0, 0, 16, 63, 127], #[], #[], #[], #[], #[], #[], #[], #[], #[], #[], #[0, 1, 3, 7, 0, 0, 32, 96, 224, 496, 1023, 2047, 4095]]) mixed Try.func7 rfl (by kernel_rfl) (by kernel_rfl) rfl (of_decide_eq_true rfl : 1 ≤ 96) ((eq_heads_BestFlat a0 Q H).symm ▸ h : FnA Try.prog 96 (regsF Try.f7) ac_heads_BestFlat [.tm 2, .tm 3, .tm 4] [a0] H Q)

/-! wordhoard/heads.One -/
def ac_heads_One : AC := (.seq (.reg 0) (.seq (.seq (.reg 1) (.seq (.reg 2) (.cond (.tmp 17) (.seq (.reg 3) .ret) .skip))) (.seq (.reg 4) (.seq (.reg 5) (.seq (.seq (.reg 6) (.block 0 (.loop [6, 7, 8] [(9, 11), (12, 14), (19, 54)] (.seq (.seq (.reg 7) (.cond (.tmp 22) .skip (.exit 0))) (.seq (.block 1 (.seq (.reg 8) (.seq (.reg 9) (.seq (.seq (.reg 10) (.block 2 (.loop [10, 32] [(12, 13), (33, 41)] (.seq (.reg 11) (.seq (.cond (.tmp 33) .skip (.exit 2)) (.seq (.block 3 (.seq (.reg 12) (.seq (.reg 13) (.cond (.tmp 37) (.reg 14) .skip)))) (.reg 15))))))) (.seq (.reg 16) (.seq (.reg 17) (.cond (.tmp 50) (.reg 18) .skip))))))) (.seq (.seq (.reg 19) (.reg 20)) (.reg 21))))))) (.seq (.seq (.reg 22) (.cond (.tmp 56) (.reg 23) .skip)) (.seq (.reg 24) .ret)))))))
def S_heads_One_C1 (v1 : AV) (k : List AV → AH → Prop) (vs : List AV) (v29 : AV) (vs_22 : List AV) : AH → Prop :=
  RdS Try.prog (.ld 1 false) [v1] fun v41 =>
  Ca Try.prog (.fn (.func 23) [] []) [v41, v29] fun v43 =>
  Pu Try.prog (.bin .eql 3) [(vs_22.getD 0 .any), (.p (.int .i64 1))] fun v45 =>
  Gd v45 true (fun k_34 => k_34 v43) fun v47 =>
  Gd v45 true (fun k_36 => k_36 (vs.getD 1 .any)) fun v48 =>
  Gd v45 true (fun k_38 => Pu Try.prog (.bin .gtr 3) [v47, v48] k_38) fun v49 =>
  Pu Try.prog .pick [v45, v49, (.p (.bool false))] fun v50 =>
  CdA v50
    (
    RdS Try.prog (.ld 1 false) [(vs.getD 2 .any)] fun v53 =>
    Rg 2 fun b_41 =>
    Al (b_41 + 0) (.nw 3 [.p (.int .i64 0)]) [] fun v8_42 =>
    WrS Try.prog (b_41 + 1) (.st 1) [v8_42, v53] fun _ =>
    Rg 3 fun b_44 =>
    RdS Try.prog (.ld 1 false) [v8_42] fun v23 =>
    Pu Try.prog (.bin .add 3) [v23, (.p (.int .i64 1))] fun v24 =>
    WrS Try.prog (b_44 + 2) (.st 1) [v8_42, v24] fun _ =>
    k [v29, v43, v8_42]
    ) (
    RdS Try.prog (.ld 1 false) [(vs.getD 2 .any)] fun v53_48 =>
    Rg 2 fun b_49 =>
    Al (b_49 + 0) (.nw 3 [.p (.int .i64 0)]) [] fun v8_50 =>
    WrS Try.prog (b_49 + 1) (.st 1) [v8_50, v53_48] fun _ =>
    Rg 3 fun b_52 =>
    RdS Try.prog (.ld 1 false) [v8_50] fun v23_53 =>
    Pu Try.prog (.bin .add 3) [v23_53, (.p (.int .i64 1))] fun v24_54 =>
    WrS Try.prog (b_52 + 2) (.st 1) [v8_50, v24_54] fun _ =>
    k [(vs.getD 0 .any), (vs.getD 1 .any), v8_50]
    )
def S_heads_One_L2 (v1 : AV) (k : List AV → AH → Prop) (vs : List AV) (v29 : AV) (v31 : AV) (vs_22 : List AV) (k_21 : List AV → AH → Prop) : AH → Prop :=
  Pu Try.prog (.bin .lss 3) [(vs_22.getD 1 .any), v31] fun v33 =>
  CdA v33
    (
    Pu Try.prog (.idx 1) [v29, (vs_22.getD 1 .any)] fun v34 =>
    RdS Try.prog (.ld 1 false) [v34] fun v35 =>
    Pu Try.prog (.bin .eql 3) [v35, (.p (.int .i64 0))] fun v37 =>
    CdA v37
      (
      Pu Try.prog (.bin .add 3) [(vs_22.getD 0 .any), (.p (.int .i64 1))] fun v39 =>
      Pu Try.prog (.bin .add 3) [(vs_22.getD 1 .any), (.p (.int .i64 1))] fun v40 =>
      k_21 [v39, v40]
      ) (
      Pu Try.prog (.bin .add 3) [(vs_22.getD 1 .any), (.p (.int .i64 1))] fun v40_29 =>
      k_21 [(vs_22.getD 0 .any), v40_29]
      )
    ) (S_heads_One_C1 v1 k vs v29 vs_22)
def S_heads_One_L3 (Q : AV → AH → Prop) (H : AH) (v1 : AV) (vs : List AV) (k : List AV → AH → Prop) : AH → Prop :=
  RdS Try.prog (.ld 1 false) [(vs.getD 2 .any)] fun v19 =>
  RdS Try.prog (.ld 1 false) [v1] fun v20 =>
  Pu Try.prog .len [v20] fun v21 =>
  Pu Try.prog (.bin .lss 3) [v19, v21] fun v22 =>
  CdA v22
    (
    RdS Try.prog (.ld 1 false) [v1] fun v25 =>
    Pu Try.prog .len [v25] fun v26 =>
    Pu Try.prog (.bin .sub 3) [v26, (.p (.int .i64 1))] fun v27 =>
    Pu Try.prog (.mkfn (.func 26) 0) [(vs.getD 2 .any), v1] fun v28 =>
    Ca Try.prog (.fn (.func 21) [] []) [v27, v28] fun v29 =>
    Pu Try.prog .len [v29] fun v31 =>
    LoopA Try.prog 2 (S_heads_One_L2 v1 k vs v29 v31) [(.p (.int .i64 0)), (.p (.int .i64 0))]
    ) (
    RdS Try.prog (.ld 1 false) [v1] fun v54 =>
    Pu Try.prog .len [v54] fun v55 =>
    Pu Try.prog (.bin .eql 3) [v55, (.p (.int .i64 1))] fun v56 =>
    CdA v56
      (
      Rt Try.prog H.nx (.tup [(vs.getD 0 .any), (.p (.int .i64 0)), (.p (.int .i64 0))]) Q
      ) (
      Rt Try.prog H.nx (.tup [(vs.getD 0 .any), (vs.getD 1 .any), (.p (.int .i64 0))]) Q
      )
    )
def S_heads_One (a0 : AV) (Q : AV → AH → Prop) (H : AH) : Prop := (
    Rg 4 fun b =>
    Al (b + 0) (.bx 22) [a0] fun v1 =>
    RdS Try.prog (.ld 1 false) [v1] fun v14 =>
    Ca Try.prog (.fn (.func 12) [] []) [v14] fun v15 =>
    Pu Try.prog (.bin .neq 25) [v15, (.p (.int .i64 0))] fun v17 =>
    CdA v17
      (
      Rt Try.prog H.nx (.tup [(.p (.slice none 0 0)), (.p (.int .i64 0)), v15]) Q
      ) (
      Rg 2 fun b_6 =>
      Al (b_6 + 0) (.nw 3 [.p (.int .i64 0)]) [] fun v8 =>
      WrS Try.prog (b_6 + 1) (.st 1) [v8, (.p (.int .i64 1))] fun _ =>
      LoopA Try.prog 3 (S_heads_One_L3 Q H v1) [(.p (.slice none 0 0)), (.p (.int .i64 (-1099511627776))), v8]
      )
    ) H
theorem eq_heads_One (a0 : AV) (Q : AV → AH → Prop) (H : AH) : FnA Try.prog 59 (regsF Try.f8) ac_heads_One [.tm 2, .tm 3, .tm 4] [a0] H Q = S_heads_One a0 Q H := by kernel_rfl
theorem tri_heads_One {a0 : AV} {H : AH} {Q : AV → AH → Prop} (h : S_heads_One a0 Q H) : Tri Try.prog 8 [a0] H Q :=
  tri_of (Ms := [#[], #[], #[], #[], #[], #[], #[], #[], #[], #[], #[], #[], #[], #[], #[], #[], #[], #[], #[], #[], #[], #[], #[], #[], #[]]) mixed Try.func8 rfl (by kernel_rfl) (by kernel_rfl) rfl (of_decide_eq_true rfl : 1 ≤ 59) ((eq_heads_One a0 Q H).symm ▸ h : FnA Try.prog 59 (regsF Try.f8) ac_heads_One [.tm 2, .tm 3, .tm 4] [a0] H Q)

/-! wordhoard/heads.Check -/
def ac_heads_Check : AC := (.seq (.reg 0) (.seq (.seq (.reg 1) (.cond (.tmp 14) (.seq (.reg 2) .ret) .skip)) (.seq (.seq (.reg 3) (.block 0 (.loop [17] [(2, 3), (4, 5), (18, 28)] (.seq (.reg 4) (.seq (.cond (.tmp 18) .skip (.exit 0)) (.seq (.block 1 (.seq (.reg 5) (.seq (.reg 6) (.cond (.tmp 26) (.seq (.reg 7) .ret) .skip)))) (.reg 8))))))) (.seq (.seq (.reg 9) (.block 2 (.loop [30] [(2, 3), (6, 7), (31, 37)] (.seq (.reg 10) (.seq (.cond (.tmp 31) .skip (.exit 2)) (.seq (.block 3 (.seq (.reg 11) (.seq (.reg 12) (.cond (.tmp 35) (.seq (.reg 13) .ret) .skip)))) (.reg 14))))))) (.seq (.reg 15) .ret)))))
def S_heads_Check_L1 (a0 : AV) (Q : AV → AH → Prop) (H : AH) (v29 : AV) (vs_23 : List AV) (k_22 : List AV → AH → Prop) : AH → Prop :=
  Pu Try.prog (.bin .lss 3) [(vs_23.getD 0 .any), v29] fun v31 =>
  CdA v31
    (
    Pu Try.prog (.idx 1) [a0, (vs_23.getD 0 .any)] fun v32 =>
    RdS Try.prog (.ld 1 false) [v32] fun v33 =>
    Ca Try.prog (.fn (.func 27) [] []) [v33, (.fn (.func 28) [] [])] fun v35 =>
    CdA v35
      (
      Rt Try.prog H.nx (.p (.int .i64 3)) Q
      ) (
      Pu Try.prog (.bin .add 3) [(vs_23.getD 0 .any), (.p (.int .i64 1))] fun v36 =>
      k_22 [v36]
      )
    ) (
    Rt Try.prog H.nx (.p (.int .i64 0)) Q
    )
def S_heads_Check_L2 (a0 : AV) (Q : AV → AH → Prop) (H : AH) (v16 : AV) (vs : List AV) (k_11 : List AV → AH → Prop) : AH → Prop :=
  Pu Try.prog (.bin .lss 3) [(vs.getD 0 .any), v16] fun v18 =>
  CdA v18
    (
    Pu Try.prog (.idx 1) [a0, (vs.getD 0 .any)] fun v19 =>
    RdS Try.prog (.ld 1 false) [v19] fun v20 =>
    Pu Try.prog .len [v20] fun v22 =>
    Pu Try.prog .len [a0] fun v24 =>
    Pu Try.prog (.bin .sub 3) [v24, (.p (.int .i64 1))] fun v25 =>
    Pu Try.prog (.bin .neq 3) [v22, v25] fun v26 =>
    CdA v26
      (
      Rt Try.prog H.nx (.p (.int .i64 1)) Q
      ) (
      Pu Try.prog (.bin .add 3) [(vs.getD 0 .any), (.p (.int .i64 1))] fun v27 =>
      k_11 [v27]
      )
    ) (
    Pu Try.prog .len [a0] fun v29 =>
    LoopA Try.prog 1 (S_heads_Check_L1 a0 Q H v29) [(.p (.int .i64 0))]
    )
def S_heads_Check (a0 : AV) (Q : AV → AH → Prop) (H : AH) : Prop := (
    Pu Try.prog .len [a0] fun v8 =>
    Pu Try.prog (.bin .lss 3) [v8, (.p (.int .i64 1))] fun v9 =>
    Gd v9 false (fun k => k a0) fun v11 =>
    Gd v9 false (fun k_6 => Pu Try.prog .len [v11] k_6) fun v12 =>
    Gd v9 false (fun k_8 => Pu Try.prog (.bin .gtr 3) [v12, (.p (.int .i64 13))] k_8) fun v13 =>
    Pu Try.prog .pick [v9, (.p (.bool true)), v13] fun v14 =>
    CdA v14
      (
      Rt Try.prog H.nx (.p (.int .i64 7)) Q
      ) (
      Pu Try.prog .len [a0] fun v16 =>
      LoopA Try.prog 1 (S_heads_Check_L2 a0 Q H v16) [(.p (.int .i64 0))]
      )
    ) H
theorem eq_heads_Check (a0 : AV) (Q : AV → AH → Prop) (H : AH) : FnA Try.prog 37 (regsF Try.f12) ac_heads_Check [.tm 2] [a0] H Q = S_heads_Check a0 Q H := by kernel_rfl
theorem tri_heads_Check {a0 : AV} {H : AH} {Q : AV → AH → Prop} (h : S_heads_Check a0 Q H) : Tri Try.prog 12 [a0] H Q :=
  tri_of (Ms := [#[], #[], #[], #[], #[], #[], #[], #[], #[], #[], #[], #[], #[], #[], #[], #[]]) mixed Try.func12 rfl (by kernel_rfl) (by kernel_rfl) rfl (of_decide_eq_true rfl : 1 ≤ 37) ((eq_heads_Check a0 Q H).symm ▸ h : FnA Try.prog 37 (regsF Try.f12) ac_heads_Check [.tm 2] [a0] H Q)

/-! wordhoard/heads.Tree -/
def ac_heads_Tree : AC := (.seq (.reg 0) (.seq (.seq (.reg 1) (.block 0 (.loop [8] [(2, 6), (9, 37)] (.seq (.reg 2) (.seq (.cond (.tmp 9) .skip (.exit 0)) (.seq (.block 1 (.seq (.reg 3) (.seq (.reg 4) (.block 2 (.loop [4, 5] [(2, 3), (13, 36)] (.seq (.seq (.reg 5) (.cond (.tmp 14) .skip (.exit 2))) (.block 3 (.seq (.seq (.reg 6) (.cond (.tmp 28) (.seq (.reg 7) .ret) .skip)) (.reg 8))))))))) (.reg 9))))))) (.seq (.reg 10) .ret)))
def S_heads_Tree_L1 (a0 : AV) (Q : AV → AH → Prop) (H : AH) (k : List AV → AH → Prop) (vs : List AV) (vs_7 : List AV) (k_6 : List AV → AH → Prop) : AH → Prop :=
  Pu Try.prog (.bin .neq 3) [(vs_7.getD 0 .any), (.p (.int .i64 0))] fun v14 =>
  CdA v14
    (
    Pu Try.prog (.bin .lss 3) [(vs_7.getD 0 .any), (.p (.int .i64 0))] fun v16 =>
    Gd v16 false (fun k_11 => k_11 (vs_7.getD 0 .any)) fun v18 =>
    Gd v16 false (fun k_13 => k_13 a0) fun v19 =>
    Gd v16 false (fun k_15 => Pu Try.prog .len [v19] k_15) fun v20 =>
    Gd v16 false (fun k_17 => Pu Try.prog (.bin .gtr 3) [v18, v20] k_17) fun v21 =>
    Pu Try.prog .pick [v16, (.p (.bool true)), v21] fun v22 =>
    Gd v22 false (fun k_20 => k_20 (vs_7.getD 1 .any)) fun v24 =>
    Gd v22 false (fun k_22 => k_22 a0) fun v25 =>
    Gd v22 false (fun k_24 => Pu Try.prog .len [v25] k_24) fun v26 =>
    Gd v22 false (fun k_26 => Pu Try.prog (.bin .gtr 3) [v24, v26] k_26) fun v27 =>
    Pu Try.prog .pick [v22, (.p (.bool true)), v27] fun v28 =>
    CdA v28
      (
      Rt Try.prog H.nx (.p (.bool false)) Q
      ) (
      Pu Try.prog (.bin .sub 3) [(vs_7.getD 0 .any), (.p (.int .i64 1))] fun v31 =>
      Pu Try.prog (.idx 1) [a0, v31] fun v32 =>
      RdS Try.prog (.ld 1 false) [v32] fun v33 =>
      Pu Try.prog (.bin .add 3) [(vs_7.getD 1 .any), (.p (.int .i64 1))] fun v35 =>
      k_6 [v33, v35]
      )
    ) (
    Pu Try.prog (.bin .add 3) [(vs.getD 0 .any), (.p (.int .i64 1))] fun v36 =>
    k [v36]
    )
def S_heads_Tree_L2 (a0 : AV) (Q : AV → AH → Prop) (H : AH) (v7 : AV) (vs : List AV) (k : List AV → AH → Prop) : AH → Prop :=
  Pu Try.prog (.bin .lss 3) [(vs.getD 0 .any), v7] fun v9 =>
  CdA v9
    (
    Pu Try.prog (.bin .add 3) [(vs.getD 0 .any), (.p (.int .i64 1))] fun v12 =>
    LoopA Try.prog 2 (S_heads_Tree_L1 a0 Q H k vs) [v12, (.p (.int .i64 0))]
    ) (
    Rt Try.prog H.nx (.p (.bool true)) Q
    )
def S_heads_Tree (a0 : AV) (Q : AV → AH → Prop) (H : AH) : Prop := (
    Pu Try.prog .len [a0] fun v7 =>
    LoopA Try.prog 1 (S_heads_Tree_L2 a0 Q H v7) [(.p (.int .i64 0))]
    ) H
theorem eq_heads_Tree (a0 : AV) (Q : AV → AH → Prop) (H : AH) : FnA Try.prog 37 (regsF Try.f13) ac_heads_Tree [.tm 2] [a0] H Q = S_heads_Tree a0 Q H := by kernel_rfl
theorem tri_heads_Tree {a0 : AV} {H : AH} {Q : AV → AH → Prop} (h : S_heads_Tree a0 Q H) : Tri Try.prog 13 [a0] H Q :=
  tri_of (Ms := [#[], #[], #[], #[], #[], #[], #[], #[], #[], #[], #[]]) mixed Try.func13 rfl (by kernel_rfl) (by kernel_rfl) rfl (of_decide_eq_true rfl : 1 ≤ 37) ((eq_heads_Tree a0 Q H).symm ▸ h : FnA Try.prog 37 (regsF Try.f13) ac_heads_Tree [.tm 2] [a0] H Q)

/-! wordhoard/heads.Flat -/
def ac_heads_Flat : AC := (.seq (.reg 0) (.seq (.seq (.reg 1) (.cond (.tmp 9) (.seq (.reg 2) .ret) .skip)) (.seq (.seq (.reg 3) (.block 0 (.loop [12] [(2, 7), (13, 36)] (.seq (.reg 4) (.seq (.cond (.tmp 13) .skip (.exit 0)) (.seq (.block 1 (.seq (.reg 5) (.seq (.reg 6) (.seq (.reg 7) (.block 2 (.loop [6] [(2, 3), (23, 35)] (.seq (.seq (.reg 8) (.cond (.tmp 27) .skip (.exit 2))) (.seq (.block 3 (.seq (.reg 9) (.cond (.tmp 34) (.seq (.reg 10) .ret) .skip))) (.reg 11))))))))) (.reg 12))))))) (.seq (.reg 13) .ret))))
def S_heads_Flat_L1 (a0 : AV) (Q : AV → AH → Prop) (H : AH) (k : List AV → AH → Prop) (vs : List AV) (v16 : AV) (v18 : AV) (vs_13 : List AV) (k_12 : List AV → AH → Prop) : AH → Prop :=
  Pu Try.prog .mx [v18, v16] fun v26 =>
  Pu Try.prog (.bin .lss 3) [(vs_13.getD 0 .any), v26] fun v27 =>
  CdA v27
    (
    Ca Try.prog (.fn (.func 29) [] []) [a0, (vs_13.getD 0 .any), v16] fun v33 =>
    Pu Try.prog (.un .not) [v33] fun v34 =>
    CdA v34
      (
      Rt Try.prog H.nx (.p (.bool false)) Q
      ) (
      Pu Try.prog (.bin .add 3) [(vs_13.getD 0 .any), (.p (.int .i64 1))] fun v29 =>
      k_12 [v29]
      )
    ) (
    Pu Try.prog (.bin .add 3) [(vs.getD 0 .any), (.p (.int .i64 1))] fun v35 =>
    k [v35]
    )
def S_heads_Flat_L2 (a0 : AV) (Q : AV → AH → Prop) (H : AH) (v11 : AV) (vs : List AV) (k : List AV → AH → Prop) : AH → Prop :=
  Pu Try.prog (.bin .lss 3) [(vs.getD 0 .any), v11] fun v13 =>
  CdA v13
    (
    Pu Try.prog (.idx 1) [a0, (vs.getD 0 .any)] fun v15 =>
    RdS Try.prog (.ld 1 false) [v15] fun v16 =>
    Pu Try.prog (.bin .add 3) [(vs.getD 0 .any), (.p (.int .i64 1))] fun v18 =>
    Pu Try.prog .mn [v18, v16] fun v21 =>
    Pu Try.prog (.bin .add 3) [v21, (.p (.int .i64 1))] fun v22 =>
    LoopA Try.prog 1 (S_heads_Flat_L1 a0 Q H k vs v16 v18) [v22]
    ) (
    Rt Try.prog H.nx (.p (.bool true)) Q
    )
def S_heads_Flat (a0 : AV) (Q : AV → AH → Prop) (H : AH) : Prop := (
    Ca Try.prog (.fn (.func 13) [] []) [a0] fun v8 =>
    Pu Try.prog (.un .not) [v8] fun v9 =>
    CdA v9
      (
      Rt Try.prog H.nx (.p (.bool false)) Q
      ) (
      Pu Try.prog .len [a0] fun v11 =>
      LoopA Try.prog 1 (S_heads_Flat_L2 a0 Q H v11) [(.p (.int .i64 0))]
      )
    ) H
theorem eq_heads_Flat (a0 : AV) (Q : AV → AH → Prop) (H : AH) : FnA Try.prog 36 (regsF Try.f15) ac_heads_Flat [.tm 2] [a0] H Q = S_heads_Flat a0 Q H := by kernel_rfl
theorem tri_heads_Flat {a0 : AV} {H : AH} {Q : AV → AH → Prop} (h : S_heads_Flat a0 Q H) : Tri Try.prog 15 [a0] H Q :=
  tri_of (Ms := [#[], #[], #[], #[], #[], #[], #[], #[], #[], #[], #[], #[], #[], #[]]) mixed Try.func15 rfl (by kernel_rfl) (by kernel_rfl) rfl (of_decide_eq_true rfl : 1 ≤ 36) ((eq_heads_Flat a0 Q H).symm ▸ h : FnA Try.prog 36 (regsF Try.f15) ac_heads_Flat [.tm 2] [a0] H Q)

/-! wordhoard/heads.best -/
def ac_heads_best : AC := (.seq (.reg 0) (.seq (.reg 1) (.seq (.seq (.reg 2) (.block 0 (.loop [5, 6] [(7, 8), (11, 40)] (.seq (.seq (.reg 3) (.cond (.tmp 13) .skip (.exit 0))) (.seq (.block 1 (.seq (.reg 4) (.block 2 (.loop [5, 7] [(16, 40)] (.seq (.seq (.reg 5) (.cond (.tmp 18) .skip (.exit 2))) (.seq (.block 3 (.seq (.reg 6) (.cond (.tmp 23) (.reg 7) .skip))) (.reg 8))))))) (.reg 9)))))) (.seq (.reg 10) (.seq (.seq (.reg 11) (.block 4 (.loop [47] [(10, 11), (48, 63)] (.seq (.reg 12) (.seq (.cond (.tmp 48) .skip (.exit 4)) (.seq (.block 5 (.seq (.reg 13) (.reg 14))) (.reg 15))))))) (.seq (.reg 16) .ret))))))
def S_heads_best_L1 (a0 : AV) (a1 : AV) (k : List AV → AH → Prop) (vs : List AV) (vs_5 : List AV) (k_4 : List AV → AH → Prop) : AH → Prop :=
  Pu Try.prog (.bin .leq 3) [(vs_5.getD 1 .any), a0] fun v18 =>
  CdA v18
    (
    Pu Try.prog (.bin .neq 3) [(vs_5.getD 1 .any), (vs.getD 1 .any)] fun v23 =>
    CdA v23
      (
      Rg 17 fun b =>
      Ca Try.prog a1 [(vs_5.getD 1 .any), (vs.getD 1 .any)] fun v30 =>
      Pu Try.prog (.bin .add 3) [a0, (.p (.int .i64 1))] fun v33 =>
      Pu Try.prog (.bin .mul 3) [(vs_5.getD 1 .any), v33] fun v34 =>
      Pu Try.prog (.bin .add 3) [v34, (vs.getD 1 .any)] fun v36 =>
      Pu Try.prog (.bld [.p (.int .i64 0), .p (.int .i64 0), .p (.int .i64 0), .p (.int .i64 0)] [(0, 1), (1, 1), (2, 1), (3, 1)]) [(vs_5.getD 1 .any), (vs.getD 1 .any), v30, v36] fun v37 =>
      Al (b + 14) (.bs 54 4 1 [.p (.int .i64 0), .p (.int .i64 0), .p (.int .i64 0), .p (.int .i64 0)] [(0, 4)]) [v37] fun v38 =>
      WrS Try.prog (b + 15) (.app 54 4 32) [(vs_5.getD 0 .any), v38] fun v39 =>
      Pu Try.prog (.bin .add 3) [(vs_5.getD 1 .any), (.p (.int .i64 1))] fun v20 =>
      k_4 [v39, v20]
      ) (
      Pu Try.prog (.bin .add 3) [(vs_5.getD 1 .any), (.p (.int .i64 1))] fun v20_17 =>
      k_4 [(vs_5.getD 0 .any), v20_17]
      )
    ) (
    Pu Try.prog (.bin .add 3) [(vs.getD 1 .any), (.p (.int .i64 1))] fun v15 =>
    k [(vs_5.getD 0 .any), v15]
    )
def S_heads_best_L2 (a0 : AV) (Q : AV → AH → Prop) (H : AH) (v41 : AV) (v45 : AV) (v46 : AV) (vs_25 : List AV) (k_24 : List AV → AH → Prop) : AH → Prop :=
  Pu Try.prog (.bin .lss 3) [(vs_25.getD 0 .any), v46] fun v48 =>
  CdA v48
    (
    Pu Try.prog (.idx 1) [v45, (vs_25.getD 0 .any)] fun v49 =>
    RdS Try.prog (.ld 1 false) [v49] fun v50 =>
    Rg 12 fun b_29 =>
    Vw fun _ =>
    Pu Try.prog (.bin .add 3) [a0, (.p (.int .i64 1))] fun v54 =>
    Pu Try.prog (.bin .rem 3) [v50, v54] fun v55 =>
    Pu Try.prog (.bin .sub 3) [v55, (.p (.int .i64 1))] fun v56 =>
    Pu Try.prog (.bin .add 3) [a0, (.p (.int .i64 1))] fun v59 =>
    Pu Try.prog (.bin .quo 3) [v50, v59] fun v60 =>
    Pu Try.prog (.idx 1) [v41, v56] fun v61 =>
    Wr Try.prog (b_29 + 11) (.st 1) [v61, v60] fun _ _ =>
    Pu Try.prog (.bin .add 3) [(vs_25.getD 0 .any), (.p (.int .i64 1))] fun v62 =>
    k_24 [v62]
    ) (
    Rt Try.prog H.nx v41 Q
    )
def S_heads_best_L3 (a0 : AV) (a1 : AV) (Q : AV → AH → Prop) (H : AH) (vs : List AV) (k : List AV → AH → Prop) : AH → Prop :=
  Pu Try.prog (.bin .leq 3) [(vs.getD 1 .any), a0] fun v13 =>
  CdA v13
    (
    LoopA Try.prog 2 (S_heads_best_L1 a0 a1 k vs) [(vs.getD 0 .any), (.p (.int .i64 0))]
    ) (
    Rg 3 fun b_19 =>
    Al (b_19 + 1) (.ms 3 1 8 [.p (.int .i64 0)]) [a0, a0] fun v41 =>
    Pu Try.prog (.bin .add 3) [a0, (.p (.int .i64 1))] fun v43 =>
    Ca Try.prog (.fn (.func 32) [] []) [v43, (vs.getD 0 .any)] fun v45 =>
    Pu Try.prog .len [v45] fun v46 =>
    LoopA Try.prog 1 (S_heads_best_L2 a0 Q H v41 v45 v46) [(.p (.int .i64 0))]
    )
def S_heads_best (a0 a1 : AV) (Q : AV → AH → Prop) (H : AH) : Prop := (
    LoopA Try.prog 2 (S_heads_best_L3 a0 a1 Q H) [(.p (.slice none 0 0)), (.p (.int .i64 1))]
    ) H
theorem eq_heads_best (a0 a1 : AV) (Q : AV → AH → Prop) (H : AH) : FnA Try.prog 64 (regsF Try.f21) ac_heads_best [.tm 4] [a0, a1] H Q = S_heads_best a0 a1 Q H := by kernel_rfl
theorem tri_heads_best {a0 a1 : AV} {H : AH} {Q : AV → AH → Prop} (h : S_heads_best a0 a1 Q H) : Tri Try.prog 21 [a0, a1] H Q :=
  tri_of (Ms := [#[], #[], #[], #[], #[], #[], #[], #[], #[], #[], #[], #[], #[], #[], #[0, 0, 0, 4, 14, 30, 0, 0, 128, 448, 1023, 2047], #[], #[]]) mixed Try.func21 rfl (by kernel_rfl) (by kernel_rfl) rfl (of_decide_eq_true rfl : 2 ≤ 64) ((eq_heads_best a0 a1 Q H).symm ▸ h : FnA Try.prog 64 (regsF Try.f21) ac_heads_best [.tm 4] [a0, a1] H Q)

/-! wordhoard/heads.worth -/
def ac_heads_worth : AC := (.seq (.reg 0) (.seq (.reg 1) (.seq (.seq (.reg 2) (.block 0 (.loop [5, 10] [(6, 8), (11, 25)] (.seq (.reg 3) (.seq (.cond (.tmp 11) .skip (.exit 0)) (.seq (.block 1 (.seq (.reg 4) (.reg 5))) (.reg 6))))))) (.seq (.reg 7) .ret))))
def S_heads_worth_L1 (a0 : AV) (a1 : AV) (Q : AV → AH → Prop) (H : AH) (v9 : AV) (vs : List AV) (k : List AV → AH → Prop) : AH → Prop :=
  Pu Try.prog (.bin .lss 3) [(vs.getD 1 .any), v9] fun v11 =>
  CdA v11
    (
    Pu Try.prog (.idx 1) [a1, (vs.getD 1 .any)] fun v13 =>
    RdS Try.prog (.ld 1 false) [v13] fun v14 =>
    Pu Try.prog (.idx 1) [a0, v14] fun v18 =>
    RdS Try.prog (.ld 1 false) [v18] fun v19 =>
    Pu Try.prog (.idx 1) [v19, (vs.getD 1 .any)] fun v21 =>
    RdS Try.prog (.ld 1 false) [v21] fun v22 =>
    Pu Try.prog (.bin .add 3) [(vs.getD 0 .any), v22] fun v23 =>
    Pu Try.prog (.bin .add 3) [(vs.getD 1 .any), (.p (.int .i64 1))] fun v24 =>
    k [v23, v24]
    ) (
    Rt Try.prog H.nx (vs.getD 0 .any) Q
    )
def S_heads_worth (a0 a1 : AV) (Q : AV → AH → Prop) (H : AH) : Prop := (
    Pu Try.prog .len [a1] fun v9 =>
    LoopA Try.prog 2 (S_heads_worth_L1 a0 a1 Q H v9) [(.p (.int .i64 0)), (.p (.int .i64 0))]
    ) H
theorem eq_heads_worth (a0 a1 : AV) (Q : AV → AH → Prop) (H : AH) : FnA Try.prog 26 (regsF Try.f23) ac_heads_worth [.tm 4] [a0, a1] H Q = S_heads_worth a0 a1 Q H := by kernel_rfl
theorem tri_heads_worth {a0 a1 : AV} {H : AH} {Q : AV → AH → Prop} (h : S_heads_worth a0 a1 Q H) : Tri Try.prog 23 [a0, a1] H Q :=
  tri_of (Ms := [#[], #[], #[], #[], #[], #[], #[], #[]]) mixed Try.func23 rfl (by kernel_rfl) (by kernel_rfl) rfl (of_decide_eq_true rfl : 2 ≤ 26) ((eq_heads_worth a0 a1 Q H).symm ▸ h : FnA Try.prog 26 (regsF Try.f23) ac_heads_worth [.tm 4] [a0, a1] H Q)

/-! wordhoard/heads.under -/
def ac_heads_under : AC := (.seq (.reg 0) (.seq (.block 0 (.loop [1] [(7, 19)] (.seq (.seq (.reg 1) (.cond (.tmp 13) .skip (.exit 0))) (.block 1 (.reg 2))))) (.seq (.reg 3) .ret)))
def S_heads_under_L1 (a0 : AV) (a2 : AV) (Q : AV → AH → Prop) (H : AH) (vs : List AV) (k : List AV → AH → Prop) : AH → Prop :=
  Pu Try.prog (.bin .neq 3) [(vs.getD 0 .any), a2] fun v9 =>
  Gd v9 true (fun k_5 => k_5 (vs.getD 0 .any)) fun v11 =>
  Gd v9 true (fun k_7 => Pu Try.prog (.bin .neq 3) [v11, (.p (.int .i64 0))] k_7) fun v12 =>
  Pu Try.prog .pick [v9, v12, (.p (.bool false))] fun v13 =>
  CdA v13
    (
    Pu Try.prog (.bin .sub 3) [(vs.getD 0 .any), (.p (.int .i64 1))] fun v16 =>
    Pu Try.prog (.idx 1) [a0, v16] fun v17 =>
    RdS Try.prog (.ld 1 false) [v17] fun v18 =>
    k [v18]
    ) (
    Pu Try.prog (.bin .eql 3) [(vs.getD 0 .any), a2] fun v21 =>
    Rt Try.prog H.nx v21 Q
    )
def S_heads_under (a0 a1 a2 : AV) (Q : AV → AH → Prop) (H : AH) : Prop := (
    LoopA Try.prog 1 (S_heads_under_L1 a0 a2 Q H) [a1]
    ) H
theorem eq_heads_under (a0 a1 a2 : AV) (Q : AV → AH → Prop) (H : AH) : FnA Try.prog 22 (regsF Try.f29) ac_heads_under [.tm 6] [a0, a1, a2] H Q = S_heads_under a0 a1 a2 Q H := by kernel_rfl
theorem tri_heads_under {a0 a1 a2 : AV} {H : AH} {Q : AV → AH → Prop} (h : S_heads_under a0 a1 a2 Q H) : Tri Try.prog 29 [a0, a1, a2] H Q :=
  tri_of (Ms := [#[], #[], #[], #[]]) mixed Try.func29 rfl (by kernel_rfl) (by kernel_rfl) rfl (of_decide_eq_true rfl : 3 ≤ 22) ((eq_heads_under a0 a1 a2 Q H).symm ▸ h : FnA Try.prog 22 (regsF Try.f29) ac_heads_under [.tm 6] [a0, a1, a2] H Q)

/-! wordhoard/heads.ringOf -/
def ac_heads_ringOf : AC := (.seq (.reg 0) (.scope (.seq (.reg 1) (.seq (.label 0) (.seq (.seq (.reg 2) (.block 0 (.loop [8] [(6, 7), (9, 12), (14, 73)] (.seq (.seq (.reg 3) (.cond (.tmp 16) .skip (.exit 0))) (.seq (.block 1 (.seq (.reg 4) (.seq (.block 2 (.loop [9] [(20, 47)] (.seq (.seq (.reg 5) (.cond (.tmp 25) .skip (.exit 2))) (.block 3 (.seq (.seq (.reg 6) (.cond (.tmp 34) (.exit 1) .skip)) (.seq (.reg 7) (.reg 8))))))) (.seq (.reg 9) (.seq (.seq (.reg 10) (.block 4 (.loop [10, 11] [(57, 72)] (.seq (.seq (.reg 11) (.cond (.tmp 59) .skip (.exit 4))) (.seq (.block 5 (.reg 12)) (.reg 13)))))) (.seq (.reg 14) .ret)))))) (.reg 15)))))) (.seq (.reg 16) .ret))))))
def S_heads_ringOf_L1 (a1 : AV) (a2 : AV) (Q : AV → AH → Prop) (H : AH) (vs_7 : List AV) (vs_40 : List AV) (k_39 : List AV → AH → Prop) : AH → Prop :=
  Pu Try.prog (.bin .neq 3) [(vs_40.getD 1 .any), (vs_7.getD 0 .any)] fun v59 =>
  CdA v59
    (
    Rg 5 fun b_42 =>
    Al (b_42 + 2) (.bs 3 1 1 [.p (.int .i64 0)] [(0, 1)]) [(vs_40.getD 1 .any)] fun v70 =>
    WrS Try.prog (b_42 + 3) (.app 3 1 8) [(vs_40.getD 0 .any), v70] fun v71 =>
    Pu Try.prog (.idx 1) [a2, (vs_40.getD 1 .any)] fun v63 =>
    RdS Try.prog (.ld 1 false) [v63] fun v64 =>
    Pu Try.prog (.idx 4) [a1, v64] fun v65 =>
    Pu Try.prog (.addOff 0) [v65] fun v66 =>
    RdS Try.prog (.ld 1 false) [v66] fun v67 =>
    k_39 [v71, v67]
    ) (
    Rt Try.prog H.nx (vs_40.getD 0 .any) Q
    )
def S_heads_ringOf_L2 (a1 : AV) (a2 : AV) (Q : AV → AH → Prop) (H : AH) (v13 : AV) (k : List AV → AH → Prop) (vs : List AV) (vs_7 : List AV) (k_6 : List AV → AH → Prop) : AH → Prop :=
  Pu Try.prog (.idx 1) [v13, (vs_7.getD 0 .any)] fun v22 =>
  RdS Try.prog (.ld 1 false) [v22] fun v23 =>
  Pu Try.prog (.bin .neq 3) [v23, (vs.getD 0 .any)] fun v25 =>
  CdA v25
    (
    Pu Try.prog (.bin .eql 3) [(vs_7.getD 0 .any), (.p (.int .i64 0))] fun v27 =>
    Gd v27 false (fun k_13 => k_13 v13) fun v29 =>
    Gd v27 false (fun k_15 => k_15 (vs_7.getD 0 .any)) fun v30 =>
    Gd v27 false (fun k_17 => Pu Try.prog (.idx 1) [v29, v30] k_17) fun v31 =>
    Gd v27 false (fun k_19 => RdS Try.prog (.ld 1 false) [v31] k_19) fun v32 =>
    Gd v27 false (fun k_21 => Pu Try.prog (.bin .gtr 3) [v32, (.p (.int .i64 0))] k_21) fun v33 =>
    Pu Try.prog .pick [v27, (.p (.bool true)), v33] fun v34 =>
    CdA v34
      (
      Pu Try.prog (.bin .add 3) [(vs.getD 0 .any), (.p (.int .i64 1))] fun v18 =>
      k [v18]
      ) (
      Rg 5 fun b_24 =>
      Pu Try.prog (.idx 1) [v13, (vs_7.getD 0 .any)] fun v38 =>
      WrS Try.prog (b_24 + 4) (.st 1) [v38, (vs.getD 0 .any)] fun _ =>
      Pu Try.prog (.idx 1) [a2, (vs_7.getD 0 .any)] fun v42 =>
      RdS Try.prog (.ld 1 false) [v42] fun v43 =>
      Pu Try.prog (.idx 4) [a1, v43] fun v44 =>
      Pu Try.prog (.addOff 0) [v44] fun v45 =>
      RdS Try.prog (.ld 1 false) [v45] fun v46 =>
      k_6 [v46]
      )
    ) (
    Rg 3 fun b_32 =>
    Al (b_32 + 1) (.bs 3 1 1 [.p (.int .i64 0)] [(0, 1)]) [(vs_7.getD 0 .any)] fun v48 =>
    Pu Try.prog (.idx 1) [a2, (vs_7.getD 0 .any)] fun v52 =>
    RdS Try.prog (.ld 1 false) [v52] fun v53 =>
    Pu Try.prog (.idx 4) [a1, v53] fun v54 =>
    Pu Try.prog (.addOff 0) [v54] fun v55 =>
    RdS Try.prog (.ld 1 false) [v55] fun v56 =>
    LoopA Try.prog 2 (S_heads_ringOf_L1 a1 a2 Q H vs_7) [v48, v56]
    )
def S_heads_ringOf_L3 (a0 : AV) (a1 : AV) (a2 : AV) (Q : AV → AH → Prop) (H : AH) (v13 : AV) (vs : List AV) (k : List AV → AH → Prop) : AH → Prop :=
  Pu Try.prog (.bin .lss 3) [(vs.getD 0 .any), a0] fun v16 =>
  CdA v16
    (
    LoopA Try.prog 1 (S_heads_ringOf_L2 a1 a2 Q H v13 k vs) [(vs.getD 0 .any)]
    ) (
    Rt Try.prog H.nx (.p (.slice none 0 0)) Q
    )
def S_heads_ringOf (a0 a1 a2 : AV) (Q : AV → AH → Prop) (H : AH) : Prop := (
    Rg 3 fun b =>
    Al (b + 1) (.ms 3 1 8 [.p (.int .i64 0)]) [a0, a0] fun v13 =>
    LoopA Try.prog 1 (S_heads_ringOf_L3 a0 a1 a2 Q H v13) [(.p (.int .i64 1))]
    ) H
theorem eq_heads_ringOf (a0 a1 a2 : AV) (Q : AV → AH → Prop) (H : AH) : FnA Try.prog 73 (regsF Try.f34) ac_heads_ringOf [.tm 6] [a0, a1, a2] H Q = S_heads_ringOf a0 a1 a2 Q H := by kernel_rfl
theorem tri_heads_ringOf {a0 a1 a2 : AV} {H : AH} {Q : AV → AH → Prop} (h : S_heads_ringOf a0 a1 a2 Q H) : Tri Try.prog 34 [a0, a1, a2] H Q :=
  tri_of (Ms := [#[], #[], #[], #[], #[], #[], #[], #[], #[], #[], #[], #[], #[], #[], #[], #[], #[]]) mixed Try.func34 rfl (by kernel_rfl) (by kernel_rfl) rfl (of_decide_eq_true rfl : 3 ≤ 73) ((eq_heads_ringOf a0 a1 a2 Q H).symm ▸ h : FnA Try.prog 73 (regsF Try.f34) ac_heads_ringOf [.tm 6] [a0, a1, a2] H Q)

/-! (*wordhoard/heads.eisner).fill -/
def ac_eisner_fill : AC := (.seq (.reg 0) (.seq (.seq (.reg 1) (.block 0 (.loop [6, 7, 8] [(9, 10), (16, 50)] (.seq (.seq (.reg 2) (.cond (.tmp 18) .skip (.exit 0))) (.seq (.block 1 (.seq (.reg 3) (.seq (.reg 4) (.cond (.tmp 47) (.reg 5) .skip)))) (.reg 6)))))) (.seq (.reg 7) (.seq (.reg 8) (.cut [] [(105, 130)] (.seq (.reg 9) (.cond (.tmp 106) (.reg 10) .skip)) (.seq (.reg 11) (.seq (.seq (.reg 12) (.block 2 (.loop [10] [(11, 12), (142, 205)] (.seq (.seq (.reg 13) (.cond (.tmp 144) .skip (.exit 2))) (.seq (.block 3 (.seq (.reg 14) (.seq (.reg 15) (.cond (.tmp 182) (.reg 16) .skip)))) (.reg 17)))))) (.seq (.reg 18) (.block 4 (.loop [12] [(13, 14), (206, 269)] (.seq (.seq (.reg 19) (.cond (.tmp 208) .skip (.exit 4))) (.seq (.block 5 (.seq (.reg 20) (.seq (.reg 21) (.cond (.tmp 246) (.reg 22) .skip)))) (.reg 23)))))))))))))
def S_eisner_fill_C1 (a0 : AV) (a1 : AV) (a2 : AV) (k : List AV → AH → Prop) (vs : List AV) : AH → Prop :=
  Vw fun V =>
  Pu Try.prog .nilck [a0] fun v22 =>
  Pu Try.prog (.addOff 2) [v22] fun v23 =>
  Rd Try.prog V (.ld 1 false) [v23] fun v24 =>
  Pu Try.prog (.idx 1) [v24, a1] fun v26 =>
  Rd Try.prog V (.ld 1 false) [v26] fun v27 =>
  Pu Try.prog (.idx 2) [v27, (vs.getD 2 .any)] fun v29 =>
  Pu Try.prog (.aidx 2 1) [v29, (.p (.int .i64 0))] fun v30 =>
  Rd Try.prog V (.ld 1 false) [v30] fun v31 =>
  Pu Try.prog .nilck [a0] fun v33 =>
  Pu Try.prog (.addOff 2) [v33] fun v34 =>
  Rd Try.prog V (.ld 1 false) [v34] fun v35 =>
  Pu Try.prog (.bin .add 3) [(vs.getD 2 .any), (.p (.int .i64 1))] fun v37 =>
  Pu Try.prog (.idx 1) [v35, v37] fun v38 =>
  Rd Try.prog V (.ld 1 false) [v38] fun v39 =>
  Pu Try.prog (.idx 2) [v39, a2] fun v41 =>
  Pu Try.prog (.aidx 2 1) [v41, (.p (.int .i64 1))] fun v42 =>
  Rd Try.prog V (.ld 1 false) [v42] fun v43 =>
  Pu Try.prog (.bin .add 3) [v31, v43] fun v44 =>
  Pu Try.prog (.bin .gtr 3) [v44, (vs.getD 0 .any)] fun v47 =>
  CdA v47
    (
    Pu Try.prog (.bin .add 3) [(vs.getD 2 .any), (.p (.int .i64 1))] fun v20 =>
    k [v44, (vs.getD 2 .any), v20]
    ) (
    Pu Try.prog (.bin .add 3) [(vs.getD 2 .any), (.p (.int .i64 1))] fun v20_25 =>
    k [(vs.getD 0 .any), (vs.getD 1 .any), v20_25]
    )
def S_eisner_fill_C2 (a0 : AV) (a1 : AV) (a2 : AV) (k_87 : List AV → AH → Prop) (vs_88 : List AV) : AH → Prop :=
  Vw fun V_90 =>
  Pu Try.prog .nilck [a0] fun v148 =>
  Pu Try.prog (.addOff 1) [v148] fun v149 =>
  Rd Try.prog V_90 (.ld 1 false) [v149] fun v150 =>
  Pu Try.prog (.idx 1) [v150, a1] fun v152 =>
  Rd Try.prog V_90 (.ld 1 false) [v152] fun v153 =>
  Pu Try.prog (.idx 2) [v153, (vs_88.getD 0 .any)] fun v155 =>
  Pu Try.prog (.aidx 2 1) [v155, (.p (.int .i64 0))] fun v156 =>
  Rd Try.prog V_90 (.ld 1 false) [v156] fun v157 =>
  Pu Try.prog .nilck [a0] fun v159 =>
  Pu Try.prog (.addOff 2) [v159] fun v160 =>
  Rd Try.prog V_90 (.ld 1 false) [v160] fun v161 =>
  Pu Try.prog (.idx 1) [v161, (vs_88.getD 0 .any)] fun v163 =>
  Rd Try.prog V_90 (.ld 1 false) [v163] fun v164 =>
  Pu Try.prog (.idx 2) [v164, a2] fun v166 =>
  Pu Try.prog (.aidx 2 1) [v166, (.p (.int .i64 0))] fun v167 =>
  Rd Try.prog V_90 (.ld 1 false) [v167] fun v168 =>
  Pu Try.prog (.bin .add 3) [v157, v168] fun v169 =>
  Pu Try.prog .nilck [a0] fun v172 =>
  Pu Try.prog (.addOff 2) [v172] fun v173 =>
  RdS Try.prog (.ld 1 false) [v173] fun v174 =>
  Pu Try.prog (.idx 1) [v174, a1] fun v176 =>
  RdS Try.prog (.ld 1 false) [v176] fun v177 =>
  Pu Try.prog (.idx 2) [v177, a2] fun v179 =>
  Pu Try.prog (.aidx 2 1) [v179, (.p (.int .i64 0))] fun v180 =>
  RdS Try.prog (.ld 1 false) [v180] fun v181 =>
  Pu Try.prog (.bin .gtr 3) [v169, v181] fun v182 =>
  CdA v182
    (
    Rg 24 fun b_117 =>
    Vw fun V_118 =>
    Pu Try.prog .nilck [a0] fun v184 =>
    Pu Try.prog (.addOff 2) [v184] fun v185 =>
    Rd Try.prog V_118 (.ld 1 false) [v185] fun v186 =>
    Pu Try.prog (.idx 1) [v186, a1] fun v188 =>
    Rd Try.prog V_118 (.ld 1 false) [v188] fun v189 =>
    Pu Try.prog .nilck [a0] fun v192 =>
    Pu Try.prog (.addOff 4) [v192] fun v193 =>
    Rd Try.prog V_118 (.ld 1 false) [v193] fun v194 =>
    Pu Try.prog (.idx 1) [v194, a1] fun v196 =>
    Rd Try.prog V_118 (.ld 1 false) [v196] fun v197 =>
    Pu Try.prog (.idx 2) [v189, a2] fun v201 =>
    Pu Try.prog (.aidx 2 1) [v201, (.p (.int .i64 0))] fun v202 =>
    Wr Try.prog (b_117 + 20) (.st 1) [v202, v169] fun _ _ =>
    Pu Try.prog (.idx 2) [v197, a2] fun v203 =>
    Pu Try.prog (.aidx 2 1) [v203, (.p (.int .i64 0))] fun v204 =>
    Wr Try.prog (b_117 + 23) (.st 1) [v204, (vs_88.getD 0 .any)] fun _ _ =>
    Pu Try.prog (.bin .add 3) [(vs_88.getD 0 .any), (.p (.int .i64 1))] fun v146 =>
    k_87 [v146]
    ) (
    Pu Try.prog (.bin .add 3) [(vs_88.getD 0 .any), (.p (.int .i64 1))] fun v146_138 =>
    k_87 [v146_138]
    )
def S_eisner_fill_C3 (a0 : AV) (a1 : AV) (a2 : AV) (k_139 : List AV → AH → Prop) (vs_140 : List AV) : AH → Prop :=
  Vw fun V_142 =>
  Pu Try.prog .nilck [a0] fun v212 =>
  Pu Try.prog (.addOff 2) [v212] fun v213 =>
  Rd Try.prog V_142 (.ld 1 false) [v213] fun v214 =>
  Pu Try.prog (.idx 1) [v214, a1] fun v216 =>
  Rd Try.prog V_142 (.ld 1 false) [v216] fun v217 =>
  Pu Try.prog (.idx 2) [v217, (vs_140.getD 0 .any)] fun v219 =>
  Pu Try.prog (.aidx 2 1) [v219, (.p (.int .i64 1))] fun v220 =>
  Rd Try.prog V_142 (.ld 1 false) [v220] fun v221 =>
  Pu Try.prog .nilck [a0] fun v223 =>
  Pu Try.prog (.addOff 1) [v223] fun v224 =>
  Rd Try.prog V_142 (.ld 1 false) [v224] fun v225 =>
  Pu Try.prog (.idx 1) [v225, (vs_140.getD 0 .any)] fun v227 =>
  Rd Try.prog V_142 (.ld 1 false) [v227] fun v228 =>
  Pu Try.prog (.idx 2) [v228, a2] fun v230 =>
  Pu Try.prog (.aidx 2 1) [v230, (.p (.int .i64 1))] fun v231 =>
  Rd Try.prog V_142 (.ld 1 false) [v231] fun v232 =>
  Pu Try.prog (.bin .add 3) [v221, v232] fun v233 =>
  Pu Try.prog .nilck [a0] fun v236 =>
  Pu Try.prog (.addOff 2) [v236] fun v237 =>
  RdS Try.prog (.ld 1 false) [v237] fun v238 =>
  Pu Try.prog (.idx 1) [v238, a1] fun v240 =>
  RdS Try.prog (.ld 1 false) [v240] fun v241 =>
  Pu Try.prog (.idx 2) [v241, a2] fun v243 =>
  Pu Try.prog (.aidx 2 1) [v243, (.p (.int .i64 1))] fun v244 =>
  RdS Try.prog (.ld 1 false) [v244] fun v245 =>
  Pu Try.prog (.bin .gtr 3) [v233, v245] fun v246 =>
  CdA v246
    (
    Rg 24 fun b_169 =>
    Vw fun V_170 =>
    Pu Try.prog .nilck [a0] fun v248 =>
    Pu Try.prog (.addOff 2) [v248] fun v249 =>
    Rd Try.prog V_170 (.ld 1 false) [v249] fun v250 =>
    Pu Try.prog (.idx 1) [v250, a1] fun v252 =>
    Rd Try.prog V_170 (.ld 1 false) [v252] fun v253 =>
    Pu Try.prog .nilck [a0] fun v256 =>
    Pu Try.prog (.addOff 4) [v256] fun v257 =>
    Rd Try.prog V_170 (.ld 1 false) [v257] fun v258 =>
    Pu Try.prog (.idx 1) [v258, a1] fun v260 =>
    Rd Try.prog V_170 (.ld 1 false) [v260] fun v261 =>
    Pu Try.prog (.idx 2) [v253, a2] fun v265 =>
    Pu Try.prog (.aidx 2 1) [v265, (.p (.int .i64 1))] fun v266 =>
    Wr Try.prog (b_169 + 20) (.st 1) [v266, v233] fun _ _ =>
    Pu Try.prog (.idx 2) [v261, a2] fun v267 =>
    Pu Try.prog (.aidx 2 1) [v267, (.p (.int .i64 1))] fun v268 =>
    Wr Try.prog (b_169 + 23) (.st 1) [v268, (vs_140.getD 0 .any)] fun _ _ =>
    Pu Try.prog (.bin .add 3) [(vs_140.getD 0 .any), (.p (.int .i64 1))] fun v210 =>
    k_139 [v210]
    ) (
    Pu Try.prog (.bin .add 3) [(vs_140.getD 0 .any), (.p (.int .i64 1))] fun v210_190 =>
    k_139 [v210_190]
    )
def S_eisner_fill_L4 (a0 : AV) (a1 : AV) (a2 : AV) (Q : AV → AH → Prop) (H : AH) (vs_140 : List AV) (k_139 : List AV → AH → Prop) : AH → Prop :=
  Pu Try.prog (.bin .lss 3) [(vs_140.getD 0 .any), a2] fun v208 =>
  CdA v208
    (S_eisner_fill_C3 a0 a1 a2 k_139 vs_140) (
    Rt Try.prog H.nx (.tup []) Q
    )
def S_eisner_fill_L5 (a0 : AV) (a1 : AV) (a2 : AV) (Q : AV → AH → Prop) (H : AH) (vs_88 : List AV) (k_87 : List AV → AH → Prop) : AH → Prop :=
  Pu Try.prog (.bin .leq 3) [(vs_88.getD 0 .any), a2] fun v144 =>
  CdA v144
    (S_eisner_fill_C2 a0 a1 a2 k_87 vs_88) (
    LoopA Try.prog 1 (S_eisner_fill_L4 a0 a1 a2 Q H) [a1]
    )
def S_eisner_fill_K6 (a0 : AV) (a1 : AV) (a2 : AV) (Q : AV → AH → Prop) (H : AH) (_vs_76 : List AV) : AH → Prop :=
  Rg 11 fun b_77 =>
  Pu Try.prog .nilck [a0] fun v131 =>
  Pu Try.prog (.addOff 2) [v131] fun v132 =>
  RdS Try.prog (.ld 1 false) [v132] fun v133 =>
  Pu Try.prog (.idx 1) [v133, a1] fun v135 =>
  RdS Try.prog (.ld 1 false) [v135] fun v136 =>
  Pu Try.prog (.bld [.p (.int .i64 0), .p (.int .i64 0)] [(0, 1), (1, 1)]) [(.p (.int .i64 (-2199023255552))), (.p (.int .i64 (-2199023255552)))] fun v138 =>
  Pu Try.prog (.idx 2) [v136, a2] fun v139 =>
  WrS Try.prog (b_77 + 10) (.st 2) [v139, v138] fun _ =>
  Pu Try.prog (.bin .add 3) [a1, (.p (.int .i64 1))] fun v141 =>
  LoopA Try.prog 1 (S_eisner_fill_L5 a0 a1 a2 Q H) [v141]
def S_eisner_fill_C7 (a0 : AV) (a1 : AV) (a2 : AV) (Q : AV → AH → Prop) (H : AH) (vs : List AV) : AH → Prop :=
  Rg 36 fun b =>
  Vw fun V_27 =>
  Pu Try.prog .nilck [a0] fun v51 =>
  Pu Try.prog (.addOff 1) [v51] fun v52 =>
  Rd Try.prog V_27 (.ld 1 false) [v52] fun v53 =>
  Pu Try.prog (.idx 1) [v53, a1] fun v55 =>
  Rd Try.prog V_27 (.ld 1 false) [v55] fun v56 =>
  Pu Try.prog .nilck [a0] fun v59 =>
  Pu Try.prog (.addOff 3) [v59] fun v60 =>
  Rd Try.prog V_27 (.ld 1 false) [v60] fun v61 =>
  Pu Try.prog (.idx 1) [v61, a1] fun v63 =>
  Rd Try.prog V_27 (.ld 1 false) [v63] fun v64 =>
  Pu Try.prog .nilck [a0] fun v68 =>
  Pu Try.prog (.addOff 0) [v68] fun v69 =>
  Rd Try.prog V_27 (.ld 1 false) [v69] fun v70 =>
  Pu Try.prog (.idx 1) [v70, a1] fun v72 =>
  Rd Try.prog V_27 (.ld 1 false) [v72] fun v73 =>
  Pu Try.prog (.bin .sub 3) [a2, (.p (.int .i64 1))] fun v75 =>
  Pu Try.prog (.idx 1) [v73, v75] fun v76 =>
  Rd Try.prog V_27 (.ld 1 false) [v76] fun v77 =>
  Pu Try.prog (.bin .add 3) [(vs.getD 0 .any), v77] fun v78 =>
  Pu Try.prog (.idx 2) [v56, a2] fun v80 =>
  Pu Try.prog (.aidx 2 1) [v80, (.p (.int .i64 0))] fun v81 =>
  Wr Try.prog (b + 32) (.st 1) [v81, v78] fun _ _ =>
  Pu Try.prog (.idx 2) [v64, a2] fun v82 =>
  Pu Try.prog (.aidx 2 1) [v82, (.p (.int .i64 0))] fun v83 =>
  Wr Try.prog (b + 35) (.st 1) [v83, (vs.getD 1 .any)] fun _ _ =>
  Rg 23 fun b_55 =>
  Vw fun V_56 =>
  Pu Try.prog .nilck [a0] fun v85 =>
  Pu Try.prog (.addOff 1) [v85] fun v86 =>
  Rd Try.prog V_56 (.ld 1 false) [v86] fun v87 =>
  Pu Try.prog (.idx 1) [v87, a1] fun v89 =>
  Rd Try.prog V_56 (.ld 1 false) [v89] fun v90 =>
  Pu Try.prog .nilck [a0] fun v93 =>
  Pu Try.prog (.addOff 3) [v93] fun v94 =>
  Rd Try.prog V_56 (.ld 1 false) [v94] fun v95 =>
  Pu Try.prog (.idx 1) [v95, a1] fun v97 =>
  Rd Try.prog V_56 (.ld 1 false) [v97] fun v98 =>
  Pu Try.prog (.idx 2) [v90, a2] fun v101 =>
  Pu Try.prog (.aidx 2 1) [v101, (.p (.int .i64 1))] fun v102 =>
  Wr Try.prog (b_55 + 19) (.st 1) [v102, (.p (.int .i64 (-1099511627776)))] fun _ _ =>
  Pu Try.prog (.idx 2) [v98, a2] fun v103 =>
  Pu Try.prog (.aidx 2 1) [v103, (.p (.int .i64 1))] fun v104 =>
  Wr Try.prog (b_55 + 22) (.st 1) [v104, (vs.getD 1 .any)] fun _ _ =>
  CutA Try.prog 0 (fun k_75 =>
    Pu Try.prog (.bin .gtr 3) [a1, (.p (.int .i64 0))] fun v106 =>
    CdA v106
      (
      Rg 24 fun b_192 =>
      Vw fun V_193 =>
      Pu Try.prog .nilck [a0] fun v108 =>
      Pu Try.prog (.addOff 1) [v108] fun v109 =>
      Rd Try.prog V_193 (.ld 1 false) [v109] fun v110 =>
      Pu Try.prog (.idx 1) [v110, a1] fun v112 =>
      Rd Try.prog V_193 (.ld 1 false) [v112] fun v113 =>
      Pu Try.prog .nilck [a0] fun v117 =>
      Pu Try.prog (.addOff 0) [v117] fun v118 =>
      Rd Try.prog V_193 (.ld 1 false) [v118] fun v119 =>
      Pu Try.prog (.idx 1) [v119, a2] fun v121 =>
      Rd Try.prog V_193 (.ld 1 false) [v121] fun v122 =>
      Pu Try.prog (.bin .sub 3) [a1, (.p (.int .i64 1))] fun v124 =>
      Pu Try.prog (.idx 1) [v122, v124] fun v125 =>
      Rd Try.prog V_193 (.ld 1 false) [v125] fun v126 =>
      Pu Try.prog (.bin .add 3) [(vs.getD 0 .any), v126] fun v127 =>
      Pu Try.prog (.idx 2) [v113, a2] fun v128 =>
      Pu Try.prog (.aidx 2 1) [v128, (.p (.int .i64 1))] fun v129 =>
      Wr Try.prog (b_192 + 23) (.st 1) [v129, v127] fun _ _ =>
      k_75 []
      ) (
      k_75 []
      )
    ) (S_eisner_fill_K6 a0 a1 a2 Q H)
def S_eisner_fill_L8 (a0 : AV) (a1 : AV) (a2 : AV) (Q : AV → AH → Prop) (H : AH) (vs : List AV) (k : List AV → AH → Prop) : AH → Prop :=
  Pu Try.prog (.bin .lss 3) [(vs.getD 2 .any), a2] fun v18 =>
  CdA v18
    (S_eisner_fill_C1 a0 a1 a2 k vs) (S_eisner_fill_C7 a0 a1 a2 Q H vs)
def S_eisner_fill (a0 a1 a2 : AV) (Q : AV → AH → Prop) (H : AH) : Prop := (
    LoopA Try.prog 3 (S_eisner_fill_L8 a0 a1 a2 Q H) [(.p (.int .i64 (-1099511627776))), a1, a1]
    ) H
theorem eq_eisner_fill (a0 a1 a2 : AV) (Q : AV → AH → Prop) (H : AH) : FnA Try.prog 269 (regsF Try.f24) ac_eisner_fill [] [a0, a1, a2] H Q = S_eisner_fill a0 a1 a2 Q H := by kernel_rfl
theorem tri_eisner_fill {a0 a1 a2 : AV} {H : AH} {Q : AV → AH → Prop} (h : S_eisner_fill a0 a1 a2 Q H) : Tri Try.prog 24 [a0, a1, a2] H Q :=
  tri_of (Ms := [#[], #[], #[], #[0, 1, 3, 7, 0, 31, 63, 0, 255, 511, 1023, 0, 2048, 6144, 14336, 0, 32768, 129024, 260096, 0, 1046528, 2095104, 4192256, 8388607, 16777215], #[], #[], #[], #[0, 1, 3, 7, 0, 31, 63, 0, 0, 256, 768, 1792, 0, 7936, 16128, 0, 0, 0, 131072, 393216, 917504, 0, 4063232, 8257536, 0, 16777216, 66977792, 134086656, 268369920, 0, 255, 1610579967, 3758063615, 65280, 17179869183, 34359738367], #[0, 1, 3, 7, 0, 31, 63, 0, 0, 256, 768, 1792, 0, 7936, 16128, 0, 0, 255, 163839, 425983, 65280, 2097151, 4194303], #[], #[0, 1, 3, 7, 0, 31, 63, 0, 0, 0, 512, 1536, 3584, 0, 15872, 32256, 0, 65536, 261632, 523776, 1048320, 255, 4194303, 8388607], #[], #[], #[], #[0, 1, 3, 7, 0, 31, 63, 0, 255, 511, 1023, 0, 2048, 6144, 14336, 0, 63488, 129024, 0, 522240, 1046528, 2095104, 4194303, 8388607], #[], #[0, 1, 3, 7, 0, 31, 63, 0, 0, 256, 768, 1792, 0, 7936, 16128, 0, 0, 0, 255, 360447, 884735, 65280, 4194303, 8388607], #[], #[], #[], #[0, 1, 3, 7, 0, 31, 63, 0, 255, 511, 1023, 0, 2048, 6144, 14336, 0, 63488, 129024, 0, 522240, 1046528, 2095104, 4194303, 8388607], #[], #[0, 1, 3, 7, 0, 31, 63, 0, 0, 256, 768, 1792, 0, 7936, 16128, 0, 0, 0, 255, 360447, 884735, 65280, 4194303, 8388607], #[]]) mixed Try.func24 rfl (by kernel_rfl) (by kernel_rfl) rfl (of_decide_eq_true rfl : 3 ≤ 269) ((eq_eisner_fill a0 a1 a2 Q H).symm ▸ h : FnA Try.prog 269 (regsF Try.f24) ac_eisner_fill [] [a0, a1, a2] H Q)

/-! (*wordhoard/heads.eisner).take -/
def ac_eisner_take : AC := (.seq (.seq (.reg 0) (.cond (.tmp 14) .ret .skip)) (.seq (.seq (.reg 1) (.cond (.tmp 15) (.cut [] [(16, 34)] (.seq (.reg 2) (.cond (.tmp 17) (.reg 3) (.reg 4))) (.seq (.reg 5) (.seq (.reg 6) (.seq (.reg 7) .ret)))) .skip)) (.seq (.reg 8) (.seq (.seq (.reg 9) (.cond (.tmp 68) (.seq (.reg 10) (.seq (.reg 11) .ret)) .skip)) (.seq (.reg 12) (.reg 13))))))
def S_eisner_take_K1 (a0 : AV) (a1 : AV) (a2 : AV) (a3 : AV) (Q : AV → AH → Prop) (H : AH) (_vs : List AV) : AH → Prop :=
  Pu Try.prog .nilck [a0] fun v35 =>
  Pu Try.prog (.addOff 3) [v35] fun v36 =>
  RdS Try.prog (.ld 1 false) [v36] fun v37 =>
  Pu Try.prog (.idx 1) [v37, a1] fun v39 =>
  RdS Try.prog (.ld 1 false) [v39] fun v40 =>
  Pu Try.prog (.idx 2) [v40, a2] fun v43 =>
  Pu Try.prog (.aidx 2 1) [v43, a3] fun v44 =>
  RdS Try.prog (.ld 1 false) [v44] fun v45 =>
  Ca Try.prog (.fn (.func 25) [] []) [a0, a1, v45, (.p (.int .i64 0)), (.p (.bool false))] fun _ =>
  Pu Try.prog (.bin .add 3) [v45, (.p (.int .i64 1))] fun v52 =>
  Ca Try.prog (.fn (.func 25) [] []) [a0, v52, a2, (.p (.int .i64 1)), (.p (.bool false))] fun _ =>
  Rt Try.prog H.nx (.tup []) Q
def S_eisner_take_C2 (a0 : AV) (a1 : AV) (a2 : AV) (a3 : AV) (a4 : AV) (Q : AV → AH → Prop) (H : AH) : AH → Prop :=
  CdA a4
    (
    CutA Try.prog 0 (fun k =>
      Pu Try.prog (.bin .eql 3) [a3, (.p (.int .i64 0))] fun v17 =>
      CdA v17
        (
        Rg 9 fun b =>
        Pu Try.prog .nilck [a0] fun v19 =>
        Pu Try.prog (.addOff 5) [v19] fun v20 =>
        RdS Try.prog (.ld 1 false) [v20] fun v21 =>
        Pu Try.prog (.bin .sub 3) [a2, (.p (.int .i64 1))] fun v23 =>
        Pu Try.prog (.idx 1) [v21, v23] fun v25 =>
        WrS Try.prog (b + 8) (.st 1) [v25, a1] fun _ =>
        k []
        ) (
        Rg 9 fun b_23 =>
        Pu Try.prog .nilck [a0] fun v27 =>
        Pu Try.prog (.addOff 5) [v27] fun v28 =>
        RdS Try.prog (.ld 1 false) [v28] fun v29 =>
        Pu Try.prog (.bin .sub 3) [a1, (.p (.int .i64 1))] fun v31 =>
        Pu Try.prog (.idx 1) [v29, v31] fun v33 =>
        WrS Try.prog (b_23 + 8) (.st 1) [v33, a2] fun _ =>
        k []
        )
      ) (S_eisner_take_K1 a0 a1 a2 a3 Q H)
    ) (
    Pu Try.prog .nilck [a0] fun v56 =>
    Pu Try.prog (.addOff 4) [v56] fun v57 =>
    RdS Try.prog (.ld 1 false) [v57] fun v58 =>
    Pu Try.prog (.idx 1) [v58, a1] fun v60 =>
    RdS Try.prog (.ld 1 false) [v60] fun v61 =>
    Pu Try.prog (.idx 2) [v61, a2] fun v64 =>
    Pu Try.prog (.aidx 2 1) [v64, a3] fun v65 =>
    RdS Try.prog (.ld 1 false) [v65] fun v66 =>
    Pu Try.prog (.bin .eql 3) [a3, (.p (.int .i64 0))] fun v68 =>
    CdA v68
      (
      Ca Try.prog (.fn (.func 25) [] []) [a0, a1, v66, (.p (.int .i64 0)), (.p (.bool true))] fun _ =>
      Ca Try.prog (.fn (.func 25) [] []) [a0, v66, a2, (.p (.int .i64 0)), (.p (.bool false))] fun _ =>
      Rt Try.prog H.nx (.tup []) Q
      ) (
      Ca Try.prog (.fn (.func 25) [] []) [a0, a1, v66, (.p (.int .i64 1)), (.p (.bool false))] fun _ =>
      Ca Try.prog (.fn (.func 25) [] []) [a0, v66, a2, (.p (.int .i64 1)), (.p (.bool true))] fun _ =>
      Rt Try.prog H.nx (.tup []) Q
      )
    )
def S_eisner_take (a0 a1 a2 a3 a4 : AV) (Q : AV → AH → Prop) (H : AH) : Prop := (
    Pu Try.prog (.bin .eql 3) [a1, a2] fun v14 =>
    CdA v14
      (
      Rt Try.prog H.nx (.tup []) Q
      ) (S_eisner_take_C2 a0 a1 a2 a3 a4 Q H)
    ) H
theorem eq_eisner_take (a0 a1 a2 a3 a4 : AV) (Q : AV → AH → Prop) (H : AH) : FnA Try.prog 85 (regsF Try.f25) ac_eisner_take [] [a0, a1, a2, a3, a4] H Q = S_eisner_take a0 a1 a2 a3 a4 Q H := by kernel_rfl
theorem tri_eisner_take {a0 a1 a2 a3 a4 : AV} {H : AH} {Q : AV → AH → Prop} (h : S_eisner_take a0 a1 a2 a3 a4 Q H) : Tri Try.prog 25 [a0, a1, a2, a3, a4] H Q :=
  tri_of (Ms := [#[], #[], #[], #[], #[], #[], #[], #[], #[], #[], #[], #[], #[], #[]]) mixed Try.func25 rfl (by kernel_rfl) (by kernel_rfl) rfl (of_decide_eq_true rfl : 5 ≤ 85) ((eq_eisner_take a0 a1 a2 a3 a4 Q H).symm ▸ h : FnA Try.prog 85 (regsF Try.f25) ac_eisner_take [] [a0, a1, a2, a3, a4] H Q)

/-! wordhoard/heads.Best$1 -/
def ac_heads_Best_fn1 : AC := (.seq (.reg 0) (.seq (.reg 1) .ret))
def S_heads_Best_fn1 (a0 a1 a2 : AV) (Q : AV → AH → Prop) (H : AH) : Prop := (
    RdS Try.prog (.ld 1 false) [a2] fun v6 =>
    Pu Try.prog (.idx 1) [v6, a0] fun v8 =>
    RdS Try.prog (.ld 1 false) [v8] fun v9 =>
    Pu Try.prog (.bin .sub 3) [a1, (.p (.int .i64 1))] fun v11 =>
    Pu Try.prog (.idx 1) [v9, v11] fun v12 =>
    RdS Try.prog (.ld 1 false) [v12] fun v13 =>
    Rt Try.prog H.nx v13 Q
    ) H
theorem eq_heads_Best_fn1 (a0 a1 a2 : AV) (Q : AV → AH → Prop) (H : AH) : FnA Try.prog 14 (regsF Try.f22) ac_heads_Best_fn1 [.tm 5] [a0, a1, a2] H Q = S_heads_Best_fn1 a0 a1 a2 Q H := by kernel_rfl
theorem tri_heads_Best_fn1 {a0 a1 a2 : AV} {H : AH} {Q : AV → AH → Prop} (h : S_heads_Best_fn1 a0 a1 a2 Q H) : Tri Try.prog 22 [a0, a1, a2] H Q :=
  tri_of (Ms := [#[], #[]]) mixed Try.func22 rfl (by kernel_rfl) (by kernel_rfl) rfl (of_decide_eq_true rfl : 3 ≤ 14) ((eq_heads_Best_fn1 a0 a1 a2 Q H).symm ▸ h : FnA Try.prog 14 (regsF Try.f22) ac_heads_Best_fn1 [.tm 5] [a0, a1, a2] H Q)

/-! wordhoard/heads.One$1 -/
def ac_heads_One_fn1 : AC := (.seq (.reg 0) (.seq (.seq (.reg 1) (.cond (.tmp 13) (.seq (.reg 2) .ret) .skip)) (.seq (.reg 3) .ret)))
def S_heads_One_fn1 (a0 a1 a2 a3 : AV) (Q : AV → AH → Prop) (H : AH) : Prop := (
    Pu Try.prog (.bin .eql 3) [a0, (.p (.int .i64 0))] fun v8 =>
    Gd v8 true (fun k => k a1) fun v10 =>
    Gd v8 true (fun k_5 => RdS Try.prog (.ld 1 false) [a2] k_5) fun v11 =>
    Gd v8 true (fun k_7 => Pu Try.prog (.bin .neq 3) [v10, v11] k_7) fun v12 =>
    Pu Try.prog .pick [v8, v12, (.p (.bool false))] fun v13 =>
    CdA v13
      (
      Rt Try.prog H.nx (.p (.int .i64 (-1099511627776))) Q
      ) (
      RdS Try.prog (.ld 1 false) [a3] fun v14 =>
      Pu Try.prog (.idx 1) [v14, a0] fun v16 =>
      RdS Try.prog (.ld 1 false) [v16] fun v17 =>
      Pu Try.prog (.bin .sub 3) [a1, (.p (.int .i64 1))] fun v19 =>
      Pu Try.prog (.idx 1) [v17, v19] fun v20 =>
      RdS Try.prog (.ld 1 false) [v20] fun v21 =>
      Rt Try.prog H.nx v21 Q
      )
    ) H
theorem eq_heads_One_fn1 (a0 a1 a2 a3 : AV) (Q : AV → AH → Prop) (H : AH) : FnA Try.prog 22 (regsF Try.f26) ac_heads_One_fn1 [.tm 6] [a0, a1, a2, a3] H Q = S_heads_One_fn1 a0 a1 a2 a3 Q H := by kernel_rfl
theorem tri_heads_One_fn1 {a0 a1 a2 a3 : AV} {H : AH} {Q : AV → AH → Prop} (h : S_heads_One_fn1 a0 a1 a2 a3 Q H) : Tri Try.prog 26 [a0, a1, a2, a3] H Q :=
  tri_of (Ms := [#[], #[], #[], #[]]) mixed Try.func26 rfl (by kernel_rfl) (by kernel_rfl) rfl (of_decide_eq_true rfl : 4 ≤ 22) ((eq_heads_One_fn1 a0 a1 a2 a3 Q H).symm ▸ h : FnA Try.prog 22 (regsF Try.f26) ac_heads_One_fn1 [.tm 6] [a0, a1, a2, a3] H Q)

/-! wordhoard/heads.Check$1 -/
def ac_heads_Check_fn1 : AC := (.seq (.reg 0) (.seq (.reg 1) .ret))
def S_heads_Check_fn1 (a0 : AV) (Q : AV → AH → Prop) (H : AH) : Prop := (
    Pu Try.prog (.bin .lss 3) [a0, (.p (.int .i64 (-1000000)))] fun v4 =>
    Gd v4 false (fun k => k a0) fun v6 =>
    Gd v4 false (fun k_5 => Pu Try.prog (.bin .gtr 3) [v6, (.p (.int .i64 1000000))] k_5) fun v7 =>
    Pu Try.prog .pick [v4, (.p (.bool true)), v7] fun v8 =>
    Rt Try.prog H.nx v8 Q
    ) H
theorem eq_heads_Check_fn1 (a0 : AV) (Q : AV → AH → Prop) (H : AH) : FnA Try.prog 9 (regsF Try.f28) ac_heads_Check_fn1 [.tm 2] [a0] H Q = S_heads_Check_fn1 a0 Q H := by kernel_rfl
theorem tri_heads_Check_fn1 {a0 : AV} {H : AH} {Q : AV → AH → Prop} (h : S_heads_Check_fn1 a0 Q H) : Tri Try.prog 28 [a0] H Q :=
  tri_of (Ms := [#[], #[]]) mixed Try.func28 rfl (by kernel_rfl) (by kernel_rfl) rfl (of_decide_eq_true rfl : 1 ≤ 9) ((eq_heads_Check_fn1 a0 Q H).symm ▸ h : FnA Try.prog 9 (regsF Try.f28) ac_heads_Check_fn1 [.tm 2] [a0] H Q)
end Go.Proofs.Ytaepnmnoofigjaa
