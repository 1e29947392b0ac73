/- Abstract walks of functions, written by a program (wip/aw/aw.py): each equation is checked by the kernel. -/
import Derived.Test.YtcmnjoepadjioaaAwG
namespace Go.Proofs.Ytcmnjoepadjioaa
open Go.RowKit

/-! (*wordhoard/prove.arguer).put -/
def ac_arguer_put : AC := (.seq (.reg 0) (.seq (.reg 1) (.seq (.reg 2) (.cond (.tmp 20) (.seq (.reg 3) (.reg 4)) .skip))))
def S_arguer_put (a0 a1 a2 a3 : AV) (Q : AV → AH → Prop) (H : AH) : Prop := (
    Rg 1 fun b =>
    Al (b + 0) (.bx 24) [a2] fun v6 =>
    Vw fun V =>
    Pu Try.prog .nilck [a0] fun v12 =>
    Pu Try.prog (.addOff 1) [v12] fun v13 =>
    Rd Try.prog V (.ld 1 false) [v13] fun v14 =>
    Rd Try.prog V (.ld 3 true) [v6] fun v15 =>
    Rd Try.prog V (.look 24 (.p (.int .i64 0)) true) [v14, v15] fun v16 =>
    Pu Try.prog (.ext 0) [v16] fun v17 =>
    Pu Try.prog (.ext 1) [v16] fun v18 =>
    Pu Try.prog (.un .not) [v18] fun v20 =>
    CdA v20
      (
      Rg 11 fun b_12 =>
      Vw fun V_13 =>
      Pu Try.prog .nilck [a0] fun v22 =>
      Pu Try.prog (.addOff 1) [v22] fun v23 =>
      Rd Try.prog V_13 (.ld 1 false) [v23] fun v24 =>
      Rd Try.prog V_13 (.ld 3 true) [v6] fun v25 =>
      Pu Try.prog .nilck [a0] fun v27 =>
      Pu Try.prog (.addOff 0) [v27] fun v28 =>
      Rd Try.prog V_13 (.ld 1 false) [v28] fun v29 =>
      Pu Try.prog .len [v29] fun v30 =>
      Wr Try.prog (b_12 + 10) (.mset 24) [v24, v25, v30] fun vn V_23 =>
      Rg 14 fun b_24 =>
      Vw fun V_25 =>
      Pu Try.prog .nilck [a0] fun v33 =>
      Pu Try.prog (.addOff 0) [v33] fun v34 =>
      Rd Try.prog V_25 (.ld 1 false) [v34] fun v35 =>
      Rd Try.prog V_25 (.ld 3 true) [v6] fun v37 =>
      Pu Try.prog (.bld [.p (.int .i64 0), .p (.bool false), .p (.int .i64 0), .p (.int .i64 0), .p (.slice none 0 0)] [(0, 1), (1, 3), (4, 1)]) [a1, v37, a3] fun v39 =>
      Al (b_24 + 9) (.bs 36 5 1 [.p (.int .i64 0), .p (.bool false), .p (.int .i64 0), .p (.int .i64 0), .p (.slice none 0 0)] [(0, 5)]) [v39] fun v40 =>
      Wr Try.prog (b_24 + 10) (.app 36 5 56) [v35, v40] fun v41 V_33 =>
      Pu Try.prog .nilck [a0] fun v42 =>
      Pu Try.prog (.addOff 0) [v42] fun v43 =>
      Wr Try.prog (b_24 + 13) (.st 1) [v43, v41] fun vn_36 V_37 =>
      Rt Try.prog H.nx (.tup []) Q
      ) (
      Rt Try.prog H.nx (.tup []) Q
      )
    ) H
theorem eq_arguer_put (a0 a1 a2 a3 : AV) (Q : AV → AH → Prop) (H : AH) : FnA Try.prog 44 (regsF Try.f26) ac_arguer_put [] [a0, a1, a2, a3] H Q = S_arguer_put a0 a1 a2 a3 Q H := by kernel_rfl
theorem tri_arguer_put {a0 a1 a2 a3 : AV} {H : AH} {Q : AV → AH → Prop} (h : S_arguer_put a0 a1 a2 a3 Q H) : Tri Try.prog 26 [a0, a1, a2, a3] H Q :=
  tri_of (Ms := [#[], #[0, 1, 3, 7, 0, 31, 63, 127, 127, 255, 1023], #[], #[0, 1, 3, 7, 0, 0, 32, 96, 224, 480, 1023], #[0, 0, 2, 6, 14, 0, 0, 0, 224, 480, 1022, 2047, 4095, 8191]]) mixed Try.func26 rfl (by kernel_rfl) (by kernel_rfl) rfl (of_decide_eq_true rfl : 4 ≤ 44) ((eq_arguer_put a0 a1 a2 a3 Q H).symm ▸ h : FnA Try.prog 44 (regsF Try.f26) ac_arguer_put [] [a0, a1, a2, a3] H Q)

/-! (*wordhoard/prove.arguer).one -/
def ac_arguer_one : AC := (.seq (.reg 0) (.block 0 (.seq (.reg 1) (.cond (.tmp 55) (.seq (.reg 2) (.reg 3)) (.seq (.reg 4) (.seq (.seq (.reg 5) (.cond (.tmp 32) .ret .skip)) (.seq (.reg 6) (.block 1 (.loop [5] [(7, 8), (33, 55)] (.seq (.seq (.reg 7) (.cond (.tmp 34) .skip (.exit 1))) (.seq (.block 2 (.seq (.reg 8) (.block 3 (.loop [42] [(7, 8), (43, 55)] (.seq (.reg 9) (.seq (.cond (.tmp 43) .skip (.exit 3)) (.seq (.block 4 (.seq (.reg 10) (.reg 11))) (.reg 12)))))))) (.reg 13))))))))))))
def S_arguer_one (a0 a1 : AV) (Q : AV → AH → Prop) (H : AH) : Prop := (
    Rg 10 fun b =>
    Pu Try.prog .nilck [a0] fun v9 =>
    Pu Try.prog (.addOff 0) [v9] fun v10 =>
    RdS Try.prog (.ld 1 false) [v10] fun v11 =>
    Pu Try.prog (.idx 5) [v11, a1] fun v13 =>
    Pu Try.prog (.addOff 1) [v13] fun v14 =>
    RdS Try.prog (.ld 3 true) [v14] fun v15 =>
    Al (b + 8) (.nw 24 [.p (.bool false), .p (.int .i64 0), .p (.int .i64 0)]) [] fun v4 =>
    WrS Try.prog (b + 9) (.st 3) [v4, v15] fun vn =>
    Pu Try.prog (.addOff 0) [v4] fun v56 =>
    RdS Try.prog (.ld 1 false) [v56] fun v57 =>
    CdA v57
      (
      Rg 9 fun b_12 =>
      Pu Try.prog (.addOff 2) [v4] fun v59 =>
      RdS Try.prog (.ld 1 false) [v59] fun v60 =>
      Pu Try.prog (.addOff 1) [v4] fun v61 =>
      RdS Try.prog (.ld 1 false) [v61] fun v62 =>
      Pu Try.prog (.bld [.p (.bool false), .p (.int .i64 0), .p (.int .i64 0)] [(0, 1), (1, 1), (2, 1)]) [(.p (.bool true)), v60, v62] fun v63 =>
      Al (b_12 + 7) (.bs 3 1 1 [.p (.int .i64 0)] [(0, 1)]) [a1] fun v65 =>
      Ca Try.prog (.fn (.func 26) [] []) [a0, (.p (.int .i64 7)), v63, v65] fun v66 =>
      Rg 9 fun b_20 =>
      Pu Try.prog (.addOff 1) [v4] fun v68 =>
      RdS Try.prog (.ld 1 false) [v68] fun v69 =>
      Pu Try.prog (.addOff 1) [v4] fun v70 =>
      RdS Try.prog (.ld 1 false) [v70] fun v71 =>
      Pu Try.prog (.bld [.p (.bool false), .p (.int .i64 0), .p (.int .i64 0)] [(0, 1), (1, 1), (2, 1)]) [(.p (.bool true)), v69, v71] fun v72 =>
      Al (b_20 + 7) (.bs 3 1 1 [.p (.int .i64 0)] [(0, 1)]) [a1] fun v74 =>
      Ca Try.prog (.fn (.func 26) [] []) [a0, (.p (.int .i64 8)), v72, v74] fun v75 =>
      Rt Try.prog H.nx (.tup []) Q
      ) (
      Rg 11 fun b_28 =>
      Pu Try.prog (.addOff 2) [v4] fun v17 =>
      RdS Try.prog (.ld 1 false) [v17] fun v18 =>
      Pu Try.prog (.un .neg) [v18] fun v19 =>
      Pu Try.prog (.addOff 1) [v4] fun v20 =>
      RdS Try.prog (.ld 1 false) [v20] fun v21 =>
      Pu Try.prog (.un .neg) [v21] fun v22 =>
      Pu Try.prog (.bld [.p (.bool false), .p (.int .i64 0), .p (.int .i64 0)] [(1, 1), (2, 1)]) [v19, v22] fun v23 =>
      Al (b_28 + 9) (.bs 3 1 1 [.p (.int .i64 0)] [(0, 1)]) [a1] fun v25 =>
      Ca Try.prog (.fn (.func 26) [] []) [a0, (.p (.int .i64 4)), v23, v25] fun v26 =>
      Pu Try.prog (.addOff 2) [v4] fun v27 =>
      RdS Try.prog (.ld 1 false) [v27] fun v28 =>
      Pu Try.prog (.addOff 1) [v4] fun v29 =>
      RdS Try.prog (.ld 1 false) [v29] fun v30 =>
      Pu Try.prog (.un .neg) [v30] fun v31 =>
      Pu Try.prog (.bin .neq 3) [v28, v31] fun v32 =>
      CdA v32
        (
        Rt Try.prog H.nx (.tup []) Q
        ) (
        LoopA Try.prog 1 (fun vs k =>
          Pu Try.prog (.bin .leq 3) [(vs.getD 0 .any), (.p (.int .i64 6))] fun v34 =>
          CdA v34
            (
            Rg 6 fun b_47 =>
            Pu Try.prog (.un .neg) [(vs.getD 0 .any)] fun v39 =>
            Al (b_47 + 3) (.bs 3 1 2 [.p (.int .i64 0)] [(0, 1), (1, 1)]) [(vs.getD 0 .any), v39] fun v40 =>
            Pu Try.prog .len [v40] fun v41 =>
            LoopA Try.prog 1 (fun vs_52 k_51 =>
              Pu Try.prog (.bin .lss 3) [(vs_52.getD 0 .any), v41] fun v43 =>
              CdA v43
                (
                Pu Try.prog (.idx 1) [v40, (vs_52.getD 0 .any)] fun v44 =>
                RdS Try.prog (.ld 1 false) [v44] fun v45 =>
                Rg 8 fun b_56 =>
                Pu Try.prog (.addOff 1) [v4] fun v47 =>
                RdS Try.prog (.ld 1 false) [v47] fun v48 =>
                Pu Try.prog (.bld [.p (.bool false), .p (.int .i64 0), .p (.int .i64 0)] [(1, 1), (2, 1)]) [v48, v45] fun v50 =>
                Al (b_56 + 6) (.bs 3 1 1 [.p (.int .i64 0)] [(0, 1)]) [a1] fun v52 =>
                Ca Try.prog (.fn (.func 26) [] []) [a0, (.p (.int .i64 5)), v50, v52] fun v53 =>
                Pu Try.prog (.bin .add 3) [(vs_52.getD 0 .any), (.p (.int .i64 1))] fun v54 =>
                k_51 [v54]
                ) (
                Pu Try.prog (.bin .add 3) [(vs.getD 0 .any), (.p (.int .i64 1))] fun v36 =>
                k [v36]
                )
              ) [(.p (.int .i64 0))]
            ) (
            Rt Try.prog H.nx (.tup []) Q
            )
          ) [(.p (.int .i64 1))]
        )
      )
    ) H
theorem eq_arguer_one (a0 a1 : AV) (Q : AV → AH → Prop) (H : AH) : FnA Try.prog 76 (regsF Try.f27) ac_arguer_one [] [a0, a1] H Q = S_arguer_one a0 a1 Q H := by kernel_rfl
theorem tri_arguer_one {a0 a1 : AV} {H : AH} {Q : AV → AH → Prop} (h : S_arguer_one a0 a1 Q H) : Tri Try.prog 27 [a0, a1] H Q :=
  tri_of (Ms := [#[], #[], #[], #[], #[], #[], #[], #[], #[], #[], #[], #[], #[], #[]]) mixed Try.func27 rfl (by kernel_rfl) (by kernel_rfl) rfl (of_decide_eq_true rfl : 2 ≤ 76) ((eq_arguer_one a0 a1 Q H).symm ▸ h : FnA Try.prog 76 (regsF Try.f27) ac_arguer_one [] [a0, a1] H Q)

/-! (*wordhoard/prove.arguer).two -/
def ac_arguer_two : AC := (.seq (.reg 0) (.block 0 (.seq (.reg 1) (.cond (.tmp 24) .skip (.seq (.reg 2) (.cond (.tmp 27) (.reg 3) (.seq (.reg 4) (.cond (.tmp 48) (.reg 5) .skip))))))))
def S_arguer_two (a0 a1 a2 : AV) (Q : AV → AH → Prop) (H : AH) : Prop := (
    Rg 20 fun b =>
    Vw fun V =>
    Pu Try.prog .nilck [a0] fun v9 =>
    Pu Try.prog (.addOff 0) [v9] fun v10 =>
    Rd Try.prog V (.ld 1 false) [v10] fun v11 =>
    Pu Try.prog (.idx 5) [v11, a1] fun v13 =>
    Pu Try.prog (.addOff 1) [v13] fun v14 =>
    Rd Try.prog V (.ld 3 true) [v14] fun v15 =>
    Pu Try.prog .nilck [a0] fun v17 =>
    Pu Try.prog (.addOff 0) [v17] fun v18 =>
    Rd Try.prog V (.ld 1 false) [v18] fun v19 =>
    Pu Try.prog (.idx 5) [v19, a2] fun v21 =>
    Pu Try.prog (.addOff 1) [v21] fun v22 =>
    Rd Try.prog V (.ld 3 true) [v22] fun v23 =>
    Al (b + 16) (.nw 24 [.p (.bool false), .p (.int .i64 0), .p (.int .i64 0)]) [] fun v6 =>
    Al (b + 17) (.nw 24 [.p (.bool false), .p (.int .i64 0), .p (.int .i64 0)]) [] fun v7 =>
    WrF V (some (b + 16)) none (b + 18) (.st 3) [v6, v15] fun vn =>
    WrF V (some (b + 17)) none (b + 19) (.st 3) [v7, v23] fun vn_18 =>
    Pu Try.prog (.addOff 0) [v7] fun v25 =>
    RdS Try.prog (.ld 1 false) [v25] fun v26 =>
    CdA v26
      (
      Rt Try.prog H.nx (.tup []) Q
      ) (
      Pu Try.prog (.addOff 0) [v6] fun v28 =>
      RdS Try.prog (.ld 1 false) [v28] fun v29 =>
      Pu Try.prog (.un .not) [v29] fun v30 =>
      Gd v30 true (fun k => Pu Try.prog (.addOff 2) [v6] k) fun v32 =>
      Gd v30 true (fun k_27 => RdS Try.prog (.ld 1 false) [v32] k_27) fun v33 =>
      Gd v30 true (fun k_29 => Pu Try.prog (.addOff 1) [v7] k_29) fun v34 =>
      Gd v30 true (fun k_31 => RdS Try.prog (.ld 1 false) [v34] k_31) fun v35 =>
      Gd v30 true (fun k_33 => Pu Try.prog (.bin .eql 3) [v33, v35] k_33) fun v36 =>
      Pu Try.prog .pick [v30, v36, (.p (.bool false))] fun v37 =>
      CdA v37
        (
        Rg 10 fun b_35 =>
        Pu Try.prog (.addOff 1) [v6] fun v39 =>
        RdS Try.prog (.ld 1 false) [v39] fun v40 =>
        Pu Try.prog (.addOff 2) [v7] fun v41 =>
        RdS Try.prog (.ld 1 false) [v41] fun v42 =>
        Pu Try.prog (.bld [.p (.bool false), .p (.int .i64 0), .p (.int .i64 0)] [(1, 1), (2, 1)]) [v40, v42] fun v43 =>
        Al (b_35 + 8) (.bs 3 1 2 [.p (.int .i64 0)] [(0, 1), (1, 1)]) [a1, a2] fun v46 =>
        Ca Try.prog (.fn (.func 26) [] []) [a0, (.p (.int .i64 3)), v43, v46] fun v47 =>
        Rt Try.prog H.nx (.tup []) Q
        ) (
        Pu Try.prog (.addOff 0) [v6] fun v49 =>
        RdS Try.prog (.ld 1 false) [v49] fun v50 =>
        Gd v50 true (fun k_46 => Pu Try.prog (.addOff 2) [v6] k_46) fun v52 =>
        Gd v50 true (fun k_48 => RdS Try.prog (.ld 1 false) [v52] k_48) fun v53 =>
        Gd v50 true (fun k_50 => Pu Try.prog (.addOff 1) [v7] k_50) fun v54 =>
        Gd v50 true (fun k_52 => RdS Try.prog (.ld 1 false) [v54] k_52) fun v55 =>
        Gd v50 true (fun k_54 => Pu Try.prog (.bin .eql 3) [v53, v55] k_54) fun v56 =>
        Pu Try.prog .pick [v50, v56, (.p (.bool false))] fun v57 =>
        CdA v57
          (
          Rg 10 fun b_56 =>
          Pu Try.prog (.addOff 1) [v6] fun v59 =>
          RdS Try.prog (.ld 1 false) [v59] fun v60 =>
          Pu Try.prog (.addOff 2) [v7] fun v61 =>
          RdS Try.prog (.ld 1 false) [v61] fun v62 =>
          Pu Try.prog (.bld [.p (.bool false), .p (.int .i64 0), .p (.int .i64 0)] [(0, 1), (1, 1), (2, 1)]) [(.p (.bool true)), v60, v62] fun v63 =>
          Al (b_56 + 8) (.bs 3 1 2 [.p (.int .i64 0)] [(0, 1), (1, 1)]) [a1, a2] fun v66 =>
          Ca Try.prog (.fn (.func 26) [] []) [a0, (.p (.int .i64 9)), v63, v66] fun v67 =>
          Rt Try.prog H.nx (.tup []) Q
          ) (
          Rt Try.prog H.nx (.tup []) Q
          )
        )
      )
    ) H
theorem eq_arguer_two (a0 a1 a2 : AV) (Q : AV → AH → Prop) (H : AH) : FnA Try.prog 68 (regsF Try.f28) ac_arguer_two [] [a0, a1, a2] H Q = S_arguer_two a0 a1 a2 Q H := by kernel_rfl
theorem tri_arguer_two {a0 a1 a2 : AV} {H : AH} {Q : AV → AH → Prop} (h : S_arguer_two a0 a1 a2 Q H) : Tri Try.prog 28 [a0, a1, a2] H Q :=
  tri_of (Ms := [#[0, 1, 3, 7, 0, 31, 63, 127, 0, 256, 768, 1792, 0, 7936, 16128, 32512, 0, 0, 196863, 524287], #[], #[], #[], #[], #[]]) mixed Try.func28 rfl (by kernel_rfl) (by kernel_rfl) rfl (of_decide_eq_true rfl : 3 ≤ 68) ((eq_arguer_two a0 a1 a2 Q H).symm ▸ h : FnA Try.prog 68 (regsF Try.f28) ac_arguer_two [] [a0, a1, a2] H Q)

/-! (*wordhoard/prove.arguer).needed -/
def ac_arguer_needed : AC := (.seq (.reg 0) (.seq (.reg 1) (.seq (.reg 2) (.seq (.seq (.reg 3) (.block 0 (.loop [6] [(8, 9), (24, 60)] (.seq (.seq (.reg 4) (.cond (.tmp 25) .skip (.exit 0))) (.seq (.block 1 (.seq (.reg 5) (.cond (.tmp 42) (.seq (.reg 6) (.block 2 (.loop [52] [(8, 9), (53, 60)] (.seq (.reg 7) (.seq (.cond (.tmp 53) .skip (.exit 2)) (.seq (.block 3 (.seq (.reg 8) (.reg 9))) (.reg 10))))))) .skip))) (.reg 11)))))) (.seq (.reg 12) (.seq (.reg 13) (.seq (.seq (.reg 14) (.block 4 (.loop [10, 68] [(11, 14), (69, 119)] (.seq (.reg 15) (.seq (.cond (.tmp 69) .skip (.exit 4)) (.seq (.block 5 (.seq (.reg 16) (.seq (.seq (.reg 17) (.cond (.tmp 75) (.exit 5) .skip)) (.seq (.reg 18) (.seq (.reg 19) (.seq (.reg 20) (.seq (.seq (.reg 21) (.cond (.tmp 94) (.seq (.reg 22) (.block 6 (.loop [98] [(13, 14), (99, 114)] (.seq (.reg 23) (.seq (.cond (.tmp 99) .skip (.exit 6)) (.seq (.block 7 (.seq (.reg 24) (.reg 25))) (.reg 26))))))) .skip)) (.gh (.reg 27))))))))) (.reg 28))))))) (.seq (.reg 29) .ret))))))))
def S_arguer_needed (a0 a1 : AV) (Q : AV → AH → Prop) (H : AH) : Prop := (
    Rg 7 fun b =>
    Pu Try.prog .nilck [a0] fun v15 =>
    Pu Try.prog (.addOff 0) [v15] fun v16 =>
    RdS Try.prog (.ld 1 false) [v16] fun v17 =>
    Pu Try.prog .len [v17] fun v18 =>
    Al (b + 5) (.ms 4 1 1 [.p (.bool false)]) [v18, v18] fun v19 =>
    Rg 4 fun b_7 =>
    Pu Try.prog (.idx 1) [v19, a1] fun v22 =>
    WrS Try.prog (b_7 + 3) (.st 1) [v22, (.p (.bool true))] fun vn =>
    LoopA Try.prog 1 (fun vs k =>
      Pu Try.prog (.bin .geq 3) [(vs.getD 0 .any), (.p (.int .i64 0))] fun v25 =>
      CdA v25
        (
        Pu Try.prog (.idx 1) [v19, (vs.getD 0 .any)] fun v30 =>
        RdS Try.prog (.ld 1 false) [v30] fun v31 =>
        Gd v31 true (fun k_16 => k_16 a0) fun v33 =>
        Gd v31 true (fun k_18 => Pu Try.prog .nilck [v33] k_18) fun v34 =>
        Gd v31 true (fun k_20 => Pu Try.prog (.addOff 0) [v34] k_20) fun v35 =>
        Gd v31 true (fun k_22 => RdS Try.prog (.ld 1 false) [v35] k_22) fun v36 =>
        Gd v31 true (fun k_24 => k_24 (vs.getD 0 .any)) fun v37 =>
        Gd v31 true (fun k_26 => Pu Try.prog (.idx 5) [v36, v37] k_26) fun v38 =>
        Gd v31 true (fun k_28 => Pu Try.prog (.addOff 0) [v38] k_28) fun v39 =>
        Gd v31 true (fun k_30 => RdS Try.prog (.ld 1 false) [v39] k_30) fun v40 =>
        Gd v31 true (fun k_32 => Pu Try.prog (.bin .neq 3) [v40, (.p (.int .i64 1))] k_32) fun v41 =>
        Pu Try.prog .pick [v31, v41, (.p (.bool false))] fun v42 =>
        CdA v42
          (
          Pu Try.prog .nilck [a0] fun v44 =>
          Pu Try.prog (.addOff 0) [v44] fun v45 =>
          RdS Try.prog (.ld 1 false) [v45] fun v46 =>
          Pu Try.prog (.idx 5) [v46, (vs.getD 0 .any)] fun v48 =>
          Pu Try.prog (.addOff 4) [v48] fun v49 =>
          RdS Try.prog (.ld 1 false) [v49] fun v50 =>
          Pu Try.prog .len [v50] fun v51 =>
          LoopA Try.prog 1 (fun vs_42 k_41 =>
            Pu Try.prog (.bin .lss 3) [(vs_42.getD 0 .any), v51] fun v53 =>
            CdA v53
              (
              Pu Try.prog (.idx 1) [v50, (vs_42.getD 0 .any)] fun v54 =>
              RdS Try.prog (.ld 1 false) [v54] fun v55 =>
              Rg 4 fun b_46 =>
              Pu Try.prog (.idx 1) [v19, v55] fun v58 =>
              WrS Try.prog (b_46 + 3) (.st 1) [v58, (.p (.bool true))] fun vn_48 =>
              Pu Try.prog (.bin .add 3) [(vs_42.getD 0 .any), (.p (.int .i64 1))] fun v59 =>
              k_41 [v59]
              ) (
              Pu Try.prog (.bin .sub 3) [(vs.getD 0 .any), (.p (.int .i64 1))] fun v27 =>
              k [v27]
              )
            ) [(.p (.int .i64 0))]
          ) (
          Pu Try.prog (.bin .sub 3) [(vs.getD 0 .any), (.p (.int .i64 1))] fun v27_51 =>
          k [v27_51]
          )
        ) (
        Rg 7 fun b_52 =>
        Pu Try.prog .nilck [a0] fun v61 =>
        Pu Try.prog (.addOff 0) [v61] fun v62 =>
        RdS Try.prog (.ld 1 false) [v62] fun v63 =>
        Pu Try.prog .len [v63] fun v64 =>
        Al (b_52 + 5) (.ms 3 1 8 [.p (.int .i64 0)]) [v64, v64] fun v65 =>
        Pu Try.prog (.bin .add 3) [a1, (.p (.int .i64 1))] fun v67 =>
        LoopA Try.prog 2 (fun vs_60 k_59 =>
          Pu Try.prog (.bin .lss 3) [(vs_60.getD 1 .any), v67] fun v69 =>
          CdA v69
            (
            Pu Try.prog (.idx 1) [v19, (vs_60.getD 1 .any)] fun v73 =>
            RdS Try.prog (.ld 1 false) [v73] fun v74 =>
            Pu Try.prog (.un .not) [v74] fun v75 =>
            CdA v75
              (
              Pu Try.prog (.bin .add 3) [(vs_60.getD 1 .any), (.p (.int .i64 1))] fun v118 =>
              k_59 [(vs_60.getD 0 .any), v118]
              ) (
              Rg 6 fun b_66 =>
              Pu Try.prog .len [(vs_60.getD 0 .any)] fun v79 =>
              Pu Try.prog (.idx 1) [v65, (vs_60.getD 1 .any)] fun v80 =>
              WrS Try.prog (b_66 + 5) (.st 1) [v80, v79] fun vn_69 =>
              Rg 9 fun b_70 =>
              Pu Try.prog .nilck [a0] fun v82 =>
              Pu Try.prog (.addOff 0) [v82] fun v83 =>
              RdS Try.prog (.ld 1 false) [v83] fun v84 =>
              Pu Try.prog (.idx 5) [v84, (vs_60.getD 1 .any)] fun v86 =>
              RdS Try.prog (.ld 5 true) [v86] fun v87 =>
              Al (b_70 + 7) (.nw 36 [.p (.int .i64 0), .p (.bool false), .p (.int .i64 0), .p (.int .i64 0), .p (.slice none 0 0)]) [] fun v12 =>
              WrS Try.prog (b_70 + 8) (.st 5) [v12, v87] fun vn_77 =>
              Rg 5 fun b_78 =>
              Pu Try.prog (.addOff 4) [v12] fun v88 =>
              RdS Try.prog (.ld 1 false) [v88] fun v89 =>
              Ca Try.prog (.fn (.func 43) [] []) [v89] fun v90 =>
              Pu Try.prog (.addOff 4) [v12] fun v91 =>
              WrS Try.prog (b_78 + 4) (.st 1) [v91, v90] fun vn_83 =>
              Pu Try.prog (.addOff 0) [v12] fun v92 =>
              RdS Try.prog (.ld 1 false) [v92] fun v93 =>
              Pu Try.prog (.bin .neq 3) [v93, (.p (.int .i64 1))] fun v94 =>
              CdA v94
                (
                Pu Try.prog (.addOff 4) [v12] fun v95 =>
                RdS Try.prog (.ld 1 false) [v95] fun v96 =>
                Pu Try.prog .len [v96] fun v97 =>
                LoopA Try.prog 1 (fun vs_91 k_90 =>
                  Pu Try.prog (.bin .lss 3) [(vs_91.getD 0 .any), v97] fun v99 =>
                  CdA v99
                    (
                    Rg 13 fun b_93 =>
                    Vw fun V =>
                    Pu Try.prog (.addOff 4) [v12] fun v101 =>
                    Rd Try.prog V (.ld 1 false) [v101] fun v102 =>
                    Pu Try.prog (.addOff 4) [v12] fun v105 =>
                    Rd Try.prog V (.ld 1 false) [v105] fun v106 =>
                    Pu Try.prog (.idx 1) [v106, (vs_91.getD 0 .any)] fun v108 =>
                    Rd Try.prog V (.ld 1 false) [v108] fun v109 =>
                    Pu Try.prog (.idx 1) [v65, v109] fun v110 =>
                    Rd Try.prog V (.ld 1 false) [v110] fun v111 =>
                    Pu Try.prog (.idx 1) [v102, (vs_91.getD 0 .any)] fun v112 =>
                    Wr Try.prog (b_93 + 12) (.st 1) [v112, v111] fun vn_104 V_105 =>
                    Pu Try.prog (.bin .add 3) [(vs_91.getD 0 .any), (.p (.int .i64 1))] fun v113 =>
                    k_90 [v113]
                    ) (
                    Gq Try.prog <|
                    Rg 5 fun b_107 =>
                    RdS Try.prog (.ld 5 true) [v12] fun v115 =>
                    Al (b_107 + 2) (.bs 36 5 1 [.p (.int .i64 0), .p (.bool false), .p (.int .i64 0), .p (.int .i64 0), .p (.slice none 0 0)] [(0, 5)]) [v115] fun v116 =>
                    WrS Try.prog (b_107 + 3) (.app 36 5 56) [(vs_60.getD 0 .any), v116] fun v117 =>
                    Pu Try.prog (.bin .add 3) [(vs_60.getD 1 .any), (.p (.int .i64 1))] fun v118_111 =>
                    k_59 [v117, v118_111]
                    )
                  ) [(.p (.int .i64 0))]
                ) (
                Gq Try.prog <|
                Rg 5 fun b_112 =>
                RdS Try.prog (.ld 5 true) [v12] fun v115_113 =>
                Al (b_112 + 2) (.bs 36 5 1 [.p (.int .i64 0), .p (.bool false), .p (.int .i64 0), .p (.int .i64 0), .p (.slice none 0 0)] [(0, 5)]) [v115_113] fun v116_114 =>
                WrS Try.prog (b_112 + 3) (.app 36 5 56) [(vs_60.getD 0 .any), v116_114] fun v117_115 =>
                Pu Try.prog (.bin .add 3) [(vs_60.getD 1 .any), (.p (.int .i64 1))] fun v118_116 =>
                k_59 [v117_115, v118_116]
                )
              )
            ) (
            Rt Try.prog H.nx (vs_60.getD 0 .any) Q
            )
          ) [(.p (.slice none 0 0)), (.p (.int .i64 0))]
        )
      ) [a1]
    ) H
theorem eq_arguer_needed (a0 a1 : AV) (Q : AV → AH → Prop) (H : AH) : FnA Try.prog 120 (regsF Try.f29) ac_arguer_needed [.tm 4] [a0, a1] H Q = S_arguer_needed a0 a1 Q H := by kernel_rfl
theorem tri_arguer_needed {a0 a1 : AV} {H : AH} {Q : AV → AH → Prop} (h : S_arguer_needed a0 a1 Q H) : Tri Try.prog 29 [a0, a1] H Q :=
  tri_of (Ms := [#[], #[], #[], #[], #[], #[], #[], #[], #[], #[], #[], #[], #[], #[], #[], #[], #[], #[], #[], #[], #[], #[], #[], #[], #[], #[0, 1, 0, 0, 0, 16, 0, 112, 240, 504, 1016, 2047, 4095], #[], #[], #[], #[]]) mixed Try.func29 rfl (by kernel_rfl) (by kernel_rfl) rfl (of_decide_eq_true rfl : 2 ≤ 120) ((eq_arguer_needed a0 a1 Q H).symm ▸ h : FnA Try.prog 120 (regsF Try.f29) ac_arguer_needed [.tm 4] [a0, a1] H Q)

/-! (*wordhoard/prove.arguer).clash -/
def ac_arguer_clash : AC := (.seq (.reg 0) (.seq (.seq (.reg 1) (.block 0 (.loop [15] [(2, 10), (16, 45)] (.seq (.reg 2) (.seq (.cond (.tmp 16) .skip (.exit 0)) (.seq (.block 1 (.seq (.reg 3) (.seq (.reg 4) (.seq (.reg 5) (.seq (.reg 6) (.cond (.tmp 41) (.seq (.reg 7) .ret) .skip)))))) (.reg 8))))))) (.seq (.reg 9) .ret)))
def S_arguer_clash (a0 : AV) (Q : AV → AH → Prop) (H : AH) : Prop := (
    Pu Try.prog .nilck [a0] fun v11 =>
    Pu Try.prog (.addOff 0) [v11] fun v12 =>
    RdS Try.prog (.ld 1 false) [v12] fun v13 =>
    Pu Try.prog .len [v13] fun v14 =>
    LoopA Try.prog 1 (fun vs k =>
      Pu Try.prog (.bin .lss 3) [(vs.getD 0 .any), v14] fun v16 =>
      CdA v16
        (
        Rg 6 fun b =>
        Pu Try.prog (.idx 5) [v13, (vs.getD 0 .any)] fun v18 =>
        RdS Try.prog (.ld 5 true) [v18] fun v19 =>
        Al (b + 3) (.nw 36 [.p (.int .i64 0), .p (.bool false), .p (.int .i64 0), .p (.int .i64 0), .p (.slice none 0 0)]) [] fun v6 =>
        WrS Try.prog (b + 5) (.st 5) [v6, v19] fun vn =>
        Rg 4 fun b_13 =>
        Pu Try.prog (.addOff 1) [v6] fun v20 =>
        RdS Try.prog (.ld 3 true) [v20] fun v21 =>
        Al (b_13 + 2) (.nw 24 [.p (.bool false), .p (.int .i64 0), .p (.int .i64 0)]) [] fun v7 =>
        WrS Try.prog (b_13 + 3) (.st 3) [v7, v21] fun vn_17 =>
        Vw fun V =>
        Pu Try.prog .nilck [a0] fun v24 =>
        Pu Try.prog (.addOff 1) [v24] fun v25 =>
        Rd Try.prog V (.ld 1 false) [v25] fun v26 =>
        Pu Try.prog (.addOff 1) [v7] fun v27 =>
        Rd Try.prog V (.ld 1 false) [v27] fun v28 =>
        Pu Try.prog (.addOff 2) [v7] fun v29 =>
        Rd Try.prog V (.ld 1 false) [v29] fun v30 =>
        Pu Try.prog (.un .neg) [v30] fun v31 =>
        Pu Try.prog (.bld [.p (.bool false), .p (.int .i64 0), .p (.int .i64 0)] [(0, 1), (1, 1), (2, 1)]) [(.p (.bool true)), v28, v31] fun v32 =>
        Rd Try.prog V (.look 24 (.p (.int .i64 0)) true) [v26, v32] fun v33 =>
        Pu Try.prog (.ext 0) [v33] fun v34 =>
        Pu Try.prog (.ext 1) [v33] fun v35 =>
        Pu Try.prog (.addOff 0) [v7] fun v36 =>
        RdS Try.prog (.ld 1 false) [v36] fun v37 =>
        Pu Try.prog (.un .not) [v37] fun v38 =>
        Gd v38 true (fun k_35 => k_35 v35) fun v40 =>
        Pu Try.prog .pick [v38, v40, (.p (.bool false))] fun v41 =>
        CdA v41
          (
          Rt Try.prog H.nx (.tup [(vs.getD 0 .any), v34, (.p (.bool true))]) Q
          ) (
          Pu Try.prog (.bin .add 3) [(vs.getD 0 .any), (.p (.int .i64 1))] fun v44 =>
          k [v44]
          )
        ) (
        Rt Try.prog H.nx (.tup [(.p (.int .i64 0)), (.p (.int .i64 0)), (.p (.bool false))]) Q
        )
      ) [(.p (.int .i64 0))]
    ) H
theorem eq_arguer_clash (a0 : AV) (Q : AV → AH → Prop) (H : AH) : FnA Try.prog 45 (regsF Try.f30) ac_arguer_clash [.tm 2, .tm 3, .tm 4] [a0] H Q = S_arguer_clash a0 Q H := by kernel_rfl
theorem tri_arguer_clash {a0 : AV} {H : AH} {Q : AV → AH → Prop} (h : S_arguer_clash a0 Q H) : Tri Try.prog 30 [a0] H Q :=
  tri_of (Ms := [#[], #[], #[], #[], #[], #[0, 1, 3, 7, 0, 16, 0, 64, 192, 496, 1023, 2047, 4095, 4095, 8191, 32767], #[], #[], #[], #[]]) mixed Try.func30 rfl (by kernel_rfl) (by kernel_rfl) rfl (of_decide_eq_true rfl : 1 ≤ 45) ((eq_arguer_clash a0 Q H).symm ▸ h : FnA Try.prog 45 (regsF Try.f30) ac_arguer_clash [.tm 2, .tm 3, .tm 4] [a0] H Q)

/-! wordhoard/prove.Sound -/
def ac_prove_Sound : AC := (.seq (.reg 0) (.seq (.seq (.reg 1) (.cond (.tmp 13) (.seq (.reg 2) .ret) .skip)) (.seq (.reg 3) (.seq (.seq (.reg 4) (.block 0 (.loop [6, 16] [(8, 9), (17, 26)] (.seq (.reg 5) (.seq (.cond (.tmp 17) .skip (.exit 0)) (.seq (.block 1 (.seq (.reg 6) (.reg 7))) (.reg 8))))))) (.seq (.seq (.reg 9) (.seq (.reg 10) (.cond (.tmp 30) (.seq (.reg 11) .ret) .skip))) (.seq (.seq (.reg 12) (.block 2 (.loop [34] [(4, 6), (10, 11), (35, 43)] (.seq (.reg 13) (.seq (.cond (.tmp 35) .skip (.exit 2)) (.seq (.block 3 (.seq (.reg 14) (.seq (.reg 15) (.cond (.tmp 41) (.seq (.reg 16) .ret) .skip)))) (.reg 17))))))) (.seq (.reg 18) .ret)))))))
def S_prove_Sound (a0 a1 : AV) (Q : AV → AH → Prop) (H : AH) : Prop := (
    Pu Try.prog .len [a1] fun v12 =>
    Pu Try.prog (.bin .gtr 3) [v12, (.p (.int .i64 400))] fun v13 =>
    CdA v13
      (
      Rt Try.prog H.nx (.tup [(.p (.bool false)), (.p (.int .i64 7))]) Q
      ) (
      Pu Try.prog .len [a1] fun v15 =>
      LoopA Try.prog 2 (fun vs k =>
        Pu Try.prog (.bin .lss 3) [(vs.getD 1 .any), v15] fun v17 =>
        CdA v17
          (
          Rg 4 fun b =>
          Pu Try.prog (.idx 5) [a1, (vs.getD 1 .any)] fun v18 =>
          RdS Try.prog (.ld 5 true) [v18] fun v19 =>
          Al (b + 2) (.nw 36 [.p (.int .i64 0), .p (.bool false), .p (.int .i64 0), .p (.int .i64 0), .p (.slice none 0 0)]) [] fun v8 =>
          WrS Try.prog (b + 3) (.st 5) [v8, v19] fun vn =>
          Rg 6 fun b_12 =>
          Pu Try.prog (.addOff 1) [v8] fun v21 =>
          RdS Try.prog (.ld 3 true) [v21] fun v22 =>
          Al (b_12 + 3) (.bs 24 3 1 [.p (.bool false), .p (.int .i64 0), .p (.int .i64 0)] [(0, 3)]) [v22] fun v23 =>
          WrS Try.prog (b_12 + 4) (.app 24 3 24) [(vs.getD 0 .any), v23] fun v24 =>
          Pu Try.prog (.bin .add 3) [(vs.getD 1 .any), (.p (.int .i64 1))] fun v25 =>
          k [v24, v25]
          ) (
          Ca Try.prog (.fn (.func 24) [] []) [a0, (vs.getD 0 .any)] fun v28 =>
          Pu Try.prog (.bin .neq 25) [v28, (.p (.int .i64 0))] fun v30 =>
          CdA v30
            (
            Rt Try.prog H.nx (.tup [(.p (.bool false)), v28]) Q
            ) (
            Pu Try.prog .len [a1] fun v33 =>
            LoopA Try.prog 1 (fun vs_22 k_21 =>
              Pu Try.prog (.bin .lss 3) [(vs_22.getD 0 .any), v33] fun v35 =>
              CdA v35
                (
                Ca Try.prog (.fn (.func 25) [] []) [a0, a1, (vs_22.getD 0 .any)] fun v40 =>
                Pu Try.prog (.un .not) [v40] fun v41 =>
                CdA v41
                  (
                  Rt Try.prog H.nx (.tup [(.p (.bool false)), (.p (.int .i64 0))]) Q
                  ) (
                  Pu Try.prog (.bin .add 3) [(vs_22.getD 0 .any), (.p (.int .i64 1))] fun v42 =>
                  k_21 [v42]
                  )
                ) (
                Rt Try.prog H.nx (.tup [(.p (.bool true)), (.p (.int .i64 0))]) Q
                )
              ) [(.p (.int .i64 0))]
            )
          )
        ) [(.p (.slice none 0 0)), (.p (.int .i64 0))]
      )
    ) H
theorem eq_prove_Sound (a0 a1 : AV) (Q : AV → AH → Prop) (H : AH) : FnA Try.prog 43 (regsF Try.f13) ac_prove_Sound [.tm 4, .tm 5] [a0, a1] H Q = S_prove_Sound a0 a1 Q H := by kernel_rfl
theorem tri_prove_Sound {a0 a1 : AV} {H : AH} {Q : AV → AH → Prop} (h : S_prove_Sound a0 a1 Q H) : Tri Try.prog 13 [a0, a1] H Q :=
  tri_of (Ms := [#[], #[], #[], #[], #[], #[], #[], #[], #[], #[], #[], #[], #[], #[], #[], #[], #[], #[], #[]]) mixed Try.func13 rfl (by kernel_rfl) (by kernel_rfl) rfl (of_decide_eq_true rfl : 2 ≤ 43) ((eq_prove_Sound a0 a1 Q H).symm ▸ h : FnA Try.prog 43 (regsF Try.f13) ac_prove_Sound [.tm 4, .tm 5] [a0, a1] H Q)

/-! wordhoard/prove.Argue -/
def ac_prove_Argue : AC := (.seq (.reg 0) (.seq (.seq (.reg 1) (.seq (.reg 2) (.cond (.tmp 24) (.seq (.reg 3) .ret) .skip))) (.seq (.reg 4) (.seq (.seq (.reg 5) (.block 0 (.loop [31] [(9, 11), (32, 42)] (.seq (.reg 6) (.seq (.cond (.tmp 32) .skip (.exit 0)) (.seq (.block 1 (.seq (.reg 7) (.reg 8))) (.reg 9))))))) (.seq (.seq (.reg 10) (.block 2 (.loop [11] [(42, 58)] (.seq (.seq (.reg 11) (.cond (.tmp 43) .skip (.exit 2))) (.seq (.block 3 (.seq (.reg 12) (.reg 13))) (.reg 14)))))) (.seq (.seq (.reg 15) (.block 4 (.loop [12] [(13, 14), (58, 84)] (.seq (.seq (.reg 16) (.cond (.tmp 64) .skip (.exit 4))) (.seq (.block 5 (.seq (.reg 17) (.seq (.reg 18) (.block 6 (.loop [72] [(13, 14), (73, 84)] (.seq (.reg 19) (.seq (.cond (.tmp 73) .skip (.exit 6)) (.seq (.block 7 (.seq (.reg 20) (.seq (.reg 21) (.reg 22)))) (.reg 23))))))))) (.reg 24)))))) (.seq (.seq (.reg 25) (.seq (.reg 26) (.cond (.tmp 93) (.seq (.reg 27) .ret) .skip))) (.seq (.seq (.reg 28) (.seq (.reg 29) (.cond (.tmp 103) (.seq (.reg 30) (.seq (.reg 31) .ret)) .skip))) (.seq (.reg 32) .ret)))))))))
def S_prove_Argue (a0 a1 : AV) (Q : AV → AH → Prop) (H : AH) : Prop := (
    Rg 4 fun b =>
    Al (b + 0) (.bx 24) [a1] fun v3 =>
    Rg 5 fun b_3 =>
    RdS Try.prog (.ld 3 true) [v3] fun v20 =>
    Al (b_3 + 2) (.bs 24 3 1 [.p (.bool false), .p (.int .i64 0), .p (.int .i64 0)] [(0, 3)]) [v20] fun v21 =>
    Ca Try.prog (.fn (.func 24) [] []) [a0, v21] fun v22 =>
    Pu Try.prog (.bin .neq 25) [v22, (.p (.int .i64 0))] fun v24 =>
    CdA v24
      (
      Rt Try.prog H.nx (.tup [(.p (.slice none 0 0)), (.p (.bool false)), v22]) Q
      ) (
      Rg 4 fun b_8 =>
      Al (b_8 + 0) (.mm 24) [] fun v26 =>
      Pu Try.prog (.bld [.p (.slice none 0 0), .p (.map none)] [(1, 1)]) [v26] fun v27 =>
      Al (b_8 + 2) (.bx 52) [v27] fun v28 =>
      Pu Try.prog .len [a0] fun v30 =>
      LoopA Try.prog 1 (fun vs k =>
        Pu Try.prog (.bin .lss 3) [(vs.getD 0 .any), v30] fun v32 =>
        CdA v32
          (
          Rg 6 fun b_16 =>
          Pu Try.prog (.idx 3) [a0, (vs.getD 0 .any)] fun v34 =>
          RdS Try.prog (.ld 3 true) [v34] fun v35 =>
          Al (b_16 + 3) (.nw 24 [.p (.bool false), .p (.int .i64 0), .p (.int .i64 0)]) [] fun v10 =>
          WrS Try.prog (b_16 + 5) (.st 3) [v10, v35] fun vn =>
          Rg 5 fun b_21 =>
          RdS Try.prog (.ld 3 true) [v10] fun v37 =>
          Al (b_21 + 3) (.bs 3 1 1 [.p (.int .i64 0)] [(0, 1)]) [(vs.getD 0 .any)] fun v39 =>
          Ca Try.prog (.fn (.func 26) [] []) [v28, (.p (.int .i64 1)), v37, v39] fun v40 =>
          Pu Try.prog (.bin .add 3) [(vs.getD 0 .any), (.p (.int .i64 1))] fun v41 =>
          k [v41]
          ) (
          LoopA Try.prog 1 (fun vs_27 k_26 =>
            Pu Try.prog (.bin .leq 3) [(vs_27.getD 0 .any), (.p (.int .i64 6))] fun v43 =>
            CdA v43
              (
              Pu Try.prog (.bld [.p (.bool false), .p (.int .i64 0), .p (.int .i64 0)] [(1, 1), (2, 1)]) [(vs_27.getD 0 .any), (vs_27.getD 0 .any)] fun v49 =>
              Ca Try.prog (.fn (.func 26) [] []) [v28, (.p (.int .i64 2)), v49, (.p (.slice none 0 0))] fun v50 =>
              Pu Try.prog (.un .neg) [(vs_27.getD 0 .any)] fun v53 =>
              Pu Try.prog (.un .neg) [(vs_27.getD 0 .any)] fun v55 =>
              Pu Try.prog (.bld [.p (.bool false), .p (.int .i64 0), .p (.int .i64 0)] [(1, 1), (2, 1)]) [v53, v55] fun v56 =>
              Ca Try.prog (.fn (.func 26) [] []) [v28, (.p (.int .i64 2)), v56, (.p (.slice none 0 0))] fun v57 =>
              Pu Try.prog (.bin .add 3) [(vs_27.getD 0 .any), (.p (.int .i64 1))] fun v45 =>
              k_26 [v45]
              ) (
              LoopA Try.prog 1 (fun vs_37 k_36 =>
                Pu Try.prog .nilck [v28] fun v60 =>
                Pu Try.prog (.addOff 0) [v60] fun v61 =>
                RdS Try.prog (.ld 1 false) [v61] fun v62 =>
                Pu Try.prog .len [v62] fun v63 =>
                Pu Try.prog (.bin .lss 3) [(vs_37.getD 0 .any), v63] fun v64 =>
                CdA v64
                  (
                  Ca Try.prog (.fn (.func 27) [] []) [v28, (vs_37.getD 0 .any)] fun v69 =>
                  Pu Try.prog (.bin .add 3) [(vs_37.getD 0 .any), (.p (.int .i64 1))] fun v71 =>
                  LoopA Try.prog 1 (fun vs_46 k_45 =>
                    Pu Try.prog (.bin .lss 3) [(vs_46.getD 0 .any), v71] fun v73 =>
                    CdA v73
                      (
                      Ca Try.prog (.fn (.func 28) [] []) [v28, (vs_37.getD 0 .any), (vs_46.getD 0 .any)] fun v78 =>
                      Ca Try.prog (.fn (.func 28) [] []) [v28, (vs_46.getD 0 .any), (vs_37.getD 0 .any)] fun v82 =>
                      Pu Try.prog (.bin .add 3) [(vs_46.getD 0 .any), (.p (.int .i64 1))] fun v83 =>
                      k_45 [v83]
                      ) (
                      Pu Try.prog (.bin .add 3) [(vs_37.getD 0 .any), (.p (.int .i64 1))] fun v66 =>
                      k_36 [v66]
                      )
                    ) [(.p (.int .i64 0))]
                  ) (
                  Vw fun V =>
                  Pu Try.prog .nilck [v28] fun v86 =>
                  Pu Try.prog (.addOff 1) [v86] fun v87 =>
                  Rd Try.prog V (.ld 1 false) [v87] fun v88 =>
                  Rd Try.prog V (.ld 3 true) [v3] fun v89 =>
                  Rd Try.prog V (.look 24 (.p (.int .i64 0)) true) [v88, v89] fun v90 =>
                  Pu Try.prog (.ext 0) [v90] fun v91 =>
                  Pu Try.prog (.ext 1) [v90] fun v92 =>
                  CdA v92
                    (
                    Ca Try.prog (.fn (.func 29) [] []) [v28, v91] fun v96 =>
                    Rt Try.prog H.nx (.tup [v96, (.p (.bool true)), (.p (.int .i64 0))]) Q
                    ) (
                    Ca Try.prog (.fn (.func 30) [] []) [v28] fun v99 =>
                    Pu Try.prog (.ext 0) [v99] fun v100 =>
                    Pu Try.prog (.ext 1) [v99] fun v101 =>
                    Pu Try.prog (.ext 2) [v99] fun v102 =>
                    CdA v102
                      (
                      Rg 6 fun b_65 =>
                      RdS Try.prog (.ld 3 true) [v3] fun v105 =>
                      Al (b_65 + 4) (.bs 3 1 2 [.p (.int .i64 0)] [(0, 1), (1, 1)]) [v100, v101] fun v108 =>
                      Ca Try.prog (.fn (.func 26) [] []) [v28, (.p (.int .i64 10)), v105, v108] fun v109 =>
                      Vw fun V_69 =>
                      Pu Try.prog .nilck [v28] fun v112 =>
                      Pu Try.prog (.addOff 1) [v112] fun v113 =>
                      Rd Try.prog V_69 (.ld 1 false) [v113] fun v114 =>
                      Rd Try.prog V_69 (.ld 3 true) [v3] fun v115 =>
                      Rd Try.prog V_69 (.look 24 (.p (.int .i64 0)) false) [v114, v115] fun v116 =>
                      CaV Try.prog V_69 (.fn (.func 29) [] []) [v28, v116] fun v117 =>
                      Rt Try.prog H.nx (.tup [v117, (.p (.bool true)), (.p (.int .i64 0))]) Q
                      ) (
                      Rt Try.prog H.nx (.tup [(.p (.slice none 0 0)), (.p (.bool false)), (.p (.int .i64 0))]) Q
                      )
                    )
                  )
                ) [(.p (.int .i64 0))]
              )
            ) [(.p (.int .i64 1))]
          )
        ) [(.p (.int .i64 0))]
      )
    ) H
theorem eq_prove_Argue (a0 a1 : AV) (Q : AV → AH → Prop) (H : AH) : FnA Try.prog 118 (regsF Try.f16) ac_prove_Argue [.tm 4, .tm 5, .tm 6] [a0, a1] H Q = S_prove_Argue a0 a1 Q H := by kernel_rfl
theorem tri_prove_Argue {a0 a1 : AV} {H : AH} {Q : AV → AH → Prop} (h : S_prove_Argue a0 a1 Q H) : Tri Try.prog 16 [a0, a1] H Q :=
  tri_of (Ms := [#[], #[], #[], #[], #[], #[], #[], #[], #[], #[], #[], #[], #[], #[], #[], #[], #[], #[], #[], #[], #[], #[], #[], #[], #[], #[0, 1, 3, 7, 0, 31, 63, 127, 127, 255, 1023], #[], #[], #[], #[], #[], #[0, 0, 2, 6, 14, 0, 62, 127, 255, 511, 1023], #[]]) mixed Try.func16 rfl (by kernel_rfl) (by kernel_rfl) rfl (of_decide_eq_true rfl : 2 ≤ 118) ((eq_prove_Argue a0 a1 Q H).symm ▸ h : FnA Try.prog 118 (regsF Try.f16) ac_prove_Argue [.tm 4, .tm 5, .tm 6] [a0, a1] H Q)

/-! wordhoard/prove.right -/
def ac_prove_right : AC := (.seq (.reg 0) (.seq (.reg 1) (.seq (.reg 2) (.seq (.seq (.reg 3) (.cond (.tmp 27) (.seq (.reg 4) .ret) .skip)) (.seq (.reg 5) (.seq (.reg 6) (.seq (.seq (.reg 7) (.cond (.tmp 76) (.seq (.reg 8) .ret) .skip)) (.seq (.reg 9) (.seq (.seq (.reg 10) (.block 0 (.loop [80] [(6, 7), (13, 15), (81, 100)] (.seq (.reg 11) (.seq (.cond (.tmp 81) .skip (.exit 0)) (.seq (.block 1 (.seq (.reg 12) (.seq (.seq (.reg 13) (.cond (.tmp 91) (.seq (.reg 14) .ret) .skip)) (.reg 15)))) (.reg 16))))))) (.seq (.reg 17) (.seq (.reg 18) (.seq (.reg 19) (.seq (.seq (.reg 20) (.block 2 (.seq (.reg 21) (.cond (.tmp 106) (.seq (.reg 22) .ret) (.seq (.reg 23) (.cond (.tmp 116) (.seq (.reg 24) .ret) (.seq (.reg 25) (.cond (.tmp 141) (.seq (.reg 26) .ret) (.seq (.reg 27) (.cond (.tmp 158) (.seq (.reg 28) .ret) (.seq (.reg 29) (.cond (.tmp 174) (.seq (.reg 30) .ret) (.seq (.reg 31) (.cond (.tmp 190) (.seq (.reg 32) .ret) (.seq (.reg 33) (.cond (.tmp 204) (.seq (.reg 34) .ret) (.seq (.reg 35) (.cond (.tmp 218) (.seq (.reg 36) .ret) .skip)))))))))))))))))) (.seq (.reg 37) .ret))))))))))))))
def S_prove_right (a0 a1 a2 : AV) (Q : AV → AH → Prop) (H : AH) : Prop := (
    Rg 6 fun b =>
    Pu Try.prog (.idx 5) [a1, a2] fun v21 =>
    RdS Try.prog (.ld 5 true) [v21] fun v22 =>
    Al (b + 4) (.nw 36 [.p (.int .i64 0), .p (.bool false), .p (.int .i64 0), .p (.int .i64 0), .p (.slice none 0 0)]) [] fun v7 =>
    WrS Try.prog (b + 5) (.st 5) [v7, v22] fun vn =>
    Rg 4 fun b_6 =>
    Pu Try.prog (.addOff 1) [v7] fun v23 =>
    RdS Try.prog (.ld 3 true) [v23] fun v24 =>
    Al (b_6 + 2) (.nw 24 [.p (.bool false), .p (.int .i64 0), .p (.int .i64 0)]) [] fun v8 =>
    WrS Try.prog (b_6 + 3) (.st 3) [v8, v24] fun vn_10 =>
    Pu Try.prog (.addOff 0) [v7] fun v25 =>
    RdS Try.prog (.ld 1 false) [v25] fun v26 =>
    Pu Try.prog (.bin .eql 3) [v26, (.p (.int .i64 1))] fun v27 =>
    CdA v27
      (
      Vw fun V =>
      Pu Try.prog (.addOff 4) [v7] fun v28 =>
      Rd Try.prog V (.ld 1 false) [v28] fun v29 =>
      Pu Try.prog .len [v29] fun v30 =>
      Pu Try.prog (.bin .eql 3) [v30, (.p (.int .i64 1))] fun v31 =>
      GdV v31 true (fun k => Pu Try.prog (.addOff 4) [v7] (fun a => k a V)) V fun v33 V_21 =>
      GdV v31 true (fun k_23 => Rd Try.prog V_21 (.ld 1 false) [v33] (fun a => k_23 a V_21)) V_21 fun v34 V_24 =>
      GdV v31 true (fun k_26 => Pu Try.prog (.idx 1) [v34, (.p (.int .i64 0))] (fun a => k_26 a V_24)) V_24 fun v35 V_27 =>
      GdV v31 true (fun k_29 => Rd Try.prog V_27 (.ld 1 false) [v35] (fun a => k_29 a V_27)) V_27 fun v36 V_30 =>
      GdV v31 true (fun k_32 => Pu Try.prog (.bin .geq 3) [v36, (.p (.int .i64 0))] (fun a => k_32 a V_30)) V_30 fun v37 V_33 =>
      Pu Try.prog .pick [v31, v37, (.p (.bool false))] fun v38 =>
      GdV v38 true (fun k_36 => Pu Try.prog (.addOff 4) [v7] (fun a => k_36 a V_33)) V_33 fun v40 V_37 =>
      GdV v38 true (fun k_39 => Rd Try.prog V_37 (.ld 1 false) [v40] (fun a => k_39 a V_37)) V_37 fun v41 V_40 =>
      GdV v38 true (fun k_42 => Pu Try.prog (.idx 1) [v41, (.p (.int .i64 0))] (fun a => k_42 a V_40)) V_40 fun v42 V_43 =>
      GdV v38 true (fun k_45 => Rd Try.prog V_43 (.ld 1 false) [v42] (fun a => k_45 a V_43)) V_43 fun v43 V_46 =>
      GdV v38 true (fun k_48 => k_48 a0 V_46) V_46 fun v44 V_49 =>
      GdV v38 true (fun k_51 => Pu Try.prog .len [v44] (fun a => k_51 a V_49)) V_49 fun v45 V_52 =>
      GdV v38 true (fun k_54 => Pu Try.prog (.bin .lss 3) [v43, v45] (fun a => k_54 a V_52)) V_52 fun v46 V_55 =>
      Pu Try.prog .pick [v38, v46, (.p (.bool false))] fun v47 =>
      GdV v47 true (fun k_58 => k_58 a0 V_55) V_55 fun v49 V_59 =>
      GdV v47 true (fun k_61 => Pu Try.prog (.addOff 4) [v7] (fun a => k_61 a V_59)) V_59 fun v50 V_62 =>
      GdV v47 true (fun k_64 => Rd Try.prog V_62 (.ld 1 false) [v50] (fun a => k_64 a V_62)) V_62 fun v51 V_65 =>
      GdV v47 true (fun k_67 => Pu Try.prog (.idx 1) [v51, (.p (.int .i64 0))] (fun a => k_67 a V_65)) V_65 fun v52 V_68 =>
      GdV v47 true (fun k_70 => Rd Try.prog V_68 (.ld 1 false) [v52] (fun a => k_70 a V_68)) V_68 fun v53 V_71 =>
      GdV v47 true (fun k_73 => Pu Try.prog (.idx 3) [v49, v53] (fun a => k_73 a V_71)) V_71 fun v54 V_74 =>
      GdV v47 true (fun k_76 => Rd Try.prog V_74 (.ld 3 true) [v54] (fun a => k_76 a V_74)) V_74 fun v55 V_77 =>
      GdV v47 true (fun k_79 => Rd Try.prog V_77 (.ld 3 true) [v8] (fun a => k_79 a V_77)) V_77 fun v56 V_80 =>
      GdV v47 true (fun k_82 => Pu Try.prog (.bin .eql 24) [v55, v56] (fun a => k_82 a V_80)) V_80 fun v57 V_83 =>
      Pu Try.prog .pick [v47, v57, (.p (.bool false))] fun v58 =>
      Rt Try.prog H.nx v58 Q
      ) (
      Rg 12 fun b_85 =>
      Al (b_85 + 0) (.mm 3) [] fun v59 =>
      WrS Try.prog (b_85 + 1) (.mset 3) [v59, (.p (.int .i64 2)), (.p (.int .i64 0))] fun vn_87 =>
      WrS Try.prog (b_85 + 2) (.mset 3) [v59, (.p (.int .i64 3)), (.p (.int .i64 2))] fun vn_88 =>
      WrS Try.prog (b_85 + 3) (.mset 3) [v59, (.p (.int .i64 4)), (.p (.int .i64 1))] fun vn_89 =>
      WrS Try.prog (b_85 + 4) (.mset 3) [v59, (.p (.int .i64 5)), (.p (.int .i64 1))] fun vn_90 =>
      WrS Try.prog (b_85 + 5) (.mset 3) [v59, (.p (.int .i64 6)), (.p (.int .i64 1))] fun vn_91 =>
      WrS Try.prog (b_85 + 6) (.mset 3) [v59, (.p (.int .i64 7)), (.p (.int .i64 1))] fun vn_92 =>
      WrS Try.prog (b_85 + 7) (.mset 3) [v59, (.p (.int .i64 8)), (.p (.int .i64 1))] fun vn_93 =>
      WrS Try.prog (b_85 + 8) (.mset 3) [v59, (.p (.int .i64 9)), (.p (.int .i64 2))] fun vn_94 =>
      WrS Try.prog (b_85 + 9) (.mset 3) [v59, (.p (.int .i64 10)), (.p (.int .i64 2))] fun vn_95 =>
      Pu Try.prog (.addOff 0) [v7] fun v63 =>
      RdS Try.prog (.ld 1 false) [v63] fun v64 =>
      RdS Try.prog (.look 3 (.p (.int .i64 0)) true) [v59, v64] fun v65 =>
      Pu Try.prog (.ext 0) [v65] fun v66 =>
      Pu Try.prog (.ext 1) [v65] fun v67 =>
      Pu Try.prog (.un .not) [v67] fun v69 =>
      Gd v69 false (fun k_103 => Pu Try.prog (.addOff 4) [v7] k_103) fun v71 =>
      Gd v69 false (fun k_105 => RdS Try.prog (.ld 1 false) [v71] k_105) fun v72 =>
      Gd v69 false (fun k_107 => Pu Try.prog .len [v72] k_107) fun v73 =>
      Gd v69 false (fun k_109 => k_109 v66) fun v74 =>
      Gd v69 false (fun k_111 => Pu Try.prog (.bin .neq 3) [v73, v74] k_111) fun v75 =>
      Pu Try.prog .pick [v69, (.p (.bool true)), v75] fun v76 =>
      CdA v76
        (
        Rt Try.prog H.nx (.p (.bool false)) Q
        ) (
        Rg 1 fun b_113 =>
        Al (b_113 + 0) (.nw 66 [.p (.bool false), .p (.int .i64 0), .p (.int .i64 0), .p (.bool false), .p (.int .i64 0), .p (.int .i64 0)]) [] fun v12 =>
        Pu Try.prog (.addOff 4) [v7] fun v77 =>
        RdS Try.prog (.ld 1 false) [v77] fun v78 =>
        Pu Try.prog .len [v78] fun v79 =>
        LoopA Try.prog 1 (fun vs k_118 =>
          Pu Try.prog (.bin .lss 3) [(vs.getD 0 .any), v79] fun v81 =>
          CdA v81
            (
            Pu Try.prog (.idx 1) [v78, (vs.getD 0 .any)] fun v83 =>
            RdS Try.prog (.ld 1 false) [v83] fun v84 =>
            Pu Try.prog (.bin .lss 3) [v84, (.p (.int .i64 0))] fun v86 =>
            Gd v86 false (fun k_125 => k_125 v84) fun v88 =>
            Gd v86 false (fun k_127 => k_127 a2) fun v89 =>
            Gd v86 false (fun k_129 => Pu Try.prog (.bin .geq 3) [v88, v89] k_129) fun v90 =>
            Pu Try.prog .pick [v86, (.p (.bool true)), v90] fun v91 =>
            CdA v91
              (
              Rt Try.prog H.nx (.p (.bool false)) Q
              ) (
              Rg 8 fun b_131 =>
              Pu Try.prog (.idx 5) [a1, v84] fun v95 =>
              Pu Try.prog (.addOff 1) [v95] fun v96 =>
              RdS Try.prog (.ld 3 true) [v96] fun v97 =>
              Pu Try.prog (.aidx 2 3) [v12, (vs.getD 0 .any)] fun v98 =>
              WrS Try.prog (b_131 + 7) (.st 3) [v98, v97] fun vn_136 =>
              Pu Try.prog (.bin .add 3) [(vs.getD 0 .any), (.p (.int .i64 1))] fun v99 =>
              k_118 [v99]
              )
            ) (
            Rg 8 fun b_138 =>
            Vw fun V_139 =>
            Pu Try.prog (.aidx 2 3) [v12, (.p (.int .i64 0))] fun v100 =>
            Rd Try.prog V_139 (.ld 3 true) [v100] fun v101 =>
            Pu Try.prog (.aidx 2 3) [v12, (.p (.int .i64 1))] fun v102 =>
            Rd Try.prog V_139 (.ld 3 true) [v102] fun v103 =>
            Al (b_138 + 4) (.nw 24 [.p (.bool false), .p (.int .i64 0), .p (.int .i64 0)]) [] fun v15 =>
            Al (b_138 + 5) (.nw 24 [.p (.bool false), .p (.int .i64 0), .p (.int .i64 0)]) [] fun v16 =>
            WrF V_139 (some (b_138 + 4)) none (b_138 + 6) (.st 3) [v15, v101] fun vn_146 =>
            WrF V_139 (some (b_138 + 5)) none (b_138 + 7) (.st 3) [v16, v103] fun vn_147 =>
            Pu Try.prog (.addOff 0) [v7] fun v104 =>
            RdS Try.prog (.ld 1 false) [v104] fun v105 =>
            Pu Try.prog (.bin .eql 3) [v105, (.p (.int .i64 2))] fun v107 =>
            CdA v107
              (
              Vw fun V_151 =>
              Rd Try.prog V_151 (.ld 3 true) [v8] fun v108 =>
              Pu Try.prog (.addOff 1) [v8] fun v110 =>
              Rd Try.prog V_151 (.ld 1 false) [v110] fun v111 =>
              Pu Try.prog (.addOff 1) [v8] fun v112 =>
              Rd Try.prog V_151 (.ld 1 false) [v112] fun v113 =>
              CaV Try.prog V_151 (.fn (.func 41) [] []) [v111, v113] fun v114 =>
              Pu Try.prog (.bin .eql 24) [v108, v114] fun v115 =>
              Rt Try.prog H.nx v115 Q
              ) (
              Pu Try.prog (.bin .eql 3) [v105, (.p (.int .i64 3))] fun v117 =>
              CdA v117
                (
                Vw fun V_160 =>
                Rd Try.prog V_160 (.ld 3 true) [v15] fun v118 =>
                Pu Try.prog (.addOff 1) [v8] fun v120 =>
                Rd Try.prog V_160 (.ld 1 false) [v120] fun v121 =>
                Pu Try.prog (.addOff 2) [v15] fun v122 =>
                Rd Try.prog V_160 (.ld 1 false) [v122] fun v123 =>
                CaV Try.prog V_160 (.fn (.func 41) [] []) [v121, v123] fun v124 =>
                Pu Try.prog (.bin .eql 24) [v118, v124] fun v125 =>
                GdV v125 true (fun k_169 => Rd Try.prog V_160 (.ld 3 true) [v16] (fun a => k_169 a V_160)) V_160 fun v127 V_170 =>
                GdV v125 true (fun k_172 => k_172 (.fn (.func 41) [] []) V_170) V_170 fun v128 V_173 =>
                GdV v125 true (fun k_175 => Pu Try.prog (.addOff 2) [v15] (fun a => k_175 a V_173)) V_173 fun v129 V_176 =>
                GdV v125 true (fun k_178 => Rd Try.prog V_176 (.ld 1 false) [v129] (fun a => k_178 a V_176)) V_176 fun v130 V_179 =>
                GdV v125 true (fun k_181 => Pu Try.prog (.addOff 2) [v8] (fun a => k_181 a V_179)) V_179 fun v131 V_182 =>
                GdV v125 true (fun k_184 => Rd Try.prog V_182 (.ld 1 false) [v131] (fun a => k_184 a V_182)) V_182 fun v132 V_185 =>
                GdV v125 true (fun k_187 => CaV Try.prog V_185 v128 [v130, v132] (fun a => k_187 a V_185)) V_185 fun v133 V_188 =>
                GdV v125 true (fun k_190 => Pu Try.prog (.bin .eql 24) [v127, v133] (fun a => k_190 a V_188)) V_188 fun v134 V_191 =>
                Pu Try.prog .pick [v125, v134, (.p (.bool false))] fun v135 =>
                GdV v135 true (fun k_194 => Pu Try.prog (.addOff 0) [v8] (fun a => k_194 a V_191)) V_191 fun v137 V_195 =>
                GdV v135 true (fun k_197 => Rd Try.prog V_195 (.ld 1 false) [v137] (fun a => k_197 a V_195)) V_195 fun v138 V_198 =>
                GdV v135 true (fun k_200 => Pu Try.prog (.un .not) [v138] (fun a => k_200 a V_198)) V_198 fun v139 V_201 =>
                Pu Try.prog .pick [v135, v139, (.p (.bool false))] fun v140 =>
                Rt Try.prog H.nx v140 Q
                ) (
                Pu Try.prog (.bin .eql 3) [v105, (.p (.int .i64 4))] fun v142 =>
                CdA v142
                  (
                  Vw fun V_204 =>
                  Pu Try.prog (.addOff 0) [v15] fun v143 =>
                  Rd Try.prog V_204 (.ld 1 false) [v143] fun v144 =>
                  Pu Try.prog (.un .not) [v144] fun v145 =>
                  GdV v145 true (fun k_209 => Rd Try.prog V_204 (.ld 3 true) [v8] (fun a => k_209 a V_204)) V_204 fun v147 V_210 =>
                  GdV v145 true (fun k_212 => k_212 (.fn (.func 41) [] []) V_210) V_210 fun v148 V_213 =>
                  GdV v145 true (fun k_215 => Pu Try.prog (.addOff 2) [v15] (fun a => k_215 a V_213)) V_213 fun v149 V_216 =>
                  GdV v145 true (fun k_218 => Rd Try.prog V_216 (.ld 1 false) [v149] (fun a => k_218 a V_216)) V_216 fun v150 V_219 =>
                  GdV v145 true (fun k_221 => Pu Try.prog (.un .neg) [v150] (fun a => k_221 a V_219)) V_219 fun v151 V_222 =>
                  GdV v145 true (fun k_224 => Pu Try.prog (.addOff 1) [v15] (fun a => k_224 a V_222)) V_222 fun v152 V_225 =>
                  GdV v145 true (fun k_227 => Rd Try.prog V_225 (.ld 1 false) [v152] (fun a => k_227 a V_225)) V_225 fun v153 V_228 =>
                  GdV v145 true (fun k_230 => Pu Try.prog (.un .neg) [v153] (fun a => k_230 a V_228)) V_228 fun v154 V_231 =>
                  GdV v145 true (fun k_233 => CaV Try.prog V_231 v148 [v151, v154] (fun a => k_233 a V_231)) V_231 fun v155 V_234 =>
                  GdV v145 true (fun k_236 => Pu Try.prog (.bin .eql 24) [v147, v155] (fun a => k_236 a V_234)) V_234 fun v156 V_237 =>
                  Pu Try.prog .pick [v145, v156, (.p (.bool false))] fun v157 =>
                  Rt Try.prog H.nx v157 Q
                  ) (
                  Pu Try.prog (.bin .eql 3) [v105, (.p (.int .i64 5))] fun v159 =>
                  CdA v159
                    (
                    Vw fun V_240 =>
                    Rd Try.prog V_240 (.ld 3 true) [v15] fun v160 =>
                    Pu Try.prog (.addOff 1) [v8] fun v162 =>
                    Rd Try.prog V_240 (.ld 1 false) [v162] fun v163 =>
                    Pu Try.prog (.addOff 1) [v8] fun v164 =>
                    Rd Try.prog V_240 (.ld 1 false) [v164] fun v165 =>
                    Pu Try.prog (.un .neg) [v165] fun v166 =>
                    CaV Try.prog V_240 (.fn (.func 41) [] []) [v163, v166] fun v167 =>
                    Pu Try.prog (.bin .eql 24) [v160, v167] fun v168 =>
                    GdV v168 true (fun k_250 => Pu Try.prog (.addOff 0) [v8] (fun a => k_250 a V_240)) V_240 fun v170 V_251 =>
                    GdV v168 true (fun k_253 => Rd Try.prog V_251 (.ld 1 false) [v170] (fun a => k_253 a V_251)) V_251 fun v171 V_254 =>
                    GdV v168 true (fun k_256 => Pu Try.prog (.un .not) [v171] (fun a => k_256 a V_254)) V_254 fun v172 V_257 =>
                    Pu Try.prog .pick [v168, v172, (.p (.bool false))] fun v173 =>
                    Rt Try.prog H.nx v173 Q
                    ) (
                    Pu Try.prog (.bin .eql 3) [v105, (.p (.int .i64 6))] fun v175 =>
                    CdA v175
                      (
                      Vw fun V_260 =>
                      Rd Try.prog V_260 (.ld 3 true) [v15] fun v176 =>
                      Pu Try.prog (.addOff 2) [v8] fun v178 =>
                      Rd Try.prog V_260 (.ld 1 false) [v178] fun v179 =>
                      Pu Try.prog (.un .neg) [v179] fun v180 =>
                      Pu Try.prog (.addOff 2) [v8] fun v181 =>
                      Rd Try.prog V_260 (.ld 1 false) [v181] fun v182 =>
                      CaV Try.prog V_260 (.fn (.func 41) [] []) [v180, v182] fun v183 =>
                      Pu Try.prog (.bin .eql 24) [v176, v183] fun v184 =>
                      GdV v184 true (fun k_270 => Pu Try.prog (.addOff 0) [v8] (fun a => k_270 a V_260)) V_260 fun v186 V_271 =>
                      GdV v184 true (fun k_273 => Rd Try.prog V_271 (.ld 1 false) [v186] (fun a => k_273 a V_271)) V_271 fun v187 V_274 =>
                      GdV v184 true (fun k_276 => Pu Try.prog (.un .not) [v187] (fun a => k_276 a V_274)) V_274 fun v188 V_277 =>
                      Pu Try.prog .pick [v184, v188, (.p (.bool false))] fun v189 =>
                      Rt Try.prog H.nx v189 Q
                      ) (
                      Pu Try.prog (.bin .eql 3) [v105, (.p (.int .i64 7))] fun v191 =>
                      CdA v191
                        (
                        Vw fun V_280 =>
                        Pu Try.prog (.addOff 0) [v15] fun v192 =>
                        Rd Try.prog V_280 (.ld 1 false) [v192] fun v193 =>
                        GdV v193 true (fun k_284 => Rd Try.prog V_280 (.ld 3 true) [v8] (fun a => k_284 a V_280)) V_280 fun v195 V_285 =>
                        GdV v193 true (fun k_287 => k_287 (.fn (.func 42) [] []) V_285) V_285 fun v196 V_288 =>
                        GdV v193 true (fun k_290 => Pu Try.prog (.addOff 2) [v15] (fun a => k_290 a V_288)) V_288 fun v197 V_291 =>
                        GdV v193 true (fun k_293 => Rd Try.prog V_291 (.ld 1 false) [v197] (fun a => k_293 a V_291)) V_291 fun v198 V_294 =>
                        GdV v193 true (fun k_296 => Pu Try.prog (.addOff 1) [v15] (fun a => k_296 a V_294)) V_294 fun v199 V_297 =>
                        GdV v193 true (fun k_299 => Rd Try.prog V_297 (.ld 1 false) [v199] (fun a => k_299 a V_297)) V_297 fun v200 V_300 =>
                        GdV v193 true (fun k_302 => CaV Try.prog V_300 v196 [v198, v200] (fun a => k_302 a V_300)) V_300 fun v201 V_303 =>
                        GdV v193 true (fun k_305 => Pu Try.prog (.bin .eql 24) [v195, v201] (fun a => k_305 a V_303)) V_303 fun v202 V_306 =>
                        Pu Try.prog .pick [v193, v202, (.p (.bool false))] fun v203 =>
                        Rt Try.prog H.nx v203 Q
                        ) (
                        Pu Try.prog (.bin .eql 3) [v105, (.p (.int .i64 8))] fun v205 =>
                        CdA v205
                          (
                          Vw fun V_309 =>
                          Pu Try.prog (.addOff 0) [v15] fun v206 =>
                          Rd Try.prog V_309 (.ld 1 false) [v206] fun v207 =>
                          GdV v207 true (fun k_313 => Rd Try.prog V_309 (.ld 3 true) [v8] (fun a => k_313 a V_309)) V_309 fun v209 V_314 =>
                          GdV v207 true (fun k_316 => k_316 (.fn (.func 42) [] []) V_314) V_314 fun v210 V_317 =>
                          GdV v207 true (fun k_319 => Pu Try.prog (.addOff 1) [v15] (fun a => k_319 a V_317)) V_317 fun v211 V_320 =>
                          GdV v207 true (fun k_322 => Rd Try.prog V_320 (.ld 1 false) [v211] (fun a => k_322 a V_320)) V_320 fun v212 V_323 =>
                          GdV v207 true (fun k_325 => Pu Try.prog (.addOff 1) [v15] (fun a => k_325 a V_323)) V_323 fun v213 V_326 =>
                          GdV v207 true (fun k_328 => Rd Try.prog V_326 (.ld 1 false) [v213] (fun a => k_328 a V_326)) V_326 fun v214 V_329 =>
                          GdV v207 true (fun k_331 => CaV Try.prog V_329 v210 [v212, v214] (fun a => k_331 a V_329)) V_329 fun v215 V_332 =>
                          GdV v207 true (fun k_334 => Pu Try.prog (.bin .eql 24) [v209, v215] (fun a => k_334 a V_332)) V_332 fun v216 V_335 =>
                          Pu Try.prog .pick [v207, v216, (.p (.bool false))] fun v217 =>
                          Rt Try.prog H.nx v217 Q
                          ) (
                          Pu Try.prog (.bin .eql 3) [v105, (.p (.int .i64 9))] fun v219 =>
                          CdA v219
                            (
                            Vw fun V_338 =>
                            Rd Try.prog V_338 (.ld 3 true) [v15] fun v220 =>
                            Pu Try.prog (.addOff 1) [v8] fun v222 =>
                            Rd Try.prog V_338 (.ld 1 false) [v222] fun v223 =>
                            Pu Try.prog (.addOff 2) [v15] fun v224 =>
                            Rd Try.prog V_338 (.ld 1 false) [v224] fun v225 =>
                            CaV Try.prog V_338 (.fn (.func 42) [] []) [v223, v225] fun v226 =>
                            Pu Try.prog (.bin .eql 24) [v220, v226] fun v227 =>
                            GdV v227 true (fun k_347 => Rd Try.prog V_338 (.ld 3 true) [v16] (fun a => k_347 a V_338)) V_338 fun v229 V_348 =>
                            GdV v227 true (fun k_350 => k_350 (.fn (.func 41) [] []) V_348) V_348 fun v230 V_351 =>
                            GdV v227 true (fun k_353 => Pu Try.prog (.addOff 2) [v15] (fun a => k_353 a V_351)) V_351 fun v231 V_354 =>
                            GdV v227 true (fun k_356 => Rd Try.prog V_354 (.ld 1 false) [v231] (fun a => k_356 a V_354)) V_354 fun v232 V_357 =>
                            GdV v227 true (fun k_359 => Pu Try.prog (.addOff 2) [v8] (fun a => k_359 a V_357)) V_357 fun v233 V_360 =>
                            GdV v227 true (fun k_362 => Rd Try.prog V_360 (.ld 1 false) [v233] (fun a => k_362 a V_360)) V_360 fun v234 V_363 =>
                            GdV v227 true (fun k_365 => CaV Try.prog V_363 v230 [v232, v234] (fun a => k_365 a V_363)) V_363 fun v235 V_366 =>
                            GdV v227 true (fun k_368 => Pu Try.prog (.bin .eql 24) [v229, v235] (fun a => k_368 a V_366)) V_366 fun v236 V_369 =>
                            Pu Try.prog .pick [v227, v236, (.p (.bool false))] fun v237 =>
                            GdV v237 true (fun k_372 => Pu Try.prog (.addOff 0) [v8] (fun a => k_372 a V_369)) V_369 fun v239 V_373 =>
                            GdV v237 true (fun k_375 => Rd Try.prog V_373 (.ld 1 false) [v239] (fun a => k_375 a V_373)) V_373 fun v240 V_376 =>
                            Pu Try.prog .pick [v237, v240, (.p (.bool false))] fun v241 =>
                            Rt Try.prog H.nx v241 Q
                            ) (
                            Vw fun V_378 =>
                            Pu Try.prog (.addOff 0) [v15] fun v242 =>
                            Rd Try.prog V_378 (.ld 1 false) [v242] fun v243 =>
                            Pu Try.prog (.un .not) [v243] fun v244 =>
                            GdV v244 true (fun k_383 => Rd Try.prog V_378 (.ld 3 true) [v16] (fun a => k_383 a V_378)) V_378 fun v246 V_384 =>
                            GdV v244 true (fun k_386 => k_386 (.fn (.func 42) [] []) V_384) V_384 fun v247 V_387 =>
                            GdV v244 true (fun k_389 => Pu Try.prog (.addOff 1) [v15] (fun a => k_389 a V_387)) V_387 fun v248 V_390 =>
                            GdV v244 true (fun k_392 => Rd Try.prog V_390 (.ld 1 false) [v248] (fun a => k_392 a V_390)) V_390 fun v249 V_393 =>
                            GdV v244 true (fun k_395 => Pu Try.prog (.addOff 2) [v15] (fun a => k_395 a V_393)) V_393 fun v250 V_396 =>
                            GdV v244 true (fun k_398 => Rd Try.prog V_396 (.ld 1 false) [v250] (fun a => k_398 a V_396)) V_396 fun v251 V_399 =>
                            GdV v244 true (fun k_401 => Pu Try.prog (.un .neg) [v251] (fun a => k_401 a V_399)) V_399 fun v252 V_402 =>
                            GdV v244 true (fun k_404 => CaV Try.prog V_402 v247 [v249, v252] (fun a => k_404 a V_402)) V_402 fun v253 V_405 =>
                            GdV v244 true (fun k_407 => Pu Try.prog (.bin .eql 24) [v246, v253] (fun a => k_407 a V_405)) V_405 fun v254 V_408 =>
                            Pu Try.prog .pick [v244, v254, (.p (.bool false))] fun v255 =>
                            Rt Try.prog H.nx v255 Q
                            )
                          )
                        )
                      )
                    )
                  )
                )
              )
            )
          ) [(.p (.int .i64 0))]
        )
      )
    ) H
theorem eq_prove_right (a0 a1 a2 : AV) (Q : AV → AH → Prop) (H : AH) : FnA Try.prog 256 (regsF Try.f25) ac_prove_right [.tm 6] [a0, a1, a2] H Q = S_prove_right a0 a1 a2 Q H := by kernel_rfl
theorem tri_prove_right {a0 a1 a2 : AV} {H : AH} {Q : AV → AH → Prop} (h : S_prove_right a0 a1 a2 Q H) : Tri Try.prog 25 [a0, a1, a2] H Q :=
  tri_of (Ms := [#[], #[], #[], #[], #[0, 1, 3, 7, 15, 31, 63, 127, 255, 511, 1023, 2047, 4095, 8191, 16383, 32767, 4095, 69631, 262143, 524287, 1048575, 2097151, 2097151, 6291455, 14680063, 31457279, 67108863, 134217727, 2097151, 536870911, 1073741823, 2147483647], #[], #[], #[], #[], #[], #[], #[], #[], #[], #[], #[], #[], #[0, 1, 0, 4, 0, 0, 51, 127], #[], #[], #[], #[], #[0, 0, 0, 4, 0, 16, 62, 127, 255], #[], #[0, 0, 0, 4, 0, 16, 62, 127, 255, 511, 511, 511, 2559, 511, 8703, 32255, 65535, 131071, 262143, 524287, 1048575, 2097151, 4194303, 8388607], #[], #[0, 1, 3, 7, 15, 15, 15, 79, 207, 15, 527, 1551, 4079, 8191, 16383, 32767], #[], #[0, 0, 0, 4, 0, 16, 48, 126, 255, 511, 1023, 2047, 4095, 8191, 16383], #[], #[0, 0, 0, 4, 12, 0, 32, 126, 255, 511, 1023, 2047, 4095, 8191, 16383], #[], #[0, 1, 3, 7, 7, 7, 39, 7, 135, 503, 1023, 2047, 4095], #[], #[0, 1, 3, 7, 7, 7, 39, 7, 135, 503, 1023, 2047, 4095], #[], #[0, 0, 0, 4, 0, 16, 62, 127, 255, 511, 511, 511, 2559, 511, 8703, 32255, 65535, 131071, 262143, 524287, 1048575, 2097151, 4194303], #[0, 1, 3, 7, 15, 15, 15, 79, 15, 271, 783, 2031, 4095, 8191, 16383]]) mixed Try.func25 rfl (by kernel_rfl) (by kernel_rfl) rfl (of_decide_eq_true rfl : 3 ≤ 256) ((eq_prove_right a0 a1 a2 Q H).symm ▸ h : FnA Try.prog 256 (regsF Try.f25) ac_prove_right [.tm 6] [a0, a1, a2] H Q)

/-! wordhoard/prove.right$1 -/
def ac_prove_right_fn1 : AC := (.seq (.reg 0) (.seq (.reg 1) .ret))
def S_prove_right_fn1 (a0 a1 : AV) (Q : AV → AH → Prop) (H : AH) : Prop := (
    Rg 1 fun b =>
    Al (b + 0) (.nw 24 [.p (.bool false), .p (.int .i64 0), .p (.int .i64 0)]) [] fun v4 =>
    Rg 4 fun b_3 =>
    Pu Try.prog (.bld [.p (.bool false), .p (.int .i64 0), .p (.int .i64 0)] [(1, 1), (2, 1)]) [a0, a1] fun v7 =>
    WrS Try.prog (b_3 + 3) (.st 3) [v4, v7] fun vn =>
    RdS Try.prog (.ld 3 true) [v4] fun r4 =>
    Rt Try.prog H.nx r4 Q
    ) H
theorem eq_prove_right_fn1 (a0 a1 : AV) (Q : AV → AH → Prop) (H : AH) : FnA Try.prog 8 (regsF Try.f41) ac_prove_right_fn1 [.ce 4 24] [a0, a1] H Q = S_prove_right_fn1 a0 a1 Q H := by kernel_rfl
theorem tri_prove_right_fn1 {a0 a1 : AV} {H : AH} {Q : AV → AH → Prop} (h : S_prove_right_fn1 a0 a1 Q H) : Tri Try.prog 41 [a0, a1] H Q :=
  tri_of (Ms := [#[], #[]]) mixed Try.func41 rfl (by kernel_rfl) (by kernel_rfl) rfl (of_decide_eq_true rfl : 2 ≤ 8) ((eq_prove_right_fn1 a0 a1 Q H).symm ▸ h : FnA Try.prog 8 (regsF Try.f41) ac_prove_right_fn1 [.ce 4 24] [a0, a1] H Q)

/-! wordhoard/prove.right$2 -/
def ac_prove_right_fn2 : AC := (.seq (.reg 0) (.seq (.reg 1) .ret))
def S_prove_right_fn2 (a0 a1 : AV) (Q : AV → AH → Prop) (H : AH) : Prop := (
    Rg 1 fun b =>
    Al (b + 0) (.nw 24 [.p (.bool false), .p (.int .i64 0), .p (.int .i64 0)]) [] fun v4 =>
    Rg 4 fun b_3 =>
    Pu Try.prog (.bld [.p (.bool false), .p (.int .i64 0), .p (.int .i64 0)] [(0, 1), (1, 1), (2, 1)]) [(.p (.bool true)), a0, a1] fun v7 =>
    WrS Try.prog (b_3 + 3) (.st 3) [v4, v7] fun vn =>
    RdS Try.prog (.ld 3 true) [v4] fun r4 =>
    Rt Try.prog H.nx r4 Q
    ) H
theorem eq_prove_right_fn2 (a0 a1 : AV) (Q : AV → AH → Prop) (H : AH) : FnA Try.prog 8 (regsF Try.f42) ac_prove_right_fn2 [.ce 4 24] [a0, a1] H Q = S_prove_right_fn2 a0 a1 Q H := by kernel_rfl
theorem tri_prove_right_fn2 {a0 a1 : AV} {H : AH} {Q : AV → AH → Prop} (h : S_prove_right_fn2 a0 a1 Q H) : Tri Try.prog 42 [a0, a1] H Q :=
  tri_of (Ms := [#[], #[]]) mixed Try.func42 rfl (by kernel_rfl) (by kernel_rfl) rfl (of_decide_eq_true rfl : 2 ≤ 8) ((eq_prove_right_fn2 a0 a1 Q H).symm ▸ h : FnA Try.prog 8 (regsF Try.f42) ac_prove_right_fn2 [.ce 4 24] [a0, a1] H Q)
end Go.Proofs.Ytcmnjoepadjioaa
