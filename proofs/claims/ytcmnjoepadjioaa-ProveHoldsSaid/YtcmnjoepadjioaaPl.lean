/- Abstract walks of functions, written by a program (wip/aw/aw.py): each equation is checked by the kernel. -/
import Derived.Test.YtcmnjoepadjioaaAwG
namespace Go.Proofs.Ytcmnjoepadjioaa
open Go.RowKit

/-! wordhoard/wordhoardlaw.ProveHolds -/
def ac_wordhoardlaw_ProveHolds : AC := (.seq (.reg 0) (.seq (.reg 1) (.seq (.reg 2) (.cut [7] [(16, 20)] (.seq (.reg 3) (.cond (.tmp 17) (.reg 4) .skip)) (.seq (.reg 5) .ret)))))
def S_wordhoardlaw_ProveHolds (a0 a1 : AV) (Q : AV → AH → Prop) (H : AH) : Prop := (
    Rg 2 fun b =>
    Al (b + 0) (.bx 24) [a1] fun v3 =>
    RdS Try.prog (.ld 3 true) [v3] fun v10 =>
    Ca Try.prog (.fn (.func 7) [] []) [a0, v10] fun v11 =>
    Pu Try.prog (.ext 0) [v11] fun v12 =>
    Pu Try.prog (.ext 1) [v11] fun v13 =>
    Ca Try.prog (.fn (.func 8) [] []) [a0] fun v15 =>
    CutA Try.prog 1 (fun k =>
      Pu Try.prog (.bin .eql 25) [v15, (.p (.int .i64 0))] fun v17 =>
      CdA v17
        (
        RdS Try.prog (.ld 3 true) [v3] fun v18 =>
        Ca Try.prog (.fn (.func 9) [] []) [v18] fun v19 =>
        k [v19]
        ) (
        k [v15]
        )
      ) fun vs =>
    Vw fun V =>
    CaV Try.prog V (.fn (.func 10) [] []) [] fun v20 =>
    GdV v20 true (fun k_16 => Rd Try.prog V (.ld 3 true) [v3] (fun a => k_16 a V)) V fun v22 V_17 =>
    GdV v20 true (fun k_19 => CaV Try.prog V_17 (.fn (.func 11) [] []) [v22] (fun a => k_19 a V_17)) V_17 fun v23 V_20 =>
    GdV v20 true (fun k_22 => Rd Try.prog V_20 (.ld 3 true) [v3] (fun a => k_22 a V_20)) V_20 fun v24 V_23 =>
    GdV v20 true (fun k_25 => CaV Try.prog V_23 (.fn (.func 9) [] []) [v24] (fun a => k_25 a V_23)) V_23 fun v25 V_26 =>
    GdV v20 true (fun k_28 => Pu Try.prog (.bin .eql 25) [v23, v25] (fun a => k_28 a V_26)) V_26 fun v26 V_29 =>
    Pu Try.prog .pick [v20, v26, (.p (.bool false))] fun v27 =>
    GdV v27 true (fun k_32 => k_32 v13 V_29) V_29 fun v29 V_33 =>
    GdV v27 true (fun k_35 => k_35 (vs.getD 0 .any) V_33) V_33 fun v30 V_36 =>
    GdV v27 true (fun k_38 => Pu Try.prog (.bin .eql 25) [v29, v30] (fun a => k_38 a V_36)) V_36 fun v31 V_39 =>
    Pu Try.prog .pick [v27, v31, (.p (.bool false))] fun v32 =>
    GdV v32 true (fun k_42 => k_42 v12 V_39) V_39 fun v34 V_43 =>
    GdV v32 true (fun k_45 => k_45 (vs.getD 0 .any) V_43) V_43 fun v35 V_46 =>
    GdV v32 true (fun k_48 => Pu Try.prog (.bin .eql 25) [v35, (.p (.int .i64 0))] (fun a => k_48 a V_46)) V_46 fun v36 V_49 =>
    GdV v32 true (fun k_51 => k_51 v36 V_49) V_49 fun v37 V_52 =>
    GdV v37 true (fun k_54 => k_54 a0 V_52) V_52 fun v38 V_55 =>
    GdV v37 true (fun k_57 => Rd Try.prog V_55 (.ld 3 true) [v3] (fun a => k_57 a V_55)) V_55 fun v39 V_58 =>
    GdV v37 true (fun k_60 => CaV Try.prog V_58 (.fn (.func 12) [] []) [v38, v39] (fun a => k_60 a V_58)) V_58 fun v40 V_61 =>
    GdV v32 true (fun k_63 => Pu Try.prog .pick [v37, v40, (.p (.bool false))] (fun a => k_63 a V_61)) V_61 fun v41 V_64 =>
    GdV v32 true (fun k_66 => Pu Try.prog (.bin .eql 4) [v34, v41] (fun a => k_66 a V_64)) V_64 fun v42 V_67 =>
    Pu Try.prog .pick [v32, v42, (.p (.bool false))] fun v43 =>
    Rt Try.prog H.nx v43 Q
    ) H
theorem eq_wordhoardlaw_ProveHolds (a0 a1 : AV) (Q : AV → AH → Prop) (H : AH) : FnA Try.prog 44 (regsF Try.f3) ac_wordhoardlaw_ProveHolds [.tm 4] [a0, a1] H Q = S_wordhoardlaw_ProveHolds a0 a1 Q H := by kernel_rfl
theorem tri_wordhoardlaw_ProveHolds {a0 a1 : AV} {H : AH} {Q : AV → AH → Prop} (h : S_wordhoardlaw_ProveHolds a0 a1 Q H) : Tri Try.prog 3 [a0, a1] H Q :=
  tri_of (Ms := [#[], #[], #[], #[], #[], #[0, 1, 3, 7, 3, 31, 63, 127, 255, 511, 511, 2047, 4095, 8191, 16383, 16383, 49151, 114687, 245759, 245759, 1032191, 2080767, 4194303, 8388607, 16777215]]) mixed Try.func3 rfl (by kernel_rfl) (by kernel_rfl) rfl (of_decide_eq_true rfl : 2 ≤ 44) ((eq_wordhoardlaw_ProveHolds a0 a1 Q H).symm ▸ h : FnA Try.prog 44 (regsF Try.f3) ac_wordhoardlaw_ProveHolds [.tm 4] [a0, a1] H Q)

/-! wordhoard/wordhoardlaw.ProveSound -/
def ac_wordhoardlaw_ProveSound : AC := (.seq (.reg 0) (.seq (.reg 1) (.seq (.reg 2) (.seq (.reg 3) (.seq (.seq (.reg 4) (.block 0 (.loop [8, 9] [(18, 32)] (.seq (.seq (.reg 5) (.cond (.tmp 21) .skip (.exit 0))) (.seq (.block 1 (.reg 6)) (.reg 7)))))) (.cut [7] [(32, 38)] (.seq (.reg 8) (.cond (.tmp 34) (.reg 9) (.reg 10))) (.seq (.reg 11) (.seq (.seq (.reg 12) (.block 2 (.loop [10, 11] [(40, 53)] (.seq (.seq (.reg 13) (.cond (.tmp 46) .skip (.exit 2))) (.seq (.block 3 (.reg 14)) (.reg 15)))))) (.seq (.reg 16) .ret)))))))))
def S_wordhoardlaw_ProveSound (a0 a1 : AV) (Q : AV → AH → Prop) (H : AH) : Prop := (
    Ca Try.prog (.fn (.func 13) [] []) [a0, a1] fun v15 =>
    Pu Try.prog (.ext 0) [v15] fun v16 =>
    Pu Try.prog (.ext 1) [v15] fun v17 =>
    LoopA Try.prog 2 (fun vs k =>
      Pu Try.prog .len [a1] fun v20 =>
      Pu Try.prog (.bin .lss 3) [(vs.getD 1 .any), v20] fun v21 =>
      CdA v21
        (
        Rg 9 fun b =>
        Pu Try.prog (.idx 5) [a1, (vs.getD 1 .any)] fun v27 =>
        Pu Try.prog (.addOff 1) [v27] fun v28 =>
        RdS Try.prog (.ld 3 true) [v28] fun v29 =>
        Al (b + 6) (.bs 24 3 1 [.p (.bool false), .p (.int .i64 0), .p (.int .i64 0)] [(0, 3)]) [v29] fun v30 =>
        WrS Try.prog (b + 7) (.app 24 3 24) [(vs.getD 0 .any), v30] fun v31 =>
        Pu Try.prog (.bin .add 3) [(vs.getD 1 .any), (.p (.int .i64 1))] fun v23 =>
        k [v31, v23]
        ) (
        CutA Try.prog 1 (fun k_15 =>
          Pu Try.prog .len [a1] fun v33 =>
          Pu Try.prog (.bin .gtr 3) [v33, (.p (.int .i64 400))] fun v34 =>
          CdA v34
            (
            k_15 [(.p (.int .i64 7))]
            ) (
            Ca Try.prog (.fn (.func 14) [] []) [a0, (vs.getD 0 .any)] fun v37 =>
            k_15 [v37]
            )
          ) fun vs_16 =>
        Pu Try.prog (.bin .eql 25) [(vs_16.getD 0 .any), (.p (.int .i64 0))] fun v39 =>
        LoopA Try.prog 2 (fun vs_22 k_21 =>
          Pu Try.prog .len [a1] fun v42 =>
          Pu Try.prog (.bin .lss 3) [(vs_22.getD 1 .any), v42] fun v43 =>
          Gd v43 true (fun k_26 => k_26 (vs_22.getD 0 .any)) fun v45 =>
          Pu Try.prog .pick [v43, v45, (.p (.bool false))] fun v46 =>
          CdA v46
            (
            Ca Try.prog (.fn (.func 15) [] []) [a0, a1, (vs_22.getD 1 .any)] fun v52 =>
            Pu Try.prog (.bin .add 3) [(vs_22.getD 1 .any), (.p (.int .i64 1))] fun v48 =>
            k_21 [v52, v48]
            ) (
            Ca Try.prog (.fn (.func 10) [] []) [] fun v53 =>
            Gd v53 true (fun k_32 => k_32 v17) fun v55 =>
            Gd v53 true (fun k_34 => k_34 (vs_16.getD 0 .any)) fun v56 =>
            Gd v53 true (fun k_36 => Pu Try.prog (.bin .eql 25) [v55, v56] k_36) fun v57 =>
            Pu Try.prog .pick [v53, v57, (.p (.bool false))] fun v58 =>
            Gd v58 true (fun k_39 => k_39 v16) fun v60 =>
            Gd v58 true (fun k_41 => k_41 (vs_22.getD 0 .any)) fun v61 =>
            Gd v58 true (fun k_43 => Pu Try.prog (.bin .eql 4) [v60, v61] k_43) fun v62 =>
            Pu Try.prog .pick [v58, v62, (.p (.bool false))] fun v63 =>
            Rt Try.prog H.nx v63 Q
            )
          ) [v39, (.p (.int .i64 0))]
        )
      ) [(.p (.slice none 0 0)), (.p (.int .i64 0))]
    ) H
theorem eq_wordhoardlaw_ProveSound (a0 a1 : AV) (Q : AV → AH → Prop) (H : AH) : FnA Try.prog 64 (regsF Try.f4) ac_wordhoardlaw_ProveSound [.tm 4] [a0, a1] H Q = S_wordhoardlaw_ProveSound a0 a1 Q H := by kernel_rfl
theorem tri_wordhoardlaw_ProveSound {a0 a1 : AV} {H : AH} {Q : AV → AH → Prop} (h : S_wordhoardlaw_ProveSound a0 a1 Q H) : Tri Try.prog 4 [a0, a1] H Q :=
  tri_of (Ms := [#[], #[], #[], #[], #[], #[], #[], #[], #[], #[], #[], #[], #[], #[], #[], #[], #[]]) mixed Try.func4 rfl (by kernel_rfl) (by kernel_rfl) rfl (of_decide_eq_true rfl : 2 ≤ 64) ((eq_wordhoardlaw_ProveSound a0 a1 Q H).symm ▸ h : FnA Try.prog 64 (regsF Try.f4) ac_wordhoardlaw_ProveSound [.tm 4] [a0, a1] H Q)

/-! wordhoard/wordhoardlaw.ProveArgues -/
def ac_wordhoardlaw_ProveArgues : AC := (.seq (.reg 0) (.seq (.reg 1) (.seq (.reg 2) (.seq (.reg 3) (.seq (.seq (.reg 4) (.cond (.tmp 44) (.seq (.reg 5) .ret) .skip)) (.seq (.seq (.reg 6) (.cond (.tmp 46) (.seq (.reg 7) .ret) .skip)) (.seq (.reg 8) (.seq (.seq (.reg 9) (.cond (.tmp 88) (.seq (.reg 10) .ret) .skip)) (.seq (.seq (.reg 11) (.cond (.tmp 90) (.seq (.seq (.reg 12) (.cond (.tmp 98) (.seq (.reg 13) .ret) .skip)) (.seq (.seq (.reg 14) (.block 0 (.loop [13] [(4, 5), (99, 112)] (.seq (.seq (.reg 15) (.cond (.tmp 102) .skip (.exit 0))) (.seq (.block 1 (.seq (.reg 16) (.cond (.tmp 111) (.seq (.reg 17) .ret) .skip))) (.reg 18)))))) (.seq (.reg 19) .ret))) .skip)) (.seq (.seq (.reg 20) (.cond (.tmp 130) (.seq (.reg 21) .ret) .skip)) (.seq (.seq (.reg 22) (.block 2 (.loop [14] [(4, 5), (131, 151)] (.seq (.seq (.reg 23) (.cond (.tmp 134) .skip (.exit 2))) (.seq (.block 3 (.seq (.reg 24) (.cond (.tmp 150) (.seq (.reg 25) .ret) .skip))) (.reg 26)))))) (.seq (.reg 27) .ret))))))))))))
def S_wordhoardlaw_ProveArgues (a0 a1 : AV) (Q : AV → AH → Prop) (H : AH) : Prop := (
    Rg 2 fun b =>
    Al (b + 0) (.bx 24) [a1] fun v3 =>
    RdS Try.prog (.ld 3 true) [v3] fun v17 =>
    Ca Try.prog (.fn (.func 16) [] []) [a0, v17] fun v18 =>
    Pu Try.prog (.ext 0) [v18] fun v19 =>
    Pu Try.prog (.ext 1) [v18] fun v20 =>
    Pu Try.prog (.ext 2) [v18] fun v21 =>
    RdS Try.prog (.ld 3 true) [v3] fun v24 =>
    Ca Try.prog (.fn (.func 17) [] []) [a0, v24] fun v25 =>
    Pu Try.prog (.ext 0) [v25] fun v26 =>
    Pu Try.prog (.ext 1) [v25] fun v27 =>
    Pu Try.prog (.ext 2) [v25] fun v28 =>
    Rg 5 fun b_13 =>
    RdS Try.prog (.ld 3 true) [v3] fun v30 =>
    Al (b_13 + 2) (.bs 24 3 1 [.p (.bool false), .p (.int .i64 0), .p (.int .i64 0)] [(0, 3)]) [v30] fun v31 =>
    Ca Try.prog (.fn (.func 14) [] []) [a0, v31] fun v32 =>
    Ca Try.prog (.fn (.func 10) [] []) [] fun v33 =>
    Pu Try.prog (.un .not) [v33] fun v34 =>
    Gd v34 false (fun k => k v21) fun v36 =>
    Gd v34 false (fun k_22 => k_22 v32) fun v37 =>
    Gd v34 false (fun k_24 => Pu Try.prog (.bin .neq 25) [v36, v37] k_24) fun v38 =>
    Pu Try.prog .pick [v34, (.p (.bool true)), v38] fun v39 =>
    Gd v39 false (fun k_27 => k_27 v28) fun v41 =>
    Gd v39 false (fun k_29 => k_29 v32) fun v42 =>
    Gd v39 false (fun k_31 => Pu Try.prog (.bin .neq 25) [v41, v42] k_31) fun v43 =>
    Pu Try.prog .pick [v39, (.p (.bool true)), v43] fun v44 =>
    CdA v44
      (
      Rt Try.prog H.nx (.p (.bool false)) Q
      ) (
      Pu Try.prog (.bin .neq 25) [v32, (.p (.int .i64 0))] fun v46 =>
      CdA v46
        (
        Pu Try.prog (.un .not) [v20] fun v48 =>
        Gd v48 true (fun k_36 => k_36 v27) fun v50 =>
        Gd v48 true (fun k_38 => Pu Try.prog (.un .not) [v50] k_38) fun v51 =>
        Pu Try.prog .pick [v48, v51, (.p (.bool false))] fun v52 =>
        Gd v52 true (fun k_41 => k_41 v19) fun v54 =>
        Gd v52 true (fun k_43 => Pu Try.prog .len [v54] k_43) fun v55 =>
        Gd v52 true (fun k_45 => k_45 v26) fun v56 =>
        Gd v52 true (fun k_47 => Pu Try.prog .len [v56] k_47) fun v57 =>
        Gd v52 true (fun k_49 => Pu Try.prog (.bin .add 3) [v55, v57] k_49) fun v58 =>
        Gd v52 true (fun k_51 => Pu Try.prog (.bin .eql 3) [v58, (.p (.int .i64 0))] k_51) fun v59 =>
        Pu Try.prog .pick [v52, v59, (.p (.bool false))] fun v60 =>
        Rt Try.prog H.nx v60 Q
        ) (
        RdS Try.prog (.ld 3 true) [v3] fun v62 =>
        Ca Try.prog (.fn (.func 18) [] []) [a0, v62] fun v63 =>
        Pu Try.prog (.bin .neq 4) [v20, v63] fun v66 =>
        Gd v66 false (fun k_57 => k_57 v27) fun v68 =>
        Gd v66 false (fun k_59 => k_59 v63) fun v69 =>
        Gd v66 false (fun k_61 => Pu Try.prog (.bin .eql 4) [v68, v69] k_61) fun v70 =>
        Pu Try.prog .pick [v66, (.p (.bool true)), v70] fun v71 =>
        Gd v71 false (fun k_64 => k_64 v63) fun v73 =>
        Gd v71 false (fun k_66 => k_66 v73) fun v74 =>
        Gd v74 true (fun k_68 => k_68 v26) fun v75 =>
        Gd v74 true (fun k_70 => Pu Try.prog .len [v75] k_70) fun v76 =>
        Gd v74 true (fun k_72 => Pu Try.prog (.bin .gtr 3) [v76, (.p (.int .i64 0))] k_72) fun v77 =>
        Gd v71 false (fun k_74 => Pu Try.prog .pick [v74, v77, (.p (.bool false))] k_74) fun v78 =>
        Pu Try.prog .pick [v71, (.p (.bool true)), v78] fun v79 =>
        Gd v79 false (fun k_77 => k_77 v63) fun v81 =>
        Gd v79 false (fun k_79 => Pu Try.prog (.un .not) [v81] k_79) fun v82 =>
        Gd v79 false (fun k_81 => k_81 v82) fun v83 =>
        Gd v83 true (fun k_83 => k_83 v19) fun v84 =>
        Gd v83 true (fun k_85 => Pu Try.prog .len [v84] k_85) fun v85 =>
        Gd v83 true (fun k_87 => Pu Try.prog (.bin .gtr 3) [v85, (.p (.int .i64 0))] k_87) fun v86 =>
        Gd v79 false (fun k_89 => Pu Try.prog .pick [v83, v86, (.p (.bool false))] k_89) fun v87 =>
        Pu Try.prog .pick [v79, (.p (.bool true)), v87] fun v88 =>
        CdA v88
          (
          Rt Try.prog H.nx (.p (.bool false)) Q
          ) (
          Pu Try.prog (.un .not) [v63] fun v90 =>
          CdA v90
            (
            Ca Try.prog (.fn (.func 8) [] []) [v26] fun v92 =>
            Pu Try.prog (.bin .neq 25) [v92, (.p (.int .i64 0))] fun v93 =>
            Gd v93 false (fun k_95 => k_95 v26) fun v95 =>
            Gd v93 false (fun k_97 => RdS Try.prog (.ld 3 true) [v3] k_97) fun v96 =>
            Gd v93 false (fun k_99 => Ca Try.prog (.fn (.func 12) [] []) [v95, v96] k_99) fun v97 =>
            Pu Try.prog .pick [v93, (.p (.bool true)), v97] fun v98 =>
            CdA v98
              (
              Rt Try.prog H.nx (.p (.bool false)) Q
              ) (
              LoopA Try.prog 1 (fun vs k_101 =>
                Pu Try.prog .len [a0] fun v101 =>
                Pu Try.prog (.bin .lss 3) [(vs.getD 0 .any), v101] fun v102 =>
                CdA v102
                  (
                  Pu Try.prog (.idx 3) [a0, (vs.getD 0 .any)] fun v108 =>
                  RdS Try.prog (.ld 3 true) [v108] fun v109 =>
                  Ca Try.prog (.fn (.func 12) [] []) [v26, v109] fun v110 =>
                  Pu Try.prog (.un .not) [v110] fun v111 =>
                  CdA v111
                    (
                    Rt Try.prog H.nx (.p (.bool false)) Q
                    ) (
                    Pu Try.prog (.bin .add 3) [(vs.getD 0 .any), (.p (.int .i64 1))] fun v104 =>
                    k_101 [v104]
                    )
                  ) (
                  Rt Try.prog H.nx (.p (.bool true)) Q
                  )
                ) [(.p (.int .i64 0))]
              )
            ) (
            Vw fun V =>
            Pu Try.prog .len [v19] fun v113 =>
            Pu Try.prog (.bin .eql 3) [v113, (.p (.int .i64 0))] fun v114 =>
            GdV v114 false (fun k_114 => k_114 v19 V) V fun v116 V_115 =>
            GdV v114 false (fun k_117 => Pu Try.prog .len [v116] (fun a => k_117 a V_115)) V_115 fun v117 V_118 =>
            GdV v114 false (fun k_120 => Pu Try.prog (.bin .gtr 3) [v117, (.p (.int .i64 400))] (fun a => k_120 a V_118)) V_118 fun v118 V_121 =>
            Pu Try.prog .pick [v114, (.p (.bool true)), v118] fun v119 =>
            GdV v119 false (fun k_124 => k_124 v19 V_121) V_121 fun v121 V_125 =>
            GdV v119 false (fun k_127 => k_127 v19 V_125) V_125 fun v122 V_128 =>
            GdV v119 false (fun k_130 => Pu Try.prog .len [v122] (fun a => k_130 a V_128)) V_128 fun v123 V_131 =>
            GdV v119 false (fun k_133 => Pu Try.prog (.bin .sub 3) [v123, (.p (.int .i64 1))] (fun a => k_133 a V_131)) V_131 fun v124 V_134 =>
            GdV v119 false (fun k_136 => Pu Try.prog (.idx 5) [v121, v124] (fun a => k_136 a V_134)) V_134 fun v125 V_137 =>
            GdV v119 false (fun k_139 => Pu Try.prog (.addOff 1) [v125] (fun a => k_139 a V_137)) V_137 fun v126 V_140 =>
            GdV v119 false (fun k_142 => Rd Try.prog V_140 (.ld 3 true) [v126] (fun a => k_142 a V_140)) V_140 fun v127 V_143 =>
            GdV v119 false (fun k_145 => Rd Try.prog V_143 (.ld 3 true) [v3] (fun a => k_145 a V_143)) V_143 fun v128 V_146 =>
            GdV v119 false (fun k_148 => Pu Try.prog (.bin .neq 24) [v127, v128] (fun a => k_148 a V_146)) V_146 fun v129 V_149 =>
            Pu Try.prog .pick [v119, (.p (.bool true)), v129] fun v130 =>
            CdA v130
              (
              Rt Try.prog H.nx (.p (.bool false)) Q
              ) (
              LoopA Try.prog 1 (fun vs_152 k_151 =>
                Pu Try.prog .len [v19] fun v133 =>
                Pu Try.prog (.bin .lss 3) [(vs_152.getD 0 .any), v133] fun v134 =>
                CdA v134
                  (
                  Pu Try.prog (.idx 5) [v19, (vs_152.getD 0 .any)] fun v139 =>
                  Pu Try.prog (.addOff 1) [v139] fun v140 =>
                  RdS Try.prog (.ld 3 true) [v140] fun v141 =>
                  Ca Try.prog (.fn (.func 9) [] []) [v141] fun v142 =>
                  Pu Try.prog (.bin .neq 25) [v142, (.p (.int .i64 0))] fun v143 =>
                  Gd v143 false (fun k_161 => k_161 a0) fun v145 =>
                  Gd v143 false (fun k_163 => k_163 v19) fun v146 =>
                  Gd v143 false (fun k_165 => k_165 (vs_152.getD 0 .any)) fun v147 =>
                  Gd v143 false (fun k_167 => Ca Try.prog (.fn (.func 15) [] []) [v145, v146, v147] k_167) fun v148 =>
                  Gd v143 false (fun k_169 => Pu Try.prog (.un .not) [v148] k_169) fun v149 =>
                  Pu Try.prog .pick [v143, (.p (.bool true)), v149] fun v150 =>
                  CdA v150
                    (
                    Rt Try.prog H.nx (.p (.bool false)) Q
                    ) (
                    Pu Try.prog (.bin .add 3) [(vs_152.getD 0 .any), (.p (.int .i64 1))] fun v136 =>
                    k_151 [v136]
                    )
                  ) (
                  Rt Try.prog H.nx (.p (.bool true)) Q
                  )
                ) [(.p (.int .i64 0))]
              )
            )
          )
        )
      )
    ) H
theorem eq_wordhoardlaw_ProveArgues (a0 a1 : AV) (Q : AV → AH → Prop) (H : AH) : FnA Try.prog 151 (regsF Try.f5) ac_wordhoardlaw_ProveArgues [.tm 4] [a0, a1] H Q = S_wordhoardlaw_ProveArgues a0 a1 Q H := by kernel_rfl
theorem tri_wordhoardlaw_ProveArgues {a0 a1 : AV} {H : AH} {Q : AV → AH → Prop} (h : S_wordhoardlaw_ProveArgues a0 a1 Q H) : Tri Try.prog 5 [a0, a1] H Q :=
  tri_of (Ms := [#[], #[], #[], #[], #[], #[], #[], #[], #[], #[], #[], #[], #[], #[], #[], #[], #[], #[], #[], #[], #[0, 1, 3, 7, 15, 31, 63, 127, 255, 511, 511, 1535, 3583, 8191, 16383, 32767, 511, 131071, 262143], #[], #[], #[], #[], #[], #[], #[]]) mixed Try.func5 rfl (by kernel_rfl) (by kernel_rfl) rfl (of_decide_eq_true rfl : 2 ≤ 151) ((eq_wordhoardlaw_ProveArgues a0 a1 Q H).symm ▸ h : FnA Try.prog 151 (regsF Try.f5) ac_wordhoardlaw_ProveArgues [.tm 4] [a0, a1] H Q)

/-! wordhoard/wordhoardlaw.ProveComplete -/
def ac_wordhoardlaw_ProveComplete : AC := (.seq (.reg 0) (.seq (.seq (.reg 1) (.cond (.tmp 26) (.seq (.reg 2) .ret) .skip)) (.seq (.reg 3) (.seq (.reg 4) (.seq (.seq (.reg 5) (.cond (.tmp 42) (.seq (.reg 6) .ret) .skip)) (.seq (.seq (.reg 7) (.cond (.tmp 52) (.seq (.reg 8) .ret) .skip)) (.seq (.reg 9) (.cut [15] [(8, 9), (16, 18), (54, 84)] (.seq (.reg 10) (.cond (.tmp 54) (.seq (.reg 11) (.seq (.seq (.reg 12) (.cond (.tmp 82) (.seq (.reg 13) .ret) .skip)) (.reg 14))) .skip)) (.seq (.reg 15) (.seq (.seq (.reg 16) (.block 0 (.loop [18, 19] [(8, 9), (20, 22), (84, 106)] (.seq (.seq (.reg 17) (.cond (.tmp 87) .skip (.exit 0))) (.seq (.block 1 (.seq (.reg 18) (.seq (.seq (.reg 19) (.cond (.tmp 100) (.seq (.reg 20) .ret) .skip)) (.reg 21)))) (.reg 22)))))) (.seq (.reg 23) (.seq (.seq (.reg 24) (.cond (.tmp 113) (.seq (.reg 25) .ret) .skip)) (.seq (.seq (.reg 26) (.cond (.tmp 132) (.seq (.reg 27) .ret) .skip)) (.seq (.reg 28) (.seq (.reg 29) .ret)))))))))))))))
def S_wordhoardlaw_ProveComplete (a0 a1 a2 a3 : AV) (Q : AV → AH → Prop) (H : AH) : Prop := (
    Rg 3 fun b =>
    Al (b + 0) (.bx 24) [a1] fun v5 =>
    Al (b + 1) (.bx 24) [a3] fun v7 =>
    Ca Try.prog (.fn (.func 10) [] []) [] fun v25 =>
    Pu Try.prog (.un .not) [v25] fun v26 =>
    CdA v26
      (
      Rt Try.prog H.nx (.p (.bool false)) Q
      ) (
      RdS Try.prog (.ld 3 true) [v5] fun v29 =>
      Ca Try.prog (.fn (.func 16) [] []) [a0, v29] fun v30 =>
      Pu Try.prog (.ext 0) [v30] fun v31 =>
      Pu Try.prog (.ext 1) [v30] fun v32 =>
      Pu Try.prog (.ext 2) [v30] fun v33 =>
      RdS Try.prog (.ld 3 true) [v5] fun v36 =>
      Ca Try.prog (.fn (.func 17) [] []) [a0, v36] fun v37 =>
      Pu Try.prog (.ext 0) [v37] fun v38 =>
      Pu Try.prog (.ext 1) [v37] fun v39 =>
      Pu Try.prog (.ext 2) [v37] fun v40 =>
      Pu Try.prog (.bin .neq 25) [v33, (.p (.int .i64 0))] fun v42 =>
      CdA v42
        (
        Pu Try.prog (.bin .eql 25) [v40, v33] fun v45 =>
        Rt Try.prog H.nx v45 Q
        ) (
        Pu Try.prog (.bin .neq 25) [v40, (.p (.int .i64 0))] fun v47 =>
        Gd v47 false (fun k => k v32) fun v49 =>
        Gd v47 false (fun k_22 => k_22 v39) fun v50 =>
        Gd v47 false (fun k_24 => Pu Try.prog (.bin .eql 4) [v49, v50] k_24) fun v51 =>
        Pu Try.prog .pick [v47, (.p (.bool true)), v51] fun v52 =>
        CdA v52
          (
          Rt Try.prog H.nx (.p (.bool false)) Q
          ) (
          CutA Try.prog 1 (fun k_26 =>
            CdA v32
              (
              Ca Try.prog (.fn (.func 13) [] []) [a0, v31] fun v58 =>
              Pu Try.prog (.ext 0) [v58] fun v59 =>
              Pu Try.prog (.ext 1) [v58] fun v60 =>
              Vw fun V =>
              Pu Try.prog (.bin .neq 25) [v60, (.p (.int .i64 0))] fun v62 =>
              GdV v62 false (fun k_34 => k_34 v59 V) V fun v64 V_35 =>
              GdV v62 false (fun k_37 => Pu Try.prog (.un .not) [v64] (fun a => k_37 a V_35)) V_35 fun v65 V_38 =>
              Pu Try.prog .pick [v62, (.p (.bool true)), v65] fun v66 =>
              GdV v66 false (fun k_41 => k_41 v31 V_38) V_38 fun v68 V_42 =>
              GdV v66 false (fun k_44 => Pu Try.prog .len [v68] (fun a => k_44 a V_42)) V_42 fun v69 V_45 =>
              GdV v66 false (fun k_47 => Pu Try.prog (.bin .eql 3) [v69, (.p (.int .i64 0))] (fun a => k_47 a V_45)) V_45 fun v70 V_48 =>
              Pu Try.prog .pick [v66, (.p (.bool true)), v70] fun v71 =>
              GdV v71 false (fun k_51 => k_51 v31 V_48) V_48 fun v73 V_52 =>
              GdV v71 false (fun k_54 => k_54 v31 V_52) V_52 fun v74 V_55 =>
              GdV v71 false (fun k_57 => Pu Try.prog .len [v74] (fun a => k_57 a V_55)) V_55 fun v75 V_58 =>
              GdV v71 false (fun k_60 => Pu Try.prog (.bin .sub 3) [v75, (.p (.int .i64 1))] (fun a => k_60 a V_58)) V_58 fun v76 V_61 =>
              GdV v71 false (fun k_63 => Pu Try.prog (.idx 5) [v73, v76] (fun a => k_63 a V_61)) V_61 fun v77 V_64 =>
              GdV v71 false (fun k_66 => Pu Try.prog (.addOff 1) [v77] (fun a => k_66 a V_64)) V_64 fun v78 V_67 =>
              GdV v71 false (fun k_69 => Rd Try.prog V_67 (.ld 3 true) [v78] (fun a => k_69 a V_67)) V_67 fun v79 V_70 =>
              GdV v71 false (fun k_72 => Rd Try.prog V_70 (.ld 3 true) [v5] (fun a => k_72 a V_70)) V_70 fun v80 V_73 =>
              GdV v71 false (fun k_75 => Pu Try.prog (.bin .neq 24) [v79, v80] (fun a => k_75 a V_73)) V_73 fun v81 V_76 =>
              Pu Try.prog .pick [v71, (.p (.bool true)), v81] fun v82 =>
              CdA v82
                (
                Rt Try.prog H.nx (.p (.bool false)) Q
                ) (
                k_26 [a2]
                )
              ) (
              k_26 [v38]
              )
            ) fun vs =>
          LoopA Try.prog 2 (fun vs_79 k_78 =>
            Pu Try.prog .len [a0] fun v86 =>
            Pu Try.prog (.bin .lss 3) [(vs_79.getD 1 .any), v86] fun v87 =>
            CdA v87
              (
              Pu Try.prog (.idx 3) [a0, (vs_79.getD 1 .any)] fun v94 =>
              RdS Try.prog (.ld 3 true) [v94] fun v95 =>
              Ca Try.prog (.fn (.func 7) [] []) [(vs.getD 0 .any), v95] fun v96 =>
              Pu Try.prog (.ext 0) [v96] fun v97 =>
              Pu Try.prog (.ext 1) [v96] fun v98 =>
              Pu Try.prog (.bin .neq 25) [v98, (.p (.int .i64 0))] fun v100 =>
              CdA v100
                (
                Rt Try.prog H.nx v32 Q
                ) (
                Gd (vs_79.getD 0 .any) true (fun k_89 => k_89 v97) fun v104 =>
                Pu Try.prog .pick [(vs_79.getD 0 .any), v104, (.p (.bool false))] fun v105 =>
                Pu Try.prog (.bin .add 3) [(vs_79.getD 1 .any), (.p (.int .i64 1))] fun v89 =>
                k_78 [v105, v89]
                )
              ) (
              RdS Try.prog (.ld 3 true) [v5] fun v108 =>
              Ca Try.prog (.fn (.func 7) [] []) [(vs.getD 0 .any), v108] fun v109 =>
              Pu Try.prog (.ext 0) [v109] fun v110 =>
              Pu Try.prog (.ext 1) [v109] fun v111 =>
              Pu Try.prog (.bin .neq 25) [v111, (.p (.int .i64 0))] fun v113 =>
              CdA v113
                (
                Rt Try.prog H.nx v32 Q
                ) (
                Gd v32 true (fun k_98 => k_98 (vs_79.getD 0 .any)) fun v117 =>
                Pu Try.prog .pick [v32, v117, (.p (.bool false))] fun v118 =>
                Gd v118 true (fun k_101 => k_101 v110) fun v120 =>
                Gd v118 true (fun k_103 => Pu Try.prog (.un .not) [v120] k_103) fun v121 =>
                Pu Try.prog .pick [v118, v121, (.p (.bool false))] fun v122 =>
                Gd v122 false (fun k_106 => k_106 v39) fun v124 =>
                Gd v122 false (fun k_108 => k_108 v124) fun v125 =>
                Gd v125 true (fun k_110 => k_110 (vs_79.getD 0 .any)) fun v126 =>
                Gd v125 true (fun k_112 => Pu Try.prog (.un .not) [v126] k_112) fun v127 =>
                Gd v125 true (fun k_114 => k_114 v127) fun v128 =>
                Gd v128 false (fun k_116 => k_116 v110) fun v129 =>
                Gd v125 true (fun k_118 => Pu Try.prog .pick [v128, (.p (.bool true)), v129] k_118) fun v130 =>
                Gd v122 false (fun k_120 => Pu Try.prog .pick [v125, v130, (.p (.bool false))] k_120) fun v131 =>
                Pu Try.prog .pick [v122, (.p (.bool true)), v131] fun v132 =>
                CdA v132
                  (
                  Rt Try.prog H.nx (.p (.bool false)) Q
                  ) (
                  Rg 15 fun b_122 =>
                  Vw fun V_123 =>
                  Al (b_122 + 0) (.bs 24 3 0 [.p (.bool false), .p (.int .i64 0), .p (.int .i64 0)] []) [] fun v134 =>
                  WrF V_123 (some (b_122 + 0)) none (b_122 + 2) (.app 24 3 24) [v134, a0] fun v136 =>
                  Rd Try.prog V_123 (.ld 3 true) [v7] fun v137 =>
                  Al (b_122 + 4) (.bs 24 3 1 [.p (.bool false), .p (.int .i64 0), .p (.int .i64 0)] [(0, 3)]) [v137] fun v138 =>
                  WrF V_123 (some (b_122 + 2)) (some (b_122 + 4)) (b_122 + 5) (.app 24 3 24) [v136, v138] fun v139 =>
                  Rd Try.prog V_123 (.ld 3 true) [v5] fun v140 =>
                  CaV Try.prog V_123 (.fn (.func 16) [] []) [v139, v140] fun v141 =>
                  Pu Try.prog (.ext 0) [v141] fun v142 =>
                  Pu Try.prog (.ext 1) [v141] fun v143 =>
                  Pu Try.prog (.ext 2) [v141] fun v144 =>
                  Pu Try.prog (.bin .neq 25) [v144, (.p (.int .i64 0))] fun v146 =>
                  Gd v146 false (fun k_136 => k_136 v143) fun v148 =>
                  Pu Try.prog .pick [v146, (.p (.bool true)), v148] fun v149 =>
                  Gd v149 false (fun k_139 => k_139 v32) fun v151 =>
                  Gd v149 false (fun k_141 => Pu Try.prog (.un .not) [v151] k_141) fun v152 =>
                  Pu Try.prog .pick [v149, (.p (.bool true)), v152] fun v153 =>
                  Rt Try.prog H.nx v153 Q
                  )
                )
              )
            ) [(.p (.bool true)), (.p (.int .i64 0))]
          )
        )
      )
    ) H
theorem eq_wordhoardlaw_ProveComplete (a0 a1 a2 a3 : AV) (Q : AV → AH → Prop) (H : AH) : FnA Try.prog 154 (regsF Try.f6) ac_wordhoardlaw_ProveComplete [.tm 8] [a0, a1, a2, a3] H Q = S_wordhoardlaw_ProveComplete a0 a1 a2 a3 Q H := by kernel_rfl
theorem tri_wordhoardlaw_ProveComplete {a0 a1 a2 a3 : AV} {H : AH} {Q : AV → AH → Prop} (h : S_wordhoardlaw_ProveComplete a0 a1 a2 a3 Q H) : Tri Try.prog 6 [a0, a1, a2, a3] H Q :=
  tri_of (Ms := [#[], #[], #[], #[], #[], #[], #[], #[], #[], #[], #[], #[], #[0, 1, 3, 7, 15, 31, 63, 127, 255, 511, 1023, 2047, 4095, 4095, 12287, 28671, 65535, 131071, 262143, 4095, 1048575, 2097151], #[], #[], #[], #[], #[], #[], #[], #[], #[], #[], #[], #[], #[], #[], #[], #[0, 0, 3, 0, 8, 31, 0, 127, 255, 511, 511, 511, 1023, 6143, 16383], #[]]) mixed Try.func6 rfl (by kernel_rfl) (by kernel_rfl) rfl (of_decide_eq_true rfl : 4 ≤ 154) ((eq_wordhoardlaw_ProveComplete a0 a1 a2 a3 Q H).symm ▸ h : FnA Try.prog 154 (regsF Try.f6) ac_wordhoardlaw_ProveComplete [.tm 8] [a0, a1, a2, a3] H Q)

/-! wordhoard/wordhoardlaw.proveBegun -/
def ac_wordhoardlaw_proveBegun : AC := (.seq (.reg 0) (.seq (.reg 1) (.seq (.reg 2) .ret)))
def S_wordhoardlaw_proveBegun (Q : AV → AH → Prop) (H : AH) : Prop := (
    Rg 12 fun b =>
    Pu Try.prog (.bld [.p (.bool false), .p (.int .i64 0), .p (.int .i64 0)] [(1, 1), (2, 1)]) [(.p (.int .i64 1)), (.p (.int .i64 2))] fun v5 =>
    Pu Try.prog (.bld [.p (.bool false), .p (.int .i64 0), .p (.int .i64 0)] [(0, 1), (1, 1), (2, 1)]) [(.p (.bool true)), (.p (.int .i64 3)), (.p (.int .i64 1))] fun v6 =>
    Al (b + 2) (.bs 24 3 2 [.p (.bool false), .p (.int .i64 0), .p (.int .i64 0)] [(0, 3), (3, 3)]) [v5, v6] fun v7 =>
    Pu Try.prog (.bld [.p (.bool false), .p (.int .i64 0), .p (.int .i64 0)] [(0, 1), (1, 1), (2, 1)]) [(.p (.bool true)), (.p (.int .i64 3)), (.p (.int .i64 2))] fun v8 =>
    Ca Try.prog (.fn (.func 16) [] []) [v7, v8] fun v9 =>
    Pu Try.prog (.ext 0) [v9] fun v10 =>
    Pu Try.prog (.ext 1) [v9] fun v11 =>
    Pu Try.prog (.ext 2) [v9] fun v12 =>
    Pu Try.prog (.bin .eql 25) [v12, (.p (.int .i64 0))] fun v14 =>
    Gd v14 true (fun k => k v11) fun v16 =>
    Pu Try.prog .pick [v14, v16, (.p (.bool false))] fun v17 =>
    Gd v17 true (fun k_15 => k_15 v10) fun v19 =>
    Gd v17 true (fun k_17 => Pu Try.prog .len [v19] k_17) fun v20 =>
    Gd v17 true (fun k_19 => Pu Try.prog (.bin .gtr 3) [v20, (.p (.int .i64 0))] k_19) fun v21 =>
    Pu Try.prog .pick [v17, v21, (.p (.bool false))] fun v22 =>
    Rt Try.prog H.nx v22 Q
    ) H
theorem eq_wordhoardlaw_proveBegun (Q : AV → AH → Prop) (H : AH) : FnA Try.prog 23 (regsF Try.f10) ac_wordhoardlaw_proveBegun [.tm 0] [] H Q = S_wordhoardlaw_proveBegun Q H := by kernel_rfl
theorem tri_wordhoardlaw_proveBegun {H : AH} {Q : AV → AH → Prop} (h : S_wordhoardlaw_proveBegun Q H) : Tri Try.prog 10 [] H Q :=
  tri_of (Ms := [#[], #[], #[]]) mixed Try.func10 rfl (by kernel_rfl) (by kernel_rfl) rfl (of_decide_eq_true rfl : 0 ≤ 23) ((eq_wordhoardlaw_proveBegun Q H).symm ▸ h : FnA Try.prog 23 (regsF Try.f10) ac_wordhoardlaw_proveBegun [.tm 0] [] H Q)

/-! wordhoard/wordhoardref.SoundLine -/
def ac_wordhoardref_SoundLine : AC := (.seq (.reg 0) (.seq (.reg 1) (.seq (.reg 2) (.seq (.reg 3) (.seq (.seq (.reg 4) (.block 0 (.loop [9, 10] [(6, 7), (11, 12), (20, 65)] (.seq (.seq (.reg 5) (.cond (.tmp 24) .skip (.exit 0))) (.seq (.block 1 (.seq (.reg 6) (.seq (.seq (.reg 7) (.cond (.tmp 34) (.seq (.seq (.reg 8) (.cond (.tmp 42) (.seq (.reg 9) .ret) .skip)) (.seq (.reg 10) (.exit 1))) .skip)) (.seq (.seq (.reg 11) (.cond (.tmp 56) (.seq (.reg 12) .ret) .skip)) (.reg 13))))) (.reg 14)))))) (.seq (.seq (.reg 15) (.cond (.tmp 83) (.seq (.reg 16) .ret) .skip)) (.seq (.reg 17) (.cut [] [(84, 90)] (.seq (.reg 18) (.cond (.tmp 86) (.reg 19) .skip)) (.cut [] [(90, 96)] (.seq (.reg 20) (.cond (.tmp 92) (.reg 21) .skip)) (.seq (.seq (.reg 22) (.block 2 (.seq (.reg 23) (.cond (.tmp 98) (.seq (.reg 24) .ret) (.seq (.reg 25) (.cond (.tmp 103) (.seq (.reg 26) .ret) (.seq (.reg 27) (.cond (.tmp 115) (.seq (.reg 28) .ret) (.seq (.reg 29) (.cond (.tmp 151) (.seq (.reg 30) .ret) (.seq (.reg 31) (.cond (.tmp 177) (.seq (.reg 32) .ret) (.seq (.reg 33) (.cond (.tmp 202) (.seq (.reg 34) .ret) (.seq (.reg 35) (.cond (.tmp 227) (.seq (.reg 36) .ret) (.seq (.reg 37) (.cond (.tmp 249) (.seq (.reg 38) .ret) (.seq (.reg 39) (.cond (.tmp 271) (.seq (.reg 40) .ret) .skip)))))))))))))))))))) (.seq (.reg 41) .ret)))))))))))
def S_wordhoardref_SoundLine (a0 a1 a2 : AV) (Q : AV → AH → Prop) (H : AH) : Prop := (
    Rg 6 fun b =>
    Pu Try.prog (.idx 5) [a1, a2] fun v16 =>
    RdS Try.prog (.ld 5 true) [v16] fun v17 =>
    Al (b + 4) (.nw 36 [.p (.int .i64 0), .p (.bool false), .p (.int .i64 0), .p (.int .i64 0), .p (.slice none 0 0)]) [] fun v7 =>
    WrS Try.prog (b + 5) (.st 5) [v7, v17] fun vn =>
    Rg 4 fun b_6 =>
    Pu Try.prog (.addOff 1) [v7] fun v18 =>
    RdS Try.prog (.ld 3 true) [v18] fun v19 =>
    Al (b_6 + 2) (.nw 24 [.p (.bool false), .p (.int .i64 0), .p (.int .i64 0)]) [] fun v8 =>
    WrS Try.prog (b_6 + 3) (.st 3) [v8, v19] fun vn_10 =>
    LoopA Try.prog 2 (fun vs k =>
      Pu Try.prog (.addOff 4) [v7] fun v21 =>
      RdS Try.prog (.ld 1 false) [v21] fun v22 =>
      Pu Try.prog .len [v22] fun v23 =>
      Pu Try.prog (.bin .lss 3) [(vs.getD 1 .any), v23] fun v24 =>
      CdA v24
        (
        Pu Try.prog (.addOff 4) [v7] fun v27 =>
        RdS Try.prog (.ld 1 false) [v27] fun v28 =>
        Pu Try.prog (.idx 1) [v28, (vs.getD 1 .any)] fun v30 =>
        RdS Try.prog (.ld 1 false) [v30] fun v31 =>
        Pu Try.prog (.addOff 0) [v7] fun v32 =>
        RdS Try.prog (.ld 1 false) [v32] fun v33 =>
        Pu Try.prog (.bin .eql 3) [v33, (.p (.int .i64 1))] fun v34 =>
        CdA v34
          (
          Pu Try.prog (.bin .lss 3) [v31, (.p (.int .i64 0))] fun v36 =>
          Gd v36 false (fun k_26 => k_26 v31) fun v38 =>
          Gd v36 false (fun k_28 => k_28 a0) fun v39 =>
          Gd v36 false (fun k_30 => Pu Try.prog .len [v39] k_30) fun v40 =>
          Gd v36 false (fun k_32 => Pu Try.prog (.bin .geq 3) [v38, v40] k_32) fun v41 =>
          Pu Try.prog .pick [v36, (.p (.bool true)), v41] fun v42 =>
          CdA v42
            (
            Rt Try.prog H.nx (.p (.bool false)) Q
            ) (
            Rg 8 fun b_34 =>
            Pu Try.prog (.idx 3) [a0, v31] fun v46 =>
            RdS Try.prog (.ld 3 true) [v46] fun v47 =>
            Al (b_34 + 5) (.bs 24 3 1 [.p (.bool false), .p (.int .i64 0), .p (.int .i64 0)] [(0, 3)]) [v47] fun v48 =>
            WrS Try.prog (b_34 + 6) (.app 24 3 24) [(vs.getD 0 .any), v48] fun v49 =>
            Pu Try.prog (.bin .add 3) [(vs.getD 1 .any), (.p (.int .i64 1))] fun v26 =>
            k [v49, v26]
            )
          ) (
          Pu Try.prog (.bin .lss 3) [v31, (.p (.int .i64 0))] fun v51 =>
          Gd v51 false (fun k_42 => k_42 v31) fun v53 =>
          Gd v51 false (fun k_44 => k_44 a2) fun v54 =>
          Gd v51 false (fun k_46 => Pu Try.prog (.bin .geq 3) [v53, v54] k_46) fun v55 =>
          Pu Try.prog .pick [v51, (.p (.bool true)), v55] fun v56 =>
          CdA v56
            (
            Rt Try.prog H.nx (.p (.bool false)) Q
            ) (
            Rg 9 fun b_48 =>
            Pu Try.prog (.idx 5) [a1, v31] fun v60 =>
            Pu Try.prog (.addOff 1) [v60] fun v61 =>
            RdS Try.prog (.ld 3 true) [v61] fun v62 =>
            Al (b_48 + 6) (.bs 24 3 1 [.p (.bool false), .p (.int .i64 0), .p (.int .i64 0)] [(0, 3)]) [v62] fun v63 =>
            WrS Try.prog (b_48 + 7) (.app 24 3 24) [(vs.getD 0 .any), v63] fun v64 =>
            Pu Try.prog (.bin .add 3) [(vs.getD 1 .any), (.p (.int .i64 1))] fun v26_54 =>
            k [v64, v26_54]
            )
          )
        ) (
        Rg 19 fun b_55 =>
        Pu Try.prog (.addOff 0) [v7] fun v65 =>
        RdS Try.prog (.ld 1 false) [v65] fun v66 =>
        Pu Try.prog (.bin .lss 3) [v66, (.p (.int .i64 1))] fun v67 =>
        Gd v67 false (fun k_60 => Pu Try.prog (.addOff 0) [v7] k_60) fun v69 =>
        Gd v67 false (fun k_62 => RdS Try.prog (.ld 1 false) [v69] k_62) fun v70 =>
        Gd v67 false (fun k_64 => Pu Try.prog (.bin .gtr 3) [v70, (.p (.int .i64 10))] k_64) fun v71 =>
        Pu Try.prog .pick [v67, (.p (.bool true)), v71] fun v72 =>
        Gd v72 false (fun k_67 => k_67 (vs.getD 0 .any)) fun v74 =>
        Gd v72 false (fun k_69 => Pu Try.prog .len [v74] k_69) fun v75 =>
        Gd v72 false (fun k_71 => Al (b_55 + 11) (.bs 3 1 10 [.p (.int .i64 0)] [(0, 1), (1, 1), (2, 1), (3, 1), (4, 1), (5, 1), (6, 1), (7, 1), (8, 1), (9, 1)]) [(.p (.int .i64 1)), (.p (.int .i64 0)), (.p (.int .i64 2)), (.p (.int .i64 1)), (.p (.int .i64 1)), (.p (.int .i64 1)), (.p (.int .i64 1)), (.p (.int .i64 1)), (.p (.int .i64 2)), (.p (.int .i64 2))] k_71) fun v76 =>
        Gd v72 false (fun k_73 => Pu Try.prog (.addOff 0) [v7] k_73) fun v77 =>
        Gd v72 false (fun k_75 => RdS Try.prog (.ld 1 false) [v77] k_75) fun v78 =>
        Gd v72 false (fun k_77 => Pu Try.prog (.bin .sub 3) [v78, (.p (.int .i64 1))] k_77) fun v79 =>
        Gd v72 false (fun k_79 => Pu Try.prog (.idx 1) [v76, v79] k_79) fun v80 =>
        Gd v72 false (fun k_81 => RdS Try.prog (.ld 1 false) [v80] k_81) fun v81 =>
        Gd v72 false (fun k_83 => Pu Try.prog (.bin .neq 3) [v75, v81] k_83) fun v82 =>
        Pu Try.prog .pick [v72, (.p (.bool true)), v82] fun v83 =>
        CdA v83
          (
          Rt Try.prog H.nx (.p (.bool false)) Q
          ) (
          Rg 2 fun b_85 =>
          Al (b_85 + 0) (.nw 24 [.p (.bool false), .p (.int .i64 0), .p (.int .i64 0)]) [] fun v12 =>
          Al (b_85 + 1) (.nw 24 [.p (.bool false), .p (.int .i64 0), .p (.int .i64 0)]) [] fun v13 =>
          CutA Try.prog 0 (fun k_88 =>
            Pu Try.prog .len [(vs.getD 0 .any)] fun v85 =>
            Pu Try.prog (.bin .gtr 3) [v85, (.p (.int .i64 0))] fun v86 =>
            CdA v86
              (
              Rg 4 fun b_92 =>
              Pu Try.prog (.idx 3) [(vs.getD 0 .any), (.p (.int .i64 0))] fun v88 =>
              RdS Try.prog (.ld 3 true) [v88] fun v89 =>
              WrS Try.prog (b_92 + 3) (.st 3) [v12, v89] fun vn_95 =>
              k_88 []
              ) (
              k_88 []
              )
            ) fun vs_89 =>
          CutA Try.prog 0 (fun k_96 =>
            Pu Try.prog .len [(vs.getD 0 .any)] fun v91 =>
            Pu Try.prog (.bin .gtr 3) [v91, (.p (.int .i64 1))] fun v92 =>
            CdA v92
              (
              Rg 4 fun b_100 =>
              Pu Try.prog (.idx 3) [(vs.getD 0 .any), (.p (.int .i64 1))] fun v94 =>
              RdS Try.prog (.ld 3 true) [v94] fun v95 =>
              WrS Try.prog (b_100 + 3) (.st 3) [v13, v95] fun vn_103 =>
              k_96 []
              ) (
              k_96 []
              )
            ) fun vs_97 =>
          Pu Try.prog (.addOff 0) [v7] fun v96 =>
          RdS Try.prog (.ld 1 false) [v96] fun v97 =>
          Pu Try.prog (.bin .eql 3) [v97, (.p (.int .i64 1))] fun v99 =>
          CdA v99
            (
            RdS Try.prog (.ld 3 true) [v8] fun v100 =>
            RdS Try.prog (.ld 3 true) [v12] fun v101 =>
            Pu Try.prog (.bin .eql 24) [v100, v101] fun v102 =>
            Rt Try.prog H.nx v102 Q
            ) (
            Pu Try.prog (.bin .eql 3) [v97, (.p (.int .i64 2))] fun v104 =>
            CdA v104
              (
              Pu Try.prog (.addOff 0) [v8] fun v105 =>
              RdS Try.prog (.ld 1 false) [v105] fun v106 =>
              Pu Try.prog (.un .not) [v106] fun v107 =>
              Gd v107 true (fun k_115 => Pu Try.prog (.addOff 1) [v8] k_115) fun v109 =>
              Gd v107 true (fun k_117 => RdS Try.prog (.ld 1 false) [v109] k_117) fun v110 =>
              Gd v107 true (fun k_119 => Pu Try.prog (.addOff 2) [v8] k_119) fun v111 =>
              Gd v107 true (fun k_121 => RdS Try.prog (.ld 1 false) [v111] k_121) fun v112 =>
              Gd v107 true (fun k_123 => Pu Try.prog (.bin .eql 3) [v110, v112] k_123) fun v113 =>
              Pu Try.prog .pick [v107, v113, (.p (.bool false))] fun v114 =>
              Rt Try.prog H.nx v114 Q
              ) (
              Pu Try.prog (.bin .eql 3) [v97, (.p (.int .i64 3))] fun v116 =>
              CdA v116
                (
                Pu Try.prog (.addOff 0) [v12] fun v117 =>
                RdS Try.prog (.ld 1 false) [v117] fun v118 =>
                Pu Try.prog (.un .not) [v118] fun v119 =>
                Gd v119 true (fun k_130 => Pu Try.prog (.addOff 0) [v13] k_130) fun v121 =>
                Gd v119 true (fun k_132 => RdS Try.prog (.ld 1 false) [v121] k_132) fun v122 =>
                Gd v119 true (fun k_134 => Pu Try.prog (.un .not) [v122] k_134) fun v123 =>
                Pu Try.prog .pick [v119, v123, (.p (.bool false))] fun v124 =>
                Gd v124 true (fun k_137 => Pu Try.prog (.addOff 0) [v8] k_137) fun v126 =>
                Gd v124 true (fun k_139 => RdS Try.prog (.ld 1 false) [v126] k_139) fun v127 =>
                Gd v124 true (fun k_141 => Pu Try.prog (.un .not) [v127] k_141) fun v128 =>
                Pu Try.prog .pick [v124, v128, (.p (.bool false))] fun v129 =>
                Gd v129 true (fun k_144 => Pu Try.prog (.addOff 2) [v12] k_144) fun v131 =>
                Gd v129 true (fun k_146 => RdS Try.prog (.ld 1 false) [v131] k_146) fun v132 =>
                Gd v129 true (fun k_148 => Pu Try.prog (.addOff 1) [v13] k_148) fun v133 =>
                Gd v129 true (fun k_150 => RdS Try.prog (.ld 1 false) [v133] k_150) fun v134 =>
                Gd v129 true (fun k_152 => Pu Try.prog (.bin .eql 3) [v132, v134] k_152) fun v135 =>
                Pu Try.prog .pick [v129, v135, (.p (.bool false))] fun v136 =>
                Gd v136 true (fun k_155 => Pu Try.prog (.addOff 1) [v8] k_155) fun v138 =>
                Gd v136 true (fun k_157 => RdS Try.prog (.ld 1 false) [v138] k_157) fun v139 =>
                Gd v136 true (fun k_159 => Pu Try.prog (.addOff 1) [v12] k_159) fun v140 =>
                Gd v136 true (fun k_161 => RdS Try.prog (.ld 1 false) [v140] k_161) fun v141 =>
                Gd v136 true (fun k_163 => Pu Try.prog (.bin .eql 3) [v139, v141] k_163) fun v142 =>
                Pu Try.prog .pick [v136, v142, (.p (.bool false))] fun v143 =>
                Gd v143 true (fun k_166 => Pu Try.prog (.addOff 2) [v8] k_166) fun v145 =>
                Gd v143 true (fun k_168 => RdS Try.prog (.ld 1 false) [v145] k_168) fun v146 =>
                Gd v143 true (fun k_170 => Pu Try.prog (.addOff 2) [v13] k_170) fun v147 =>
                Gd v143 true (fun k_172 => RdS Try.prog (.ld 1 false) [v147] k_172) fun v148 =>
                Gd v143 true (fun k_174 => Pu Try.prog (.bin .eql 3) [v146, v148] k_174) fun v149 =>
                Pu Try.prog .pick [v143, v149, (.p (.bool false))] fun v150 =>
                Rt Try.prog H.nx v150 Q
                ) (
                Pu Try.prog (.bin .eql 3) [v97, (.p (.int .i64 4))] fun v152 =>
                CdA v152
                  (
                  Pu Try.prog (.addOff 0) [v12] fun v153 =>
                  RdS Try.prog (.ld 1 false) [v153] fun v154 =>
                  Pu Try.prog (.un .not) [v154] fun v155 =>
                  Gd v155 true (fun k_181 => Pu Try.prog (.addOff 0) [v8] k_181) fun v157 =>
                  Gd v155 true (fun k_183 => RdS Try.prog (.ld 1 false) [v157] k_183) fun v158 =>
                  Gd v155 true (fun k_185 => Pu Try.prog (.un .not) [v158] k_185) fun v159 =>
                  Pu Try.prog .pick [v155, v159, (.p (.bool false))] fun v160 =>
                  Gd v160 true (fun k_188 => Pu Try.prog (.addOff 1) [v8] k_188) fun v162 =>
                  Gd v160 true (fun k_190 => RdS Try.prog (.ld 1 false) [v162] k_190) fun v163 =>
                  Gd v160 true (fun k_192 => Pu Try.prog (.addOff 2) [v12] k_192) fun v164 =>
                  Gd v160 true (fun k_194 => RdS Try.prog (.ld 1 false) [v164] k_194) fun v165 =>
                  Gd v160 true (fun k_196 => Pu Try.prog (.un .neg) [v165] k_196) fun v166 =>
                  Gd v160 true (fun k_198 => Pu Try.prog (.bin .eql 3) [v163, v166] k_198) fun v167 =>
                  Pu Try.prog .pick [v160, v167, (.p (.bool false))] fun v168 =>
                  Gd v168 true (fun k_201 => Pu Try.prog (.addOff 2) [v8] k_201) fun v170 =>
                  Gd v168 true (fun k_203 => RdS Try.prog (.ld 1 false) [v170] k_203) fun v171 =>
                  Gd v168 true (fun k_205 => Pu Try.prog (.addOff 1) [v12] k_205) fun v172 =>
                  Gd v168 true (fun k_207 => RdS Try.prog (.ld 1 false) [v172] k_207) fun v173 =>
                  Gd v168 true (fun k_209 => Pu Try.prog (.un .neg) [v173] k_209) fun v174 =>
                  Gd v168 true (fun k_211 => Pu Try.prog (.bin .eql 3) [v171, v174] k_211) fun v175 =>
                  Pu Try.prog .pick [v168, v175, (.p (.bool false))] fun v176 =>
                  Rt Try.prog H.nx v176 Q
                  ) (
                  Pu Try.prog (.bin .eql 3) [v97, (.p (.int .i64 5))] fun v178 =>
                  CdA v178
                    (
                    Pu Try.prog (.addOff 0) [v12] fun v179 =>
                    RdS Try.prog (.ld 1 false) [v179] fun v180 =>
                    Pu Try.prog (.un .not) [v180] fun v181 =>
                    Gd v181 true (fun k_218 => Pu Try.prog (.addOff 2) [v12] k_218) fun v183 =>
                    Gd v181 true (fun k_220 => RdS Try.prog (.ld 1 false) [v183] k_220) fun v184 =>
                    Gd v181 true (fun k_222 => Pu Try.prog (.addOff 1) [v12] k_222) fun v185 =>
                    Gd v181 true (fun k_224 => RdS Try.prog (.ld 1 false) [v185] k_224) fun v186 =>
                    Gd v181 true (fun k_226 => Pu Try.prog (.un .neg) [v186] k_226) fun v187 =>
                    Gd v181 true (fun k_228 => Pu Try.prog (.bin .eql 3) [v184, v187] k_228) fun v188 =>
                    Pu Try.prog .pick [v181, v188, (.p (.bool false))] fun v189 =>
                    Gd v189 true (fun k_231 => Pu Try.prog (.addOff 0) [v8] k_231) fun v191 =>
                    Gd v189 true (fun k_233 => RdS Try.prog (.ld 1 false) [v191] k_233) fun v192 =>
                    Gd v189 true (fun k_235 => Pu Try.prog (.un .not) [v192] k_235) fun v193 =>
                    Pu Try.prog .pick [v189, v193, (.p (.bool false))] fun v194 =>
                    Gd v194 true (fun k_238 => Pu Try.prog (.addOff 1) [v8] k_238) fun v196 =>
                    Gd v194 true (fun k_240 => RdS Try.prog (.ld 1 false) [v196] k_240) fun v197 =>
                    Gd v194 true (fun k_242 => Pu Try.prog (.addOff 1) [v12] k_242) fun v198 =>
                    Gd v194 true (fun k_244 => RdS Try.prog (.ld 1 false) [v198] k_244) fun v199 =>
                    Gd v194 true (fun k_246 => Pu Try.prog (.bin .eql 3) [v197, v199] k_246) fun v200 =>
                    Pu Try.prog .pick [v194, v200, (.p (.bool false))] fun v201 =>
                    Rt Try.prog H.nx v201 Q
                    ) (
                    Pu Try.prog (.bin .eql 3) [v97, (.p (.int .i64 6))] fun v203 =>
                    CdA v203
                      (
                      Pu Try.prog (.addOff 0) [v12] fun v204 =>
                      RdS Try.prog (.ld 1 false) [v204] fun v205 =>
                      Pu Try.prog (.un .not) [v205] fun v206 =>
                      Gd v206 true (fun k_253 => Pu Try.prog (.addOff 1) [v12] k_253) fun v208 =>
                      Gd v206 true (fun k_255 => RdS Try.prog (.ld 1 false) [v208] k_255) fun v209 =>
                      Gd v206 true (fun k_257 => Pu Try.prog (.addOff 2) [v12] k_257) fun v210 =>
                      Gd v206 true (fun k_259 => RdS Try.prog (.ld 1 false) [v210] k_259) fun v211 =>
                      Gd v206 true (fun k_261 => Pu Try.prog (.un .neg) [v211] k_261) fun v212 =>
                      Gd v206 true (fun k_263 => Pu Try.prog (.bin .eql 3) [v209, v212] k_263) fun v213 =>
                      Pu Try.prog .pick [v206, v213, (.p (.bool false))] fun v214 =>
                      Gd v214 true (fun k_266 => Pu Try.prog (.addOff 0) [v8] k_266) fun v216 =>
                      Gd v214 true (fun k_268 => RdS Try.prog (.ld 1 false) [v216] k_268) fun v217 =>
                      Gd v214 true (fun k_270 => Pu Try.prog (.un .not) [v217] k_270) fun v218 =>
                      Pu Try.prog .pick [v214, v218, (.p (.bool false))] fun v219 =>
                      Gd v219 true (fun k_273 => Pu Try.prog (.addOff 2) [v8] k_273) fun v221 =>
                      Gd v219 true (fun k_275 => RdS Try.prog (.ld 1 false) [v221] k_275) fun v222 =>
                      Gd v219 true (fun k_277 => Pu Try.prog (.addOff 2) [v12] k_277) fun v223 =>
                      Gd v219 true (fun k_279 => RdS Try.prog (.ld 1 false) [v223] k_279) fun v224 =>
                      Gd v219 true (fun k_281 => Pu Try.prog (.bin .eql 3) [v222, v224] k_281) fun v225 =>
                      Pu Try.prog .pick [v219, v225, (.p (.bool false))] fun v226 =>
                      Rt Try.prog H.nx v226 Q
                      ) (
                      Pu Try.prog (.bin .eql 3) [v97, (.p (.int .i64 7))] fun v228 =>
                      CdA v228
                        (
                        Pu Try.prog (.addOff 0) [v12] fun v229 =>
                        RdS Try.prog (.ld 1 false) [v229] fun v230 =>
                        Gd v230 true (fun k_287 => Pu Try.prog (.addOff 0) [v8] k_287) fun v232 =>
                        Gd v230 true (fun k_289 => RdS Try.prog (.ld 1 false) [v232] k_289) fun v233 =>
                        Pu Try.prog .pick [v230, v233, (.p (.bool false))] fun v234 =>
                        Gd v234 true (fun k_292 => Pu Try.prog (.addOff 1) [v8] k_292) fun v236 =>
                        Gd v234 true (fun k_294 => RdS Try.prog (.ld 1 false) [v236] k_294) fun v237 =>
                        Gd v234 true (fun k_296 => Pu Try.prog (.addOff 2) [v12] k_296) fun v238 =>
                        Gd v234 true (fun k_298 => RdS Try.prog (.ld 1 false) [v238] k_298) fun v239 =>
                        Gd v234 true (fun k_300 => Pu Try.prog (.bin .eql 3) [v237, v239] k_300) fun v240 =>
                        Pu Try.prog .pick [v234, v240, (.p (.bool false))] fun v241 =>
                        Gd v241 true (fun k_303 => Pu Try.prog (.addOff 2) [v8] k_303) fun v243 =>
                        Gd v241 true (fun k_305 => RdS Try.prog (.ld 1 false) [v243] k_305) fun v244 =>
                        Gd v241 true (fun k_307 => Pu Try.prog (.addOff 1) [v12] k_307) fun v245 =>
                        Gd v241 true (fun k_309 => RdS Try.prog (.ld 1 false) [v245] k_309) fun v246 =>
                        Gd v241 true (fun k_311 => Pu Try.prog (.bin .eql 3) [v244, v246] k_311) fun v247 =>
                        Pu Try.prog .pick [v241, v247, (.p (.bool false))] fun v248 =>
                        Rt Try.prog H.nx v248 Q
                        ) (
                        Pu Try.prog (.bin .eql 3) [v97, (.p (.int .i64 8))] fun v250 =>
                        CdA v250
                          (
                          Pu Try.prog (.addOff 0) [v12] fun v251 =>
                          RdS Try.prog (.ld 1 false) [v251] fun v252 =>
                          Gd v252 true (fun k_317 => Pu Try.prog (.addOff 0) [v8] k_317) fun v254 =>
                          Gd v252 true (fun k_319 => RdS Try.prog (.ld 1 false) [v254] k_319) fun v255 =>
                          Pu Try.prog .pick [v252, v255, (.p (.bool false))] fun v256 =>
                          Gd v256 true (fun k_322 => Pu Try.prog (.addOff 1) [v8] k_322) fun v258 =>
                          Gd v256 true (fun k_324 => RdS Try.prog (.ld 1 false) [v258] k_324) fun v259 =>
                          Gd v256 true (fun k_326 => Pu Try.prog (.addOff 1) [v12] k_326) fun v260 =>
                          Gd v256 true (fun k_328 => RdS Try.prog (.ld 1 false) [v260] k_328) fun v261 =>
                          Gd v256 true (fun k_330 => Pu Try.prog (.bin .eql 3) [v259, v261] k_330) fun v262 =>
                          Pu Try.prog .pick [v256, v262, (.p (.bool false))] fun v263 =>
                          Gd v263 true (fun k_333 => Pu Try.prog (.addOff 2) [v8] k_333) fun v265 =>
                          Gd v263 true (fun k_335 => RdS Try.prog (.ld 1 false) [v265] k_335) fun v266 =>
                          Gd v263 true (fun k_337 => Pu Try.prog (.addOff 1) [v12] k_337) fun v267 =>
                          Gd v263 true (fun k_339 => RdS Try.prog (.ld 1 false) [v267] k_339) fun v268 =>
                          Gd v263 true (fun k_341 => Pu Try.prog (.bin .eql 3) [v266, v268] k_341) fun v269 =>
                          Pu Try.prog .pick [v263, v269, (.p (.bool false))] fun v270 =>
                          Rt Try.prog H.nx v270 Q
                          ) (
                          Pu Try.prog (.bin .eql 3) [v97, (.p (.int .i64 9))] fun v272 =>
                          CdA v272
                            (
                            Pu Try.prog (.addOff 0) [v12] fun v273 =>
                            RdS Try.prog (.ld 1 false) [v273] fun v274 =>
                            Gd v274 true (fun k_347 => Pu Try.prog (.addOff 0) [v13] k_347) fun v276 =>
                            Gd v274 true (fun k_349 => RdS Try.prog (.ld 1 false) [v276] k_349) fun v277 =>
                            Gd v274 true (fun k_351 => Pu Try.prog (.un .not) [v277] k_351) fun v278 =>
                            Pu Try.prog .pick [v274, v278, (.p (.bool false))] fun v279 =>
                            Gd v279 true (fun k_354 => Pu Try.prog (.addOff 0) [v8] k_354) fun v281 =>
                            Gd v279 true (fun k_356 => RdS Try.prog (.ld 1 false) [v281] k_356) fun v282 =>
                            Pu Try.prog .pick [v279, v282, (.p (.bool false))] fun v283 =>
                            Gd v283 true (fun k_359 => Pu Try.prog (.addOff 2) [v12] k_359) fun v285 =>
                            Gd v283 true (fun k_361 => RdS Try.prog (.ld 1 false) [v285] k_361) fun v286 =>
                            Gd v283 true (fun k_363 => Pu Try.prog (.addOff 1) [v13] k_363) fun v287 =>
                            Gd v283 true (fun k_365 => RdS Try.prog (.ld 1 false) [v287] k_365) fun v288 =>
                            Gd v283 true (fun k_367 => Pu Try.prog (.bin .eql 3) [v286, v288] k_367) fun v289 =>
                            Pu Try.prog .pick [v283, v289, (.p (.bool false))] fun v290 =>
                            Gd v290 true (fun k_370 => Pu Try.prog (.addOff 1) [v8] k_370) fun v292 =>
                            Gd v290 true (fun k_372 => RdS Try.prog (.ld 1 false) [v292] k_372) fun v293 =>
                            Gd v290 true (fun k_374 => Pu Try.prog (.addOff 1) [v12] k_374) fun v294 =>
                            Gd v290 true (fun k_376 => RdS Try.prog (.ld 1 false) [v294] k_376) fun v295 =>
                            Gd v290 true (fun k_378 => Pu Try.prog (.bin .eql 3) [v293, v295] k_378) fun v296 =>
                            Pu Try.prog .pick [v290, v296, (.p (.bool false))] fun v297 =>
                            Gd v297 true (fun k_381 => Pu Try.prog (.addOff 2) [v8] k_381) fun v299 =>
                            Gd v297 true (fun k_383 => RdS Try.prog (.ld 1 false) [v299] k_383) fun v300 =>
                            Gd v297 true (fun k_385 => Pu Try.prog (.addOff 2) [v13] k_385) fun v301 =>
                            Gd v297 true (fun k_387 => RdS Try.prog (.ld 1 false) [v301] k_387) fun v302 =>
                            Gd v297 true (fun k_389 => Pu Try.prog (.bin .eql 3) [v300, v302] k_389) fun v303 =>
                            Pu Try.prog .pick [v297, v303, (.p (.bool false))] fun v304 =>
                            Rt Try.prog H.nx v304 Q
                            ) (
                            Pu Try.prog (.addOff 0) [v12] fun v305 =>
                            RdS Try.prog (.ld 1 false) [v305] fun v306 =>
                            Pu Try.prog (.un .not) [v306] fun v307 =>
                            Gd v307 true (fun k_395 => Pu Try.prog (.addOff 0) [v13] k_395) fun v309 =>
                            Gd v307 true (fun k_397 => RdS Try.prog (.ld 1 false) [v309] k_397) fun v310 =>
                            Pu Try.prog .pick [v307, v310, (.p (.bool false))] fun v311 =>
                            Gd v311 true (fun k_400 => Pu Try.prog (.addOff 1) [v13] k_400) fun v313 =>
                            Gd v311 true (fun k_402 => RdS Try.prog (.ld 1 false) [v313] k_402) fun v314 =>
                            Gd v311 true (fun k_404 => Pu Try.prog (.addOff 1) [v12] k_404) fun v315 =>
                            Gd v311 true (fun k_406 => RdS Try.prog (.ld 1 false) [v315] k_406) fun v316 =>
                            Gd v311 true (fun k_408 => Pu Try.prog (.bin .eql 3) [v314, v316] k_408) fun v317 =>
                            Pu Try.prog .pick [v311, v317, (.p (.bool false))] fun v318 =>
                            Gd v318 true (fun k_411 => Pu Try.prog (.addOff 2) [v13] k_411) fun v320 =>
                            Gd v318 true (fun k_413 => RdS Try.prog (.ld 1 false) [v320] k_413) fun v321 =>
                            Gd v318 true (fun k_415 => Pu Try.prog (.addOff 2) [v12] k_415) fun v322 =>
                            Gd v318 true (fun k_417 => RdS Try.prog (.ld 1 false) [v322] k_417) fun v323 =>
                            Gd v318 true (fun k_419 => Pu Try.prog (.un .neg) [v323] k_419) fun v324 =>
                            Gd v318 true (fun k_421 => Pu Try.prog (.bin .eql 3) [v321, v324] k_421) fun v325 =>
                            Pu Try.prog .pick [v318, v325, (.p (.bool false))] fun v326 =>
                            Rt Try.prog H.nx v326 Q
                            )
                          )
                        )
                      )
                    )
                  )
                )
              )
            )
          )
        )
      ) [(.p (.slice none 0 0)), (.p (.int .i64 0))]
    ) H
theorem eq_wordhoardref_SoundLine (a0 a1 a2 : AV) (Q : AV → AH → Prop) (H : AH) : FnA Try.prog 327 (regsF Try.f15) ac_wordhoardref_SoundLine [.tm 6] [a0, a1, a2] H Q = S_wordhoardref_SoundLine a0 a1 a2 Q H := by kernel_rfl
theorem tri_wordhoardref_SoundLine {a0 a1 a2 : AV} {H : AH} {Q : AV → AH → Prop} (h : S_wordhoardref_SoundLine a0 a1 a2 Q H) : Tri Try.prog 15 [a0, a1, a2] H Q :=
  tri_of (Ms := [#[], #[], #[], #[], #[], #[], #[], #[], #[], #[], #[], #[], #[], #[], #[], #[], #[], #[], #[], #[], #[], #[], #[], #[], #[], #[], #[], #[], #[], #[], #[], #[], #[], #[], #[], #[], #[], #[], #[], #[], #[], #[]]) mixed Try.func15 rfl (by kernel_rfl) (by kernel_rfl) rfl (of_decide_eq_true rfl : 3 ≤ 327) ((eq_wordhoardref_SoundLine a0 a1 a2 Q H).symm ▸ h : FnA Try.prog 327 (regsF Try.f15) ac_wordhoardref_SoundLine [.tm 6] [a0, a1, a2] H Q)

/-! wordhoard/wordhoardref.Follows -/
def ac_wordhoardref_Follows : AC := (.seq (.reg 0) (.seq (.reg 1) (.seq (.seq (.reg 2) (.block 0 (.loop [5, 6] [(7, 9), (14, 46)] (.seq (.seq (.reg 3) (.cond (.tmp 15) .skip (.exit 0))) (.seq (.block 1 (.seq (.reg 4) (.seq (.seq (.reg 5) (.block 2 (.loop [7, 8] [(18, 41)] (.seq (.seq (.reg 6) (.cond (.tmp 21) .skip (.exit 2))) (.seq (.block 3 (.reg 7)) (.reg 8)))))) (.seq (.reg 9) (.cond (.tmp 41) (.reg 10) .skip))))) (.reg 11)))))) (.seq (.reg 12) (.seq (.seq (.reg 13) (.block 4 (.loop [9, 10] [(4, 5), (11, 14), (46, 89)] (.seq (.seq (.reg 14) (.cond (.tmp 49) .skip (.exit 4))) (.seq (.block 5 (.seq (.seq (.reg 15) (.cond (.tmp 57) (.exit 5) .skip)) (.seq (.reg 16) (.seq (.seq (.reg 17) (.block 6 (.loop [11, 12, 13] [(58, 84)] (.seq (.seq (.reg 18) (.cond (.tmp 61) .skip (.exit 6))) (.seq (.block 7 (.seq (.reg 19) (.cond (.tmp 73) (.seq (.reg 20) (.reg 21)) .skip))) (.reg 22)))))) (.seq (.seq (.reg 23) (.cond (.tmp 84) (.seq (.reg 24) .ret) .skip)) (.reg 25)))))) (.reg 26)))))) (.seq (.seq (.reg 27) (.cond (.tmp 90) (.seq (.reg 28) .ret) .skip)) (.seq (.reg 29) .ret)))))))
def S_wordhoardref_Follows (a0 a1 : AV) (Q : AV → AH → Prop) (H : AH) : Prop := (
    Rg 2 fun b =>
    Al (b + 0) (.bx 24) [a1] fun v3 =>
    LoopA Try.prog 2 (fun vs k =>
      Pu Try.prog (.bin .lss 3) [(vs.getD 1 .any), (.p (.int .i64 64))] fun v15 =>
      CdA v15
        (
        LoopA Try.prog 2 (fun vs_7 k_6 =>
          Pu Try.prog .len [a0] fun v20 =>
          Pu Try.prog (.bin .lss 3) [(vs_7.getD 1 .any), v20] fun v21 =>
          CdA v21
            (
            Rg 18 fun b_10 =>
            Gd (vs_7.getD 0 .any) true (fun k_12 => k_12 a0) fun v26 =>
            Gd (vs_7.getD 0 .any) true (fun k_14 => k_14 (vs_7.getD 1 .any)) fun v27 =>
            Gd (vs_7.getD 0 .any) true (fun k_16 => Pu Try.prog (.idx 3) [v26, v27] k_16) fun v28 =>
            Gd (vs_7.getD 0 .any) true (fun k_18 => Pu Try.prog (.addOff 0) [v28] k_18) fun v29 =>
            Gd (vs_7.getD 0 .any) true (fun k_20 => RdS Try.prog (.ld 1 false) [v29] k_20) fun v30 =>
            Gd (vs_7.getD 0 .any) true (fun k_22 => k_22 v30) fun v31 =>
            Gd v31 false (fun k_24 => k_24 (vs.getD 1 .any)) fun v32 =>
            Gd v31 false (fun k_26 => Al (b_10 + 9) (.bs 3 1 1 [.p (.int .i64 0)] [(0, 1)]) [v32] k_26) fun v33 =>
            Gd v31 false (fun k_28 => k_28 a0) fun v34 =>
            Gd v31 false (fun k_30 => k_30 (vs_7.getD 1 .any)) fun v35 =>
            Gd v31 false (fun k_32 => Pu Try.prog (.idx 3) [v34, v35] k_32) fun v36 =>
            Gd v31 false (fun k_34 => RdS Try.prog (.ld 3 true) [v36] k_34) fun v37 =>
            Gd v31 false (fun k_36 => Ca Try.prog (.fn (.func 12) [] []) [v33, v37] k_36) fun v38 =>
            Gd (vs_7.getD 0 .any) true (fun k_38 => Pu Try.prog .pick [v31, (.p (.bool true)), v38] k_38) fun v39 =>
            Pu Try.prog .pick [(vs_7.getD 0 .any), v39, (.p (.bool false))] fun v40 =>
            Pu Try.prog (.bin .add 3) [(vs_7.getD 1 .any), (.p (.int .i64 1))] fun v23 =>
            k_6 [v40, v23]
            ) (
            CdA (vs_7.getD 0 .any)
              (
              Rg 5 fun b_41 =>
              Al (b_41 + 2) (.bs 3 1 1 [.p (.int .i64 0)] [(0, 1)]) [(vs.getD 1 .any)] fun v44 =>
              WrS Try.prog (b_41 + 3) (.app 3 1 8) [(vs.getD 0 .any), v44] fun v45 =>
              Pu Try.prog (.bin .add 3) [(vs.getD 1 .any), (.p (.int .i64 1))] fun v17 =>
              k [v45, v17]
              ) (
              Pu Try.prog (.bin .add 3) [(vs.getD 1 .any), (.p (.int .i64 1))] fun v17_45 =>
              k [(vs.getD 0 .any), v17_45]
              )
            )
          ) [(.p (.bool true)), (.p (.int .i64 0))]
        ) (
        LoopA Try.prog 2 (fun vs_47 k_46 =>
          Pu Try.prog .len [a0] fun v48 =>
          Pu Try.prog (.bin .lss 3) [(vs_47.getD 1 .any), v48] fun v49 =>
          CdA v49
            (
            Pu Try.prog (.idx 3) [a0, (vs_47.getD 1 .any)] fun v54 =>
            Pu Try.prog (.addOff 0) [v54] fun v55 =>
            RdS Try.prog (.ld 1 false) [v55] fun v56 =>
            Pu Try.prog (.un .not) [v56] fun v57 =>
            CdA v57
              (
              Pu Try.prog (.bin .add 3) [(vs_47.getD 1 .any), (.p (.int .i64 1))] fun v51 =>
              k_46 [(vs_47.getD 0 .any), v51]
              ) (
              LoopA Try.prog 3 (fun vs_56 k_55 =>
                Pu Try.prog .len [(vs.getD 0 .any)] fun v60 =>
                Pu Try.prog (.bin .lss 3) [(vs_56.getD 2 .any), v60] fun v61 =>
                CdA v61
                  (
                  Vw fun V =>
                  Pu Try.prog (.bin .add 3) [(vs_56.getD 2 .any), (.p (.int .i64 1))] fun v67 =>
                  Pu Try.prog (.slc 1 true true) [(vs.getD 0 .any), (vs_56.getD 2 .any), v67] fun v68 =>
                  Pu Try.prog (.idx 3) [a0, (vs_47.getD 1 .any)] fun v71 =>
                  Rd Try.prog V (.ld 3 true) [v71] fun v72 =>
                  CaV Try.prog V (.fn (.func 12) [] []) [v68, v72] fun v73 =>
                  CdA v73
                    (
                    Vw fun V_65 =>
                    GdV (vs_56.getD 1 .any) true (fun k_67 => k_67 (vs.getD 0 .any) V_65) V_65 fun v76 V_68 =>
                    GdV (vs_56.getD 1 .any) true (fun k_70 => k_70 (vs_56.getD 2 .any) V_68) V_68 fun v77 V_71 =>
                    GdV (vs_56.getD 1 .any) true (fun k_73 => k_73 (vs_56.getD 2 .any) V_71) V_71 fun v78 V_74 =>
                    GdV (vs_56.getD 1 .any) true (fun k_76 => Pu Try.prog (.bin .add 3) [v78, (.p (.int .i64 1))] (fun a => k_76 a V_74)) V_74 fun v79 V_77 =>
                    GdV (vs_56.getD 1 .any) true (fun k_79 => Pu Try.prog (.slc 1 true true) [v76, v77, v79] (fun a => k_79 a V_77)) V_77 fun v80 V_80 =>
                    GdV (vs_56.getD 1 .any) true (fun k_82 => Rd Try.prog V_80 (.ld 3 true) [v3] (fun a => k_82 a V_80)) V_80 fun v81 V_83 =>
                    GdV (vs_56.getD 1 .any) true (fun k_85 => CaV Try.prog V_83 (.fn (.func 12) [] []) [v80, v81] (fun a => k_85 a V_83)) V_83 fun v82 V_86 =>
                    Pu Try.prog .pick [(vs_56.getD 1 .any), v82, (.p (.bool false))] fun v83 =>
                    Pu Try.prog (.bin .add 3) [(vs_56.getD 2 .any), (.p (.int .i64 1))] fun v63 =>
                    k_55 [(.p (.bool false)), v83, v63]
                    ) (
                    Pu Try.prog (.bin .add 3) [(vs_56.getD 2 .any), (.p (.int .i64 1))] fun v63_89 =>
                    k_55 [(vs_56.getD 0 .any), (vs_56.getD 1 .any), v63_89]
                    )
                  ) (
                  CdA (vs_56.getD 0 .any)
                    (
                    Rt Try.prog H.nx (.p (.bool true)) Q
                    ) (
                    Gd (vs_47.getD 0 .any) false (fun k_91 => k_91 (vs_56.getD 1 .any)) fun v87 =>
                    Pu Try.prog .pick [(vs_47.getD 0 .any), (.p (.bool true)), v87] fun v88 =>
                    Pu Try.prog (.bin .add 3) [(vs_47.getD 1 .any), (.p (.int .i64 1))] fun v51_93 =>
                    k_46 [v88, v51_93]
                    )
                  )
                ) [(.p (.bool true)), (.p (.bool true)), (.p (.int .i64 0))]
              )
            ) (
            Pu Try.prog (.addOff 0) [v3] fun v89 =>
            RdS Try.prog (.ld 1 false) [v89] fun v90 =>
            CdA v90
              (
              Rt Try.prog H.nx (vs_47.getD 0 .any) Q
              ) (
              RdS Try.prog (.ld 3 true) [v3] fun v93 =>
              Ca Try.prog (.fn (.func 12) [] []) [(vs.getD 0 .any), v93] fun v94 =>
              Rt Try.prog H.nx v94 Q
              )
            )
          ) [(.p (.bool false)), (.p (.int .i64 0))]
        )
      ) [(.p (.slice none 0 0)), (.p (.int .i64 0))]
    ) H
theorem eq_wordhoardref_Follows (a0 a1 : AV) (Q : AV → AH → Prop) (H : AH) : FnA Try.prog 95 (regsF Try.f18) ac_wordhoardref_Follows [.tm 4] [a0, a1] H Q = S_wordhoardref_Follows a0 a1 Q H := by kernel_rfl
theorem tri_wordhoardref_Follows {a0 a1 : AV} {H : AH} {Q : AV → AH → Prop} (h : S_wordhoardref_Follows a0 a1 Q H) : Tri Try.prog 18 [a0, a1] H Q :=
  tri_of (Ms := [#[], #[], #[], #[], #[], #[], #[], #[], #[], #[], #[], #[], #[], #[], #[], #[], #[], #[], #[], #[0, 0, 0, 4, 15, 0, 0, 96, 224, 511], #[], #[0, 1, 3, 3, 3, 19, 63, 3, 255, 511, 1023], #[], #[], #[], #[], #[], #[], #[], #[]]) mixed Try.func18 rfl (by kernel_rfl) (by kernel_rfl) rfl (of_decide_eq_true rfl : 2 ≤ 95) ((eq_wordhoardref_Follows a0 a1 Q H).symm ▸ h : FnA Try.prog 95 (regsF Try.f18) ac_wordhoardref_Follows [.tm 4] [a0, a1] H Q)
end Go.Proofs.Ytcmnjoepadjioaa
