/- Texts that the proof rests on, part 15: what each holds stands at its head. -/
import Derived.Test.YtgkkilbeingleaaMt14

/- Abstract walks of functions, written by a program (wip/aw/aw.py): each equation is checked by the kernel. -/
namespace Go.Proofs.Ytgkkilbeingleaa
open Go.RowKit

/-! wordhoard/wordhoardref.CheckMachine -/
def ac_wordhoardref_CheckMachine : AC := (.seq (.reg 0) (.seq (.seq (.reg 1) (.cond (.tmp 30) (.seq (.reg 2) .ret) .skip)) (.seq (.seq (.reg 3) (.block 0 (.loop [3] [(2, 3), (4, 5), (31, 95)] (.seq (.seq (.reg 4) (.cond (.tmp 35) .skip (.exit 0))) (.seq (.block 1 (.seq (.reg 5) (.seq (.reg 6) (.cond (.tmp 94) (.seq (.reg 7) .ret) .skip)))) (.reg 8)))))) (.seq (.seq (.reg 9) (.block 2 (.loop [5] [(2, 3), (6, 7), (95, 127)] (.seq (.seq (.reg 10) (.cond (.tmp 99) .skip (.exit 2))) (.seq (.block 3 (.seq (.reg 11) (.seq (.reg 12) (.cond (.tmp 126) (.seq (.reg 13) .ret) .skip)))) (.reg 14)))))) (.seq (.reg 15) (.seq (.seq (.reg 16) (.block 4 (.loop [8] [(2, 3), (130, 154)] (.seq (.seq (.reg 17) (.cond (.tmp 134) .skip (.exit 4))) (.seq (.block 5 (.seq (.seq (.reg 18) (.cond (.tmp 145) (.seq (.reg 19) .ret) .skip)) (.reg 20))) (.reg 21)))))) (.seq (.reg 22) .ret)))))))
def S_wordhoardref_CheckMachine_C1 (Q : AV → AH → Prop) (H : AH) (v1 : AV) (k_35 : List AV → AH → Prop) (vs : List AV) : AH → Prop :=
  Rg 7 fun b_41 =>
  Pu Try.prog (.addOff 1) [v1] fun v38 =>
  RdS Try.prog (.ld 1 false) [v38] fun v39 =>
  Pu Try.prog (.idx 5) [v39, (vs.getD 0 .any)] fun v41 =>
  RdS Try.prog (.ld 5 true) [v41] fun v42 =>
  Al (b_41 + 5) (.nw 53 [.p (.int .i64 0), .p (.int .i64 0), .p (.int .i64 0), .p (.int .i64 0), .p (.int .i64 0)]) [] fun v4 =>
  WrS Try.prog (b_41 + 6) (.st 5) [v4, v42] fun _ =>
  Pu Try.prog (.addOff 0) [v4] fun v43 =>
  RdS Try.prog (.ld 1 false) [v43] fun v44 =>
  Pu Try.prog (.bin .lss 3) [v44, (.p (.int .i64 0))] fun v45 =>
  Gd v45 false (fun k_52 => Pu Try.prog (.addOff 0) [v4] k_52) fun v47 =>
  Gd v45 false (fun k_54 => RdS Try.prog (.ld 1 false) [v47] k_54) fun v48 =>
  Gd v45 false (fun k_56 => Pu Try.prog (.addOff 0) [v1] k_56) fun v49 =>
  Gd v45 false (fun k_58 => RdS Try.prog (.ld 1 false) [v49] k_58) fun v50 =>
  Gd v45 false (fun k_60 => Pu Try.prog (.bin .geq 3) [v48, v50] k_60) fun v51 =>
  Pu Try.prog .pick [v45, (.p (.bool true)), v51] fun v52 =>
  Gd v52 false (fun k_63 => Pu Try.prog (.addOff 1) [v4] k_63) fun v54 =>
  Gd v52 false (fun k_65 => RdS Try.prog (.ld 1 false) [v54] k_65) fun v55 =>
  Gd v52 false (fun k_67 => Pu Try.prog (.bin .lss 3) [v55, (.p (.int .i64 0))] k_67) fun v56 =>
  Pu Try.prog .pick [v52, (.p (.bool true)), v56] fun v57 =>
  Gd v57 false (fun k_70 => Pu Try.prog (.addOff 1) [v4] k_70) fun v59 =>
  Gd v57 false (fun k_72 => RdS Try.prog (.ld 1 false) [v59] k_72) fun v60 =>
  Gd v57 false (fun k_74 => Pu Try.prog (.addOff 0) [v1] k_74) fun v61 =>
  Gd v57 false (fun k_76 => RdS Try.prog (.ld 1 false) [v61] k_76) fun v62 =>
  Gd v57 false (fun k_78 => Pu Try.prog (.bin .geq 3) [v60, v62] k_78) fun v63 =>
  Pu Try.prog .pick [v57, (.p (.bool true)), v63] fun v64 =>
  Gd v64 false (fun k_81 => Pu Try.prog (.addOff 2) [v4] k_81) fun v66 =>
  Gd v64 false (fun k_83 => RdS Try.prog (.ld 1 false) [v66] k_83) fun v67 =>
  Gd v64 false (fun k_85 => Pu Try.prog (.bin .lss 3) [v67, (.p (.int .i64 0))] k_85) fun v68 =>
  Pu Try.prog .pick [v64, (.p (.bool true)), v68] fun v69 =>
  Gd v69 false (fun k_88 => Pu Try.prog (.addOff 2) [v4] k_88) fun v71 =>
  Gd v69 false (fun k_90 => RdS Try.prog (.ld 1 false) [v71] k_90) fun v72 =>
  Gd v69 false (fun k_92 => Pu Try.prog (.bin .gtr 3) [v72, (.p (.int .i64 60))] k_92) fun v73 =>
  Pu Try.prog .pick [v69, (.p (.bool true)), v73] fun v74 =>
  Gd v74 false (fun k_95 => Pu Try.prog (.addOff 3) [v4] k_95) fun v76 =>
  Gd v74 false (fun k_97 => RdS Try.prog (.ld 1 false) [v76] k_97) fun v77 =>
  Gd v74 false (fun k_99 => Pu Try.prog (.bin .lss 3) [v77, (.p (.int .i64 0))] k_99) fun v78 =>
  Pu Try.prog .pick [v74, (.p (.bool true)), v78] fun v79 =>
  Gd v79 false (fun k_102 => Pu Try.prog (.addOff 3) [v4] k_102) fun v81 =>
  Gd v79 false (fun k_104 => RdS Try.prog (.ld 1 false) [v81] k_104) fun v82 =>
  Gd v79 false (fun k_106 => Pu Try.prog (.bin .gtr 3) [v82, (.p (.int .i64 60))] k_106) fun v83 =>
  Pu Try.prog .pick [v79, (.p (.bool true)), v83] fun v84 =>
  Gd v84 false (fun k_109 => Pu Try.prog (.addOff 4) [v4] k_109) fun v86 =>
  Gd v84 false (fun k_111 => RdS Try.prog (.ld 1 false) [v86] k_111) fun v87 =>
  Gd v84 false (fun k_113 => Pu Try.prog (.bin .lss 3) [v87, (.p (.int .i64 0))] k_113) fun v88 =>
  Pu Try.prog .pick [v84, (.p (.bool true)), v88] fun v89 =>
  Gd v89 false (fun k_116 => Pu Try.prog (.addOff 4) [v4] k_116) fun v91 =>
  Gd v89 false (fun k_118 => RdS Try.prog (.ld 1 false) [v91] k_118) fun v92 =>
  Gd v89 false (fun k_120 => Pu Try.prog (.bin .gtr 3) [v92, (.p (.int .i64 1000000))] k_120) fun v93 =>
  Pu Try.prog .pick [v89, (.p (.bool true)), v93] fun v94 =>
  CdA v94
    (
    Rt Try.prog H.nx (.p (.int .i64 3)) Q
    ) (
    Pu Try.prog (.bin .add 3) [(vs.getD 0 .any), (.p (.int .i64 1))] fun v37 =>
    k_35 [v37]
    )
def S_wordhoardref_CheckMachine_C2 (Q : AV → AH → Prop) (H : AH) (v1 : AV) (k_123 : List AV → AH → Prop) (vs_124 : List AV) : AH → Prop :=
  Rg 7 fun b_129 =>
  Pu Try.prog (.addOff 2) [v1] fun v102 =>
  RdS Try.prog (.ld 1 false) [v102] fun v103 =>
  Pu Try.prog (.idx 2) [v103, (vs_124.getD 0 .any)] fun v105 =>
  RdS Try.prog (.ld 2 true) [v105] fun v106 =>
  Al (b_129 + 5) (.nw 56 [.p (.int .i64 0), .p (.int .i64 0)]) [] fun v6 =>
  WrS Try.prog (b_129 + 6) (.st 2) [v6, v106] fun _ =>
  Pu Try.prog (.addOff 0) [v6] fun v107 =>
  RdS Try.prog (.ld 1 false) [v107] fun v108 =>
  Pu Try.prog (.bin .lss 3) [v108, (.p (.int .i64 0))] fun v109 =>
  Gd v109 false (fun k_140 => Pu Try.prog (.addOff 0) [v6] k_140) fun v111 =>
  Gd v109 false (fun k_142 => RdS Try.prog (.ld 1 false) [v111] k_142) fun v112 =>
  Gd v109 false (fun k_144 => Pu Try.prog (.addOff 0) [v1] k_144) fun v113 =>
  Gd v109 false (fun k_146 => RdS Try.prog (.ld 1 false) [v113] k_146) fun v114 =>
  Gd v109 false (fun k_148 => Pu Try.prog (.bin .geq 3) [v112, v114] k_148) fun v115 =>
  Pu Try.prog .pick [v109, (.p (.bool true)), v115] fun v116 =>
  Gd v116 false (fun k_151 => Pu Try.prog (.addOff 1) [v6] k_151) fun v118 =>
  Gd v116 false (fun k_153 => RdS Try.prog (.ld 1 false) [v118] k_153) fun v119 =>
  Gd v116 false (fun k_155 => Pu Try.prog (.bin .lss 3) [v119, (.p (.int .i64 0))] k_155) fun v120 =>
  Pu Try.prog .pick [v116, (.p (.bool true)), v120] fun v121 =>
  Gd v121 false (fun k_158 => Pu Try.prog (.addOff 1) [v6] k_158) fun v123 =>
  Gd v121 false (fun k_160 => RdS Try.prog (.ld 1 false) [v123] k_160) fun v124 =>
  Gd v121 false (fun k_162 => Pu Try.prog (.bin .gtr 3) [v124, (.p (.int .i64 1000000))] k_162) fun v125 =>
  Pu Try.prog .pick [v121, (.p (.bool true)), v125] fun v126 =>
  CdA v126
    (
    Rt Try.prog H.nx (.p (.int .i64 3)) Q
    ) (
    Pu Try.prog (.bin .add 3) [(vs_124.getD 0 .any), (.p (.int .i64 1))] fun v101 =>
    k_123 [v101]
    )
def S_wordhoardref_CheckMachine_L3 (Q : AV → AH → Prop) (H : AH) (v1 : AV) (v129 : AV) (vs_170 : List AV) (k_169 : List AV → AH → Prop) : AH → Prop :=
  Pu Try.prog (.addOff 2) [v1] fun v131 =>
  RdS Try.prog (.ld 1 false) [v131] fun v132 =>
  Pu Try.prog .len [v132] fun v133 =>
  Pu Try.prog (.bin .lss 3) [(vs_170.getD 0 .any), v133] fun v134 =>
  CdA v134
    (
    Pu Try.prog (.addOff 2) [v1] fun v138 =>
    RdS Try.prog (.ld 1 false) [v138] fun v139 =>
    Pu Try.prog (.idx 2) [v139, (vs_170.getD 0 .any)] fun v141 =>
    Pu Try.prog (.addOff 0) [v141] fun v142 =>
    RdS Try.prog (.ld 1 false) [v142] fun v143 =>
    Pu Try.prog (.idx 1) [v129, v143] fun v144 =>
    RdS Try.prog (.ld 1 false) [v144] fun v145 =>
    CdA v145
      (
      Rt Try.prog H.nx (.p (.int .i64 6)) Q
      ) (
      Rg 9 fun b_182 =>
      Pu Try.prog (.addOff 2) [v1] fun v147 =>
      RdS Try.prog (.ld 1 false) [v147] fun v148 =>
      Pu Try.prog (.idx 2) [v148, (vs_170.getD 0 .any)] fun v150 =>
      Pu Try.prog (.addOff 0) [v150] fun v151 =>
      RdS Try.prog (.ld 1 false) [v151] fun v152 =>
      Pu Try.prog (.idx 1) [v129, v152] fun v153 =>
      WrS Try.prog (b_182 + 8) (.st 1) [v153, (.p (.bool true))] fun _ =>
      Pu Try.prog (.bin .add 3) [(vs_170.getD 0 .any), (.p (.int .i64 1))] fun v136 =>
      k_169 [v136]
      )
    ) (
    Rt Try.prog H.nx (.p (.int .i64 0)) Q
    )
def S_wordhoardref_CheckMachine_L4 (Q : AV → AH → Prop) (H : AH) (v1 : AV) (vs_124 : List AV) (k_123 : List AV → AH → Prop) : AH → Prop :=
  Pu Try.prog (.addOff 2) [v1] fun v96 =>
  RdS Try.prog (.ld 1 false) [v96] fun v97 =>
  Pu Try.prog .len [v97] fun v98 =>
  Pu Try.prog (.bin .lss 3) [(vs_124.getD 0 .any), v98] fun v99 =>
  CdA v99
    (S_wordhoardref_CheckMachine_C2 Q H v1 k_123 vs_124) (
    Rg 4 fun b_165 =>
    Pu Try.prog (.addOff 0) [v1] fun v127 =>
    RdS Try.prog (.ld 1 false) [v127] fun v128 =>
    Al (b_165 + 2) (.ms 4 1 1 [.p (.bool false)]) [v128, v128] fun v129 =>
    LoopA Try.prog 1 (S_wordhoardref_CheckMachine_L3 Q H v1 v129) [(.p (.int .i64 0))]
    )
def S_wordhoardref_CheckMachine_L5 (Q : AV → AH → Prop) (H : AH) (v1 : AV) (vs : List AV) (k_35 : List AV → AH → Prop) : AH → Prop :=
  Pu Try.prog (.addOff 1) [v1] fun v32 =>
  RdS Try.prog (.ld 1 false) [v32] fun v33 =>
  Pu Try.prog .len [v33] fun v34 =>
  Pu Try.prog (.bin .lss 3) [(vs.getD 0 .any), v34] fun v35 =>
  CdA v35
    (S_wordhoardref_CheckMachine_C1 Q H v1 k_35 vs) (
    LoopA Try.prog 1 (S_wordhoardref_CheckMachine_L4 Q H v1) [(.p (.int .i64 0))]
    )
def S_wordhoardref_CheckMachine (a0 : AV) (Q : AV → AH → Prop) (H : AH) : Prop := (
    Rg 2 fun b =>
    Al (b + 0) (.bx 25) [a0] fun v1 =>
    Pu Try.prog (.addOff 0) [v1] fun v9 =>
    RdS Try.prog (.ld 1 false) [v9] fun v10 =>
    Pu Try.prog (.bin .lss 3) [v10, (.p (.int .i64 1))] fun v11 =>
    Gd v11 false (fun k => Pu Try.prog (.addOff 0) [v1] k) fun v13 =>
    Gd v11 false (fun k_9 => RdS Try.prog (.ld 1 false) [v13] k_9) fun v14 =>
    Gd v11 false (fun k_11 => Pu Try.prog (.bin .gtr 3) [v14, (.p (.int .i64 3000))] k_11) fun v15 =>
    Pu Try.prog .pick [v11, (.p (.bool true)), v15] fun v16 =>
    Gd v16 false (fun k_14 => Pu Try.prog (.addOff 1) [v1] k_14) fun v18 =>
    Gd v16 false (fun k_16 => RdS Try.prog (.ld 1 false) [v18] k_16) fun v19 =>
    Gd v16 false (fun k_18 => Pu Try.prog .len [v19] k_18) fun v20 =>
    Gd v16 false (fun k_20 => Pu Try.prog (.bin .gtr 3) [v20, (.p (.int .i64 20000))] k_20) fun v21 =>
    Pu Try.prog .pick [v16, (.p (.bool true)), v21] fun v22 =>
    Gd v22 false (fun k_23 => Pu Try.prog (.addOff 2) [v1] k_23) fun v24 =>
    Gd v22 false (fun k_25 => RdS Try.prog (.ld 1 false) [v24] k_25) fun v25 =>
    Gd v22 false (fun k_27 => Pu Try.prog .len [v25] k_27) fun v26 =>
    Gd v22 false (fun k_29 => Pu Try.prog (.addOff 0) [v1] k_29) fun v27 =>
    Gd v22 false (fun k_31 => RdS Try.prog (.ld 1 false) [v27] k_31) fun v28 =>
    Gd v22 false (fun k_33 => Pu Try.prog (.bin .gtr 3) [v26, v28] k_33) fun v29 =>
    Pu Try.prog .pick [v22, (.p (.bool true)), v29] fun v30 =>
    CdA v30
      (
      Rt Try.prog H.nx (.p (.int .i64 7)) Q
      ) (
      LoopA Try.prog 1 (S_wordhoardref_CheckMachine_L5 Q H v1) [(.p (.int .i64 0))]
      )
    ) H
theorem eq_wordhoardref_CheckMachine (a0 : AV) (Q : AV → AH → Prop) (H : AH) : FnA Try.prog 154 (regsF Try.f9) ac_wordhoardref_CheckMachine [.tm 2] [a0] H Q = S_wordhoardref_CheckMachine a0 Q H := by kernel_rfl
theorem tri_wordhoardref_CheckMachine {a0 : AV} {H : AH} {Q : AV → AH → Prop} (h : S_wordhoardref_CheckMachine a0 Q H) : Tri Try.prog 9 [a0] H Q :=
  tri_of (Ms := [#[], #[], #[], #[], #[], #[], #[], #[], #[], #[], #[], #[], #[], #[], #[], #[], #[], #[], #[], #[], #[], #[], #[]]) mixed Try.func9 rfl (by kernel_rfl) (by kernel_rfl) rfl (of_decide_eq_true rfl : 1 ≤ 154) (by rw [eq_wordhoardref_CheckMachine a0 Q H]; exact h : FnA Try.prog 154 (regsF Try.f9) ac_wordhoardref_CheckMachine [.tm 2] [a0] H Q)

/-! wordhoard/wordhoardref.ThroughCost -/
def ac_wordhoardref_ThroughCost : AC := (.seq (.reg 0) (.seq (.reg 1) (.seq (.reg 2) (.seq (.seq (.reg 3) (.block 0 (.loop [12] [(55, 64)] (.seq (.seq (.reg 4) (.cond (.tmp 58) .skip (.exit 0))) (.seq (.block 1 (.reg 5)) (.reg 6)))))) (.seq (.reg 7) (.seq (.reg 8) (.seq (.reg 9) (.seq (.reg 10) (.seq (.seq (.reg 11) (.block 2 (.loop [16] [(17, 33), (68, 276)] (.seq (.seq (.reg 12) (.cond (.tmp 68) .skip (.exit 2))) (.seq (.block 3 (.seq (.reg 13) (.seq (.reg 14) (.block 4 (.loop [17] [(18, 33), (70, 276)] (.seq (.seq (.reg 15) (.cond (.tmp 72) .skip (.exit 4))) (.seq (.block 5 (.seq (.reg 16) (.block 6 (.loop [18] [(19, 33), (75, 276)] (.seq (.seq (.reg 17) (.cond (.tmp 77) .skip (.exit 6))) (.seq (.block 7 (.seq (.seq (.reg 18) (.block 8 (.loop [19] [(20, 28), (80, 211)] (.seq (.seq (.reg 19) (.cond (.tmp 84) .skip (.exit 8))) (.seq (.block 9 (.seq (.reg 20) (.seq (.reg 21) (.cut [21] [(93, 111)] (.seq (.reg 22) (.cond (.tmp 95) (.seq (.seq (.reg 23) (.cond (.tmp 108) (.exit 9) .skip)) (.reg 24)) .skip)) (.seq (.seq (.reg 25) (.cond (.tmp 113) (.seq (.seq (.reg 26) (.block 10 (.loop [22] [(23, 24), (114, 145)] (.seq (.seq (.reg 27) (.cond (.tmp 117) .skip (.exit 10))) (.seq (.block 11 (.seq (.reg 28) (.seq (.reg 29) (.cond (.tmp 131) (.reg 30) .skip)))) (.reg 31)))))) (.exit 9)) .skip)) (.seq (.reg 32) (.block 12 (.loop [24] [(25, 28), (145, 211)] (.seq (.seq (.reg 33) (.cond (.tmp 149) .skip (.exit 12))) (.seq (.block 13 (.seq (.reg 34) (.seq (.reg 35) (.seq (.seq (.reg 36) (.cond (.tmp 162) (.exit 13) .skip)) (.cut [26] [(163, 181)] (.seq (.reg 37) (.cond (.tmp 165) (.seq (.seq (.reg 38) (.cond (.tmp 178) (.exit 13) .skip)) (.reg 39)) .skip)) (.seq (.reg 40) (.seq (.reg 41) (.cond (.tmp 193) (.reg 42) .skip)))))))) (.reg 43))))))))))) (.reg 44)))))) (.seq (.reg 45) (.block 14 (.loop [28] [(29, 33), (211, 276)] (.seq (.seq (.reg 46) (.cond (.tmp 215) .skip (.exit 14))) (.seq (.block 15 (.seq (.reg 47) (.seq (.reg 48) (.seq (.seq (.reg 49) (.cond (.tmp 226) (.exit 15) .skip)) (.cut [30] [(227, 245)] (.seq (.reg 50) (.cond (.tmp 229) (.seq (.seq (.reg 51) (.cond (.tmp 242) (.exit 15) .skip)) (.reg 52)) .skip)) (.seq (.reg 53) (.block 16 (.loop [31] [(32, 33), (245, 276)] (.seq (.seq (.reg 54) (.cond (.tmp 248) .skip (.exit 16))) (.seq (.block 17 (.seq (.reg 55) (.seq (.reg 56) (.cond (.tmp 262) (.reg 57) .skip)))) (.reg 58))))))))))) (.reg 59)))))))) (.reg 60))))))) (.reg 61)))))))) (.reg 62)))))) (.seq (.reg 63) (.seq (.seq (.reg 64) (.block 18 (.loop [33, 34] [(35, 39), (276, 333)] (.seq (.seq (.reg 65) (.cond (.tmp 280) .skip (.exit 18))) (.seq (.block 19 (.seq (.reg 66) (.block 20 (.loop [33, 35] [(36, 39), (283, 333)] (.seq (.seq (.reg 67) (.cond (.tmp 287) .skip (.exit 20))) (.seq (.block 21 (.seq (.reg 68) (.seq (.reg 69) (.seq (.reg 70) (.cond (.tmp 325) (.reg 71) .skip))))) (.reg 72))))))) (.reg 73)))))) (.seq (.reg 74) .ret))))))))))))
def S_wordhoardref_ThroughCost_L1 (v5 : AV) (v11 : AV) (v66 : AV) (v67 : AV) (vs_50 : List AV) (vs_54 : List AV) (k_57 : List AV → AH → Prop) (vs_58 : List AV) (v20 : AV) (vs_71 : List AV) (vs_76 : List AV) (k_75 : List AV → AH → Prop) : AH → Prop :=
  Pu Try.prog (.addOff 0) [v5] fun v115 =>
  RdS Try.prog (.ld 1 false) [v115] fun v116 =>
  Pu Try.prog (.bin .lss 3) [(vs_76.getD 0 .any), v116] fun v117 =>
  CdA v117
    (
    Vw fun V =>
    Rd Try.prog V (.ld 1 false) [v11] fun v120 =>
    Pu Try.prog (.addOff 0) [v20] fun v122 =>
    Rd Try.prog V (.ld 1 false) [v122] fun v123 =>
    CaV Try.prog V v66 [v123, (vs_76.getD 0 .any), (vs_50.getD 0 .any), (vs_54.getD 0 .any)] fun v127 =>
    Pu Try.prog (.idx 1) [v120, v127] fun v128 =>
    Rd Try.prog V (.ld 1 false) [v128] fun v129 =>
    Pu Try.prog (.bin .lss 3) [v129, (.p (.int .i64 1152921504606846976))] fun v131 =>
    CdA v131
      (
      Rg 13 fun _ =>
      Vw fun V_89 =>
      Pu Try.prog (.addOff 1) [v20] fun v134 =>
      Rd Try.prog V_89 (.ld 1 false) [v134] fun v135 =>
      CaV Try.prog V_89 v66 [v135, (vs_76.getD 0 .any), (vs_71.getD 0 .any), (vs_54.getD 0 .any)] fun v139 =>
      Pu Try.prog (.addOff 4) [v20] fun v141 =>
      Rd Try.prog V_89 (.ld 1 false) [v141] fun v142 =>
      Pu Try.prog (.bin .add 3) [v129, v142] fun v143 =>
      Ca Try.prog v67 [v139, v143] fun _ =>
      Vw fun _ =>
      Pu Try.prog (.bin .add 3) [(vs_76.getD 0 .any), (.p (.int .i64 1))] fun v119 =>
      k_75 [v119]
      ) (
      Pu Try.prog (.bin .add 3) [(vs_76.getD 0 .any), (.p (.int .i64 1))] fun v119_99 =>
      k_75 [v119_99]
      )
    ) (
    Pu Try.prog (.bin .add 3) [(vs_58.getD 0 .any), (.p (.int .i64 1))] fun v86 =>
    k_57 [v86]
    )
def S_wordhoardref_ThroughCost_K2 (v11 : AV) (v66 : AV) (v67 : AV) (vs_50 : List AV) (vs_54 : List AV) (v20 : AV) (vs_71 : List AV) (k_101 : List AV → AH → Prop) (vs_102 : List AV) (v25 : AV) (vs_121 : List AV) : AH → Prop :=
  Vw fun V_122 =>
  Rd Try.prog V_122 (.ld 1 false) [v11] fun v181 =>
  Pu Try.prog (.addOff 0) [v20] fun v183 =>
  Rd Try.prog V_122 (.ld 1 false) [v183] fun v184 =>
  Pu Try.prog (.addOff 0) [v25] fun v185 =>
  Rd Try.prog V_122 (.ld 1 false) [v185] fun v186 =>
  CaV Try.prog V_122 v66 [v184, v186, (vs_50.getD 0 .any), (vs_54.getD 0 .any)] fun v189 =>
  Pu Try.prog (.idx 1) [v181, v189] fun v190 =>
  Rd Try.prog V_122 (.ld 1 false) [v190] fun v191 =>
  Pu Try.prog (.bin .lss 3) [v191, (.p (.int .i64 1152921504606846976))] fun v193 =>
  CdA v193
    (
    Rg 17 fun _ =>
    Vw fun V_133 =>
    Pu Try.prog (.addOff 1) [v20] fun v196 =>
    Rd Try.prog V_133 (.ld 1 false) [v196] fun v197 =>
    Pu Try.prog (.addOff 1) [v25] fun v198 =>
    Rd Try.prog V_133 (.ld 1 false) [v198] fun v199 =>
    CaV Try.prog V_133 v66 [v197, v199, (vs_71.getD 0 .any), (vs_121.getD 0 .any)] fun v202 =>
    Pu Try.prog (.addOff 4) [v20] fun v204 =>
    Rd Try.prog V_133 (.ld 1 false) [v204] fun v205 =>
    Pu Try.prog (.bin .add 3) [v191, v205] fun v206 =>
    Pu Try.prog (.addOff 4) [v25] fun v207 =>
    Rd Try.prog V_133 (.ld 1 false) [v207] fun v208 =>
    Pu Try.prog (.bin .add 3) [v206, v208] fun v209 =>
    Ca Try.prog v67 [v202, v209] fun _ =>
    Vw fun _ =>
    Pu Try.prog (.bin .add 3) [(vs_102.getD 0 .any), (.p (.int .i64 1))] fun v151_147 =>
    k_101 [v151_147]
    ) (
    Pu Try.prog (.bin .add 3) [(vs_102.getD 0 .any), (.p (.int .i64 1))] fun v151_148 =>
    k_101 [v151_148]
    )
def S_wordhoardref_ThroughCost_C3 (a3 : AV) (v11 : AV) (v66 : AV) (v67 : AV) (vs_50 : List AV) (vs_54 : List AV) (v20 : AV) (vs_71 : List AV) (k_101 : List AV → AH → Prop) (vs_102 : List AV) (v25 : AV) : AH → Prop :=
  CutA Try.prog 1 (fun k_120 =>
    Pu Try.prog (.addOff 3) [v25] fun v163 =>
    RdS Try.prog (.ld 1 false) [v163] fun v164 =>
    Pu Try.prog (.bin .gtr 3) [v164, (.p (.int .i64 0))] fun v165 =>
    CdA v165
      (
      Vw fun V_152 =>
      Pu Try.prog .len [a3] fun v168 =>
      Pu Try.prog (.bin .eql 3) [(vs_54.getD 0 .any), v168] fun v169 =>
      GdV v169 false (fun k_156 => k_156 a3 V_152) V_152 fun v171 V_157 =>
      GdV v169 false (fun k_159 => k_159 (vs_54.getD 0 .any) V_157) V_157 fun v172 V_160 =>
      GdV v169 false (fun k_162 => Pu Try.prog (.idx 1) [v171, v172] (fun a => k_162 a V_160)) V_160 fun v173 V_163 =>
      GdV v169 false (fun k_165 => Rd Try.prog V_163 (.ld 1 false) [v173] (fun a => k_165 a V_163)) V_163 fun v174 V_166 =>
      GdV v169 false (fun k_168 => Pu Try.prog (.addOff 3) [v25] (fun a => k_168 a V_166)) V_166 fun v175 V_169 =>
      GdV v169 false (fun k_171 => Rd Try.prog V_169 (.ld 1 false) [v175] (fun a => k_171 a V_169)) V_169 fun v176 V_172 =>
      GdV v169 false (fun k_174 => Pu Try.prog (.bin .neq 3) [v174, v176] (fun a => k_174 a V_172)) V_172 fun v177 _ =>
      Pu Try.prog .pick [v169, (.p (.bool true)), v177] fun v178 =>
      CdA v178
        (
        Pu Try.prog (.bin .add 3) [(vs_102.getD 0 .any), (.p (.int .i64 1))] fun v151_177 =>
        k_101 [v151_177]
        ) (
        Pu Try.prog (.bin .add 3) [(vs_54.getD 0 .any), (.p (.int .i64 1))] fun v180 =>
        k_120 [v180]
        )
      ) (
      k_120 [(vs_54.getD 0 .any)]
      )
    ) (S_wordhoardref_ThroughCost_K2 v11 v66 v67 vs_50 vs_54 v20 vs_71 k_101 vs_102 v25)
def S_wordhoardref_ThroughCost_L4 (a3 : AV) (v5 : AV) (v11 : AV) (v66 : AV) (v67 : AV) (vs_50 : List AV) (vs_54 : List AV) (k_57 : List AV → AH → Prop) (vs_58 : List AV) (v20 : AV) (vs_71 : List AV) (vs_102 : List AV) (k_101 : List AV → AH → Prop) : AH → Prop :=
  Pu Try.prog (.addOff 1) [v5] fun v146 =>
  RdS Try.prog (.ld 1 false) [v146] fun v147 =>
  Pu Try.prog .len [v147] fun v148 =>
  Pu Try.prog (.bin .lss 3) [(vs_102.getD 0 .any), v148] fun v149 =>
  CdA v149
    (
    Rg 7 fun b_107 =>
    Pu Try.prog (.addOff 1) [v5] fun v152 =>
    RdS Try.prog (.ld 1 false) [v152] fun v153 =>
    Pu Try.prog (.idx 5) [v153, (vs_102.getD 0 .any)] fun v155 =>
    RdS Try.prog (.ld 5 true) [v155] fun v156 =>
    Al (b_107 + 5) (.nw 53 [.p (.int .i64 0), .p (.int .i64 0), .p (.int .i64 0), .p (.int .i64 0), .p (.int .i64 0)]) [] fun v25 =>
    WrS Try.prog (b_107 + 6) (.st 5) [v25, v156] fun _ =>
    Pu Try.prog (.addOff 2) [v25] fun v158 =>
    RdS Try.prog (.ld 1 false) [v158] fun v159 =>
    Pu Try.prog (.addOff 3) [v20] fun v160 =>
    RdS Try.prog (.ld 1 false) [v160] fun v161 =>
    Pu Try.prog (.bin .neq 3) [v159, v161] fun v162 =>
    CdA v162
      (
      Pu Try.prog (.bin .add 3) [(vs_102.getD 0 .any), (.p (.int .i64 1))] fun v151 =>
      k_101 [v151]
      ) (S_wordhoardref_ThroughCost_C3 a3 v11 v66 v67 vs_50 vs_54 v20 vs_71 k_101 vs_102 v25)
    ) (
    Pu Try.prog (.bin .add 3) [(vs_58.getD 0 .any), (.p (.int .i64 1))] fun v86_179 =>
    k_57 [v86_179]
    )
def S_wordhoardref_ThroughCost_K5 (a3 : AV) (v5 : AV) (v11 : AV) (v66 : AV) (v67 : AV) (vs_50 : List AV) (vs_54 : List AV) (k_57 : List AV → AH → Prop) (vs_58 : List AV) (v20 : AV) (vs_71 : List AV) : AH → Prop :=
  Pu Try.prog (.addOff 3) [v20] fun v111 =>
  RdS Try.prog (.ld 1 false) [v111] fun v112 =>
  Pu Try.prog (.bin .eql 3) [v112, (.p (.int .i64 0))] fun v113 =>
  CdA v113
    (
    LoopA Try.prog 1 (S_wordhoardref_ThroughCost_L1 v5 v11 v66 v67 vs_50 vs_54 k_57 vs_58 v20 vs_71) [(.p (.int .i64 0))]
    ) (
    LoopA Try.prog 1 (S_wordhoardref_ThroughCost_L4 a3 v5 v11 v66 v67 vs_50 vs_54 k_57 vs_58 v20 vs_71) [(.p (.int .i64 0))]
    )
def S_wordhoardref_ThroughCost_C6 (a2 : AV) (a3 : AV) (v4 : AV) (v5 : AV) (v11 : AV) (v66 : AV) (v67 : AV) (vs_50 : List AV) (vs_54 : List AV) (k_57 : List AV → AH → Prop) (vs_58 : List AV) : AH → Prop :=
  Rg 7 fun b_63 =>
  Pu Try.prog (.addOff 1) [v4] fun v87 =>
  RdS Try.prog (.ld 1 false) [v87] fun v88 =>
  Pu Try.prog (.idx 5) [v88, (vs_58.getD 0 .any)] fun v90 =>
  RdS Try.prog (.ld 5 true) [v90] fun v91 =>
  Al (b_63 + 5) (.nw 53 [.p (.int .i64 0), .p (.int .i64 0), .p (.int .i64 0), .p (.int .i64 0), .p (.int .i64 0)]) [] fun v20 =>
  WrS Try.prog (b_63 + 6) (.st 5) [v20, v91] fun _ =>
  CutA Try.prog 1 (fun k_70 =>
    Pu Try.prog (.addOff 2) [v20] fun v93 =>
    RdS Try.prog (.ld 1 false) [v93] fun v94 =>
    Pu Try.prog (.bin .gtr 3) [v94, (.p (.int .i64 0))] fun v95 =>
    CdA v95
      (
      Vw fun V_183 =>
      Pu Try.prog .len [a2] fun v98 =>
      Pu Try.prog (.bin .eql 3) [(vs_50.getD 0 .any), v98] fun v99 =>
      GdV v99 false (fun k_187 => k_187 a2 V_183) V_183 fun v101 V_188 =>
      GdV v99 false (fun k_190 => k_190 (vs_50.getD 0 .any) V_188) V_188 fun v102 V_191 =>
      GdV v99 false (fun k_193 => Pu Try.prog (.idx 1) [v101, v102] (fun a => k_193 a V_191)) V_191 fun v103 V_194 =>
      GdV v99 false (fun k_196 => Rd Try.prog V_194 (.ld 1 false) [v103] (fun a => k_196 a V_194)) V_194 fun v104 V_197 =>
      GdV v99 false (fun k_199 => Pu Try.prog (.addOff 2) [v20] (fun a => k_199 a V_197)) V_197 fun v105 V_200 =>
      GdV v99 false (fun k_202 => Rd Try.prog V_200 (.ld 1 false) [v105] (fun a => k_202 a V_200)) V_200 fun v106 V_203 =>
      GdV v99 false (fun k_205 => Pu Try.prog (.bin .neq 3) [v104, v106] (fun a => k_205 a V_203)) V_203 fun v107 _ =>
      Pu Try.prog .pick [v99, (.p (.bool true)), v107] fun v108 =>
      CdA v108
        (
        Pu Try.prog (.bin .add 3) [(vs_58.getD 0 .any), (.p (.int .i64 1))] fun v86_208 =>
        k_57 [v86_208]
        ) (
        Pu Try.prog (.bin .add 3) [(vs_50.getD 0 .any), (.p (.int .i64 1))] fun v110 =>
        k_70 [v110]
        )
      ) (
      k_70 [(vs_50.getD 0 .any)]
      )
    ) (S_wordhoardref_ThroughCost_K5 a3 v5 v11 v66 v67 vs_50 vs_54 k_57 vs_58 v20)
def S_wordhoardref_ThroughCost_L7 (v4 : AV) (v11 : AV) (v66 : AV) (v67 : AV) (vs_50 : List AV) (vs_54 : List AV) (k_210 : List AV → AH → Prop) (vs_211 : List AV) (v29 : AV) (vs_228 : List AV) (vs_230 : List AV) (k_229 : List AV → AH → Prop) : AH → Prop :=
  Pu Try.prog (.addOff 0) [v4] fun v246 =>
  RdS Try.prog (.ld 1 false) [v246] fun v247 =>
  Pu Try.prog (.bin .lss 3) [(vs_230.getD 0 .any), v247] fun v248 =>
  CdA v248
    (
    Vw fun V_234 =>
    Rd Try.prog V_234 (.ld 1 false) [v11] fun v251 =>
    Pu Try.prog (.addOff 0) [v29] fun v254 =>
    Rd Try.prog V_234 (.ld 1 false) [v254] fun v255 =>
    CaV Try.prog V_234 v66 [(vs_230.getD 0 .any), v255, (vs_50.getD 0 .any), (vs_54.getD 0 .any)] fun v258 =>
    Pu Try.prog (.idx 1) [v251, v258] fun v259 =>
    Rd Try.prog V_234 (.ld 1 false) [v259] fun v260 =>
    Pu Try.prog (.bin .lss 3) [v260, (.p (.int .i64 1152921504606846976))] fun v262 =>
    CdA v262
      (
      Rg 13 fun _ =>
      Vw fun V_243 =>
      Pu Try.prog (.addOff 1) [v29] fun v266 =>
      Rd Try.prog V_243 (.ld 1 false) [v266] fun v267 =>
      CaV Try.prog V_243 v66 [(vs_230.getD 0 .any), v267, (vs_50.getD 0 .any), (vs_228.getD 0 .any)] fun v270 =>
      Pu Try.prog (.addOff 4) [v29] fun v272 =>
      Rd Try.prog V_243 (.ld 1 false) [v272] fun v273 =>
      Pu Try.prog (.bin .add 3) [v260, v273] fun v274 =>
      Ca Try.prog v67 [v270, v274] fun _ =>
      Vw fun _ =>
      Pu Try.prog (.bin .add 3) [(vs_230.getD 0 .any), (.p (.int .i64 1))] fun v250 =>
      k_229 [v250]
      ) (
      Pu Try.prog (.bin .add 3) [(vs_230.getD 0 .any), (.p (.int .i64 1))] fun v250_253 =>
      k_229 [v250_253]
      )
    ) (
    Pu Try.prog (.bin .add 3) [(vs_211.getD 0 .any), (.p (.int .i64 1))] fun v217_254 =>
    k_210 [v217_254]
    )
def S_wordhoardref_ThroughCost_K8 (v4 : AV) (v11 : AV) (v66 : AV) (v67 : AV) (vs_50 : List AV) (vs_54 : List AV) (k_210 : List AV → AH → Prop) (vs_211 : List AV) (v29 : AV) (vs_228 : List AV) : AH → Prop :=
  LoopA Try.prog 1 (S_wordhoardref_ThroughCost_L7 v4 v11 v66 v67 vs_50 vs_54 k_210 vs_211 v29 vs_228) [(.p (.int .i64 0))]
def S_wordhoardref_ThroughCost_C9 (a3 : AV) (v4 : AV) (v11 : AV) (v66 : AV) (v67 : AV) (vs_50 : List AV) (vs_54 : List AV) (k_210 : List AV → AH → Prop) (vs_211 : List AV) (v29 : AV) : AH → Prop :=
  CutA Try.prog 1 (fun k_227 =>
    Pu Try.prog (.addOff 3) [v29] fun v227 =>
    RdS Try.prog (.ld 1 false) [v227] fun v228 =>
    Pu Try.prog (.bin .gtr 3) [v228, (.p (.int .i64 0))] fun v229 =>
    CdA v229
      (
      Vw fun V_258 =>
      Pu Try.prog .len [a3] fun v232 =>
      Pu Try.prog (.bin .eql 3) [(vs_54.getD 0 .any), v232] fun v233 =>
      GdV v233 false (fun k_262 => k_262 a3 V_258) V_258 fun v235 V_263 =>
      GdV v233 false (fun k_265 => k_265 (vs_54.getD 0 .any) V_263) V_263 fun v236 V_266 =>
      GdV v233 false (fun k_268 => Pu Try.prog (.idx 1) [v235, v236] (fun a => k_268 a V_266)) V_266 fun v237 V_269 =>
      GdV v233 false (fun k_271 => Rd Try.prog V_269 (.ld 1 false) [v237] (fun a => k_271 a V_269)) V_269 fun v238 V_272 =>
      GdV v233 false (fun k_274 => Pu Try.prog (.addOff 3) [v29] (fun a => k_274 a V_272)) V_272 fun v239 V_275 =>
      GdV v233 false (fun k_277 => Rd Try.prog V_275 (.ld 1 false) [v239] (fun a => k_277 a V_275)) V_275 fun v240 V_278 =>
      GdV v233 false (fun k_280 => Pu Try.prog (.bin .neq 3) [v238, v240] (fun a => k_280 a V_278)) V_278 fun v241 _ =>
      Pu Try.prog .pick [v233, (.p (.bool true)), v241] fun v242 =>
      CdA v242
        (
        Pu Try.prog (.bin .add 3) [(vs_211.getD 0 .any), (.p (.int .i64 1))] fun v217_283 =>
        k_210 [v217_283]
        ) (
        Pu Try.prog (.bin .add 3) [(vs_54.getD 0 .any), (.p (.int .i64 1))] fun v244 =>
        k_227 [v244]
        )
      ) (
      k_227 [(vs_54.getD 0 .any)]
      )
    ) (S_wordhoardref_ThroughCost_K8 v4 v11 v66 v67 vs_50 vs_54 k_210 vs_211 v29)
def S_wordhoardref_ThroughCost_L10 (a3 : AV) (v4 : AV) (v5 : AV) (v11 : AV) (v66 : AV) (v67 : AV) (vs_50 : List AV) (k_53 : List AV → AH → Prop) (vs_54 : List AV) (vs_211 : List AV) (k_210 : List AV → AH → Prop) : AH → Prop :=
  Pu Try.prog (.addOff 1) [v5] fun v212 =>
  RdS Try.prog (.ld 1 false) [v212] fun v213 =>
  Pu Try.prog .len [v213] fun v214 =>
  Pu Try.prog (.bin .lss 3) [(vs_211.getD 0 .any), v214] fun v215 =>
  CdA v215
    (
    Rg 7 fun b_216 =>
    Pu Try.prog (.addOff 1) [v5] fun v218 =>
    RdS Try.prog (.ld 1 false) [v218] fun v219 =>
    Pu Try.prog (.idx 5) [v219, (vs_211.getD 0 .any)] fun v221 =>
    RdS Try.prog (.ld 5 true) [v221] fun v222 =>
    Al (b_216 + 5) (.nw 53 [.p (.int .i64 0), .p (.int .i64 0), .p (.int .i64 0), .p (.int .i64 0), .p (.int .i64 0)]) [] fun v29 =>
    WrS Try.prog (b_216 + 6) (.st 5) [v29, v222] fun _ =>
    Pu Try.prog (.addOff 2) [v29] fun v224 =>
    RdS Try.prog (.ld 1 false) [v224] fun v225 =>
    Pu Try.prog (.bin .gtr 3) [v225, (.p (.int .i64 0))] fun v226 =>
    CdA v226
      (
      Pu Try.prog (.bin .add 3) [(vs_211.getD 0 .any), (.p (.int .i64 1))] fun v217 =>
      k_210 [v217]
      ) (S_wordhoardref_ThroughCost_C9 a3 v4 v11 v66 v67 vs_50 vs_54 k_210 vs_211 v29)
    ) (
    Pu Try.prog (.bin .add 3) [(vs_54.getD 0 .any), (.p (.int .i64 1))] fun v79 =>
    k_53 [v79]
    )
def S_wordhoardref_ThroughCost_L11 (a2 : AV) (a3 : AV) (v4 : AV) (v5 : AV) (v11 : AV) (v66 : AV) (v67 : AV) (vs_50 : List AV) (k_53 : List AV → AH → Prop) (vs_54 : List AV) (vs_58 : List AV) (k_57 : List AV → AH → Prop) : AH → Prop :=
  Pu Try.prog (.addOff 1) [v4] fun v81 =>
  RdS Try.prog (.ld 1 false) [v81] fun v82 =>
  Pu Try.prog .len [v82] fun v83 =>
  Pu Try.prog (.bin .lss 3) [(vs_58.getD 0 .any), v83] fun v84 =>
  CdA v84
    (S_wordhoardref_ThroughCost_C6 a2 a3 v4 v5 v11 v66 v67 vs_50 vs_54 k_57 vs_58) (
    LoopA Try.prog 1 (S_wordhoardref_ThroughCost_L10 a3 v4 v5 v11 v66 v67 vs_50 k_53 vs_54) [(.p (.int .i64 0))]
    )
def S_wordhoardref_ThroughCost_L12 (a2 : AV) (a3 : AV) (v4 : AV) (v5 : AV) (v10 : AV) (v11 : AV) (v66 : AV) (v67 : AV) (k_49 : List AV → AH → Prop) (vs_50 : List AV) (vs_54 : List AV) (k_53 : List AV → AH → Prop) : AH → Prop :=
  RdS Try.prog (.ld 1 false) [v10] fun v76 =>
  Pu Try.prog (.bin .lss 3) [(vs_54.getD 0 .any), v76] fun v77 =>
  CdA v77
    (
    LoopA Try.prog 1 (S_wordhoardref_ThroughCost_L11 a2 a3 v4 v5 v11 v66 v67 vs_50 k_53 vs_54) [(.p (.int .i64 0))]
    ) (
    Pu Try.prog (.bin .add 3) [(vs_50.getD 0 .any), (.p (.int .i64 1))] fun v74 =>
    k_49 [v74]
    )
def S_wordhoardref_ThroughCost_L13 (a2 : AV) (a3 : AV) (v4 : AV) (v5 : AV) (v9 : AV) (v10 : AV) (v11 : AV) (v66 : AV) (v14 : AV) (v67 : AV) (k_45 : List AV → AH → Prop) (vs_50 : List AV) (k_49 : List AV → AH → Prop) : AH → Prop :=
  RdS Try.prog (.ld 1 false) [v9] fun v71 =>
  Pu Try.prog (.bin .lss 3) [(vs_50.getD 0 .any), v71] fun v72 =>
  CdA v72
    (
    LoopA Try.prog 1 (S_wordhoardref_ThroughCost_L12 a2 a3 v4 v5 v10 v11 v66 v67 k_49 vs_50) [(.p (.int .i64 0))]
    ) (
    RdS Try.prog (.ld 1 false) [v14] fun v69 =>
    k_45 [v69]
    )
def S_wordhoardref_ThroughCost_C14 (a2 : AV) (a3 : AV) (v4 : AV) (v5 : AV) (v11 : AV) (v66 : AV) (vs_289 : List AV) (k_294 : List AV → AH → Prop) (vs_295 : List AV) : AH → Prop :=
  Rg 14 fun b_300 =>
  Vw fun V_301 =>
  Pu Try.prog (.addOff 2) [v4] fun v290 =>
  Rd Try.prog V_301 (.ld 1 false) [v290] fun v291 =>
  Pu Try.prog (.idx 2) [v291, (vs_289.getD 1 .any)] fun v293 =>
  Rd Try.prog V_301 (.ld 2 true) [v293] fun v294 =>
  Pu Try.prog (.addOff 2) [v5] fun v295 =>
  Rd Try.prog V_301 (.ld 1 false) [v295] fun v296 =>
  Pu Try.prog (.idx 2) [v296, (vs_295.getD 1 .any)] fun v298 =>
  Rd Try.prog V_301 (.ld 2 true) [v298] fun v299 =>
  Al (b_300 + 10) (.nw 56 [.p (.int .i64 0), .p (.int .i64 0)]) [] fun v36 =>
  Al (b_300 + 11) (.nw 56 [.p (.int .i64 0), .p (.int .i64 0)]) [] fun v37 =>
  WrF V_301 (some (b_300 + 10)) none (b_300 + 12) (.st 2) [v36, v294] fun _ =>
  WrF V_301 (some (b_300 + 11)) none (b_300 + 13) (.st 2) [v37, v299] fun _ =>
  Vw fun V_314 =>
  Rd Try.prog V_314 (.ld 1 false) [v11] fun v300 =>
  Pu Try.prog (.addOff 0) [v36] fun v302 =>
  Rd Try.prog V_314 (.ld 1 false) [v302] fun v303 =>
  Pu Try.prog (.addOff 0) [v37] fun v304 =>
  Rd Try.prog V_314 (.ld 1 false) [v304] fun v305 =>
  Pu Try.prog .len [a2] fun v307 =>
  Pu Try.prog .len [a3] fun v309 =>
  CaV Try.prog V_314 v66 [v303, v305, v307, v309] fun v310 =>
  Pu Try.prog (.idx 1) [v300, v310] fun v311 =>
  Rd Try.prog V_314 (.ld 1 false) [v311] fun v312 =>
  Pu Try.prog (.bin .lss 3) [v312, (.p (.int .i64 1152921504606846976))] fun v314 =>
  Gd v314 true (fun k_327 => k_327 v312) fun v316 =>
  Gd v314 true (fun k_329 => Pu Try.prog (.addOff 1) [v36] k_329) fun v317 =>
  Gd v314 true (fun k_331 => RdS Try.prog (.ld 1 false) [v317] k_331) fun v318 =>
  Gd v314 true (fun k_333 => Pu Try.prog (.bin .add 3) [v316, v318] k_333) fun v319 =>
  Gd v314 true (fun k_335 => Pu Try.prog (.addOff 1) [v37] k_335) fun v320 =>
  Gd v314 true (fun k_337 => RdS Try.prog (.ld 1 false) [v320] k_337) fun v321 =>
  Gd v314 true (fun k_339 => Pu Try.prog (.bin .add 3) [v319, v321] k_339) fun v322 =>
  Gd v314 true (fun k_341 => k_341 (vs_295.getD 0 .any)) fun v323 =>
  Gd v314 true (fun k_343 => Pu Try.prog (.bin .lss 3) [v322, v323] k_343) fun v324 =>
  Pu Try.prog .pick [v314, v324, (.p (.bool false))] fun v325 =>
  CdA v325
    (
    Pu Try.prog (.addOff 1) [v36] fun v327 =>
    RdS Try.prog (.ld 1 false) [v327] fun v328 =>
    Pu Try.prog (.bin .add 3) [v312, v328] fun v329 =>
    Pu Try.prog (.addOff 1) [v37] fun v330 =>
    RdS Try.prog (.ld 1 false) [v330] fun v331 =>
    Pu Try.prog (.bin .add 3) [v329, v331] fun v332 =>
    Pu Try.prog (.bin .add 3) [(vs_295.getD 1 .any), (.p (.int .i64 1))] fun v289 =>
    k_294 [v332, v289]
    ) (
    Pu Try.prog (.bin .add 3) [(vs_295.getD 1 .any), (.p (.int .i64 1))] fun v289_352 =>
    k_294 [(vs_295.getD 0 .any), v289_352]
    )
def S_wordhoardref_ThroughCost_L15 (a2 : AV) (a3 : AV) (v4 : AV) (v5 : AV) (v11 : AV) (v66 : AV) (k_288 : List AV → AH → Prop) (vs_289 : List AV) (vs_295 : List AV) (k_294 : List AV → AH → Prop) : AH → Prop :=
  Pu Try.prog (.addOff 2) [v5] fun v284 =>
  RdS Try.prog (.ld 1 false) [v284] fun v285 =>
  Pu Try.prog .len [v285] fun v286 =>
  Pu Try.prog (.bin .lss 3) [(vs_295.getD 1 .any), v286] fun v287 =>
  CdA v287
    (S_wordhoardref_ThroughCost_C14 a2 a3 v4 v5 v11 v66 vs_289 k_294 vs_295) (
    Pu Try.prog (.bin .add 3) [(vs_289.getD 1 .any), (.p (.int .i64 1))] fun v282 =>
    k_288 [(vs_295.getD 0 .any), v282]
    )
def S_wordhoardref_ThroughCost_L16 (a2 : AV) (a3 : AV) (Q : AV → AH → Prop) (H : AH) (v4 : AV) (v5 : AV) (v11 : AV) (v66 : AV) (vs_289 : List AV) (k_288 : List AV → AH → Prop) : AH → Prop :=
  Pu Try.prog (.addOff 2) [v4] fun v277 =>
  RdS Try.prog (.ld 1 false) [v277] fun v278 =>
  Pu Try.prog .len [v278] fun v279 =>
  Pu Try.prog (.bin .lss 3) [(vs_289.getD 1 .any), v279] fun v280 =>
  CdA v280
    (
    LoopA Try.prog 2 (S_wordhoardref_ThroughCost_L15 a2 a3 v4 v5 v11 v66 k_288 vs_289) [(vs_289.getD 0 .any), (.p (.int .i64 0))]
    ) (
    Rt Try.prog H.nx (vs_289.getD 0 .any) Q
    )
def S_wordhoardref_ThroughCost_L17 (a2 : AV) (a3 : AV) (Q : AV → AH → Prop) (H : AH) (v4 : AV) (v5 : AV) (v9 : AV) (v10 : AV) (v11 : AV) (v66 : AV) (v14 : AV) (v67 : AV) (vs_46 : List AV) (k_45 : List AV → AH → Prop) : AH → Prop :=
  CdA (vs_46.getD 0 .any)
    (
    Rg 1 fun b_47 =>
    WrS Try.prog (b_47 + 0) (.st 1) [v14, (.p (.bool false))] fun _ =>
    LoopA Try.prog 1 (S_wordhoardref_ThroughCost_L13 a2 a3 v4 v5 v9 v10 v11 v66 v14 v67 k_45) [(.p (.int .i64 0))]
    ) (
    LoopA Try.prog 2 (S_wordhoardref_ThroughCost_L16 a2 a3 Q H v4 v5 v11 v66) [(.p (.int .i64 1152921504606846976)), (.p (.int .i64 0))]
    )
def S_wordhoardref_ThroughCost_L18 (a2 : AV) (a3 : AV) (Q : AV → AH → Prop) (H : AH) (v4 : AV) (v5 : AV) (v9 : AV) (v10 : AV) (v11 : AV) (vs : List AV) (k : List AV → AH → Prop) : AH → Prop :=
  RdS Try.prog (.ld 1 false) [v11] fun v56 =>
  Pu Try.prog .len [v56] fun v57 =>
  Pu Try.prog (.bin .lss 3) [(vs.getD 0 .any), v57] fun v58 =>
  CdA v58
    (
    Rg 4 fun b_31 =>
    RdS Try.prog (.ld 1 false) [v11] fun v61 =>
    Pu Try.prog (.idx 1) [v61, (vs.getD 0 .any)] fun v63 =>
    WrS Try.prog (b_31 + 3) (.st 1) [v63, (.p (.int .i64 1152921504606846976))] fun _ =>
    Pu Try.prog (.bin .add 3) [(vs.getD 0 .any), (.p (.int .i64 1))] fun v60 =>
    k [v60]
    ) (
    Rg 3 fun b_36 =>
    RdS Try.prog (.ld 1 false) [v11] fun v64 =>
    Pu Try.prog (.idx 1) [v64, (.p (.int .i64 0))] fun v65 =>
    WrS Try.prog (b_36 + 2) (.st 1) [v65, (.p (.int .i64 0))] fun _ =>
    Pu Try.prog (.mkfn (.func 37) 0) [v5, v9, v10] fun v66 =>
    Rg 2 fun b_41 =>
    Al (b_41 + 0) (.nw 4 [.p (.bool false)]) [] fun v14 =>
    WrS Try.prog (b_41 + 1) (.st 1) [v14, (.p (.bool false))] fun _ =>
    Pu Try.prog (.mkfn (.func 38) 0) [v11, v14] fun v67 =>
    LoopA Try.prog 1 (S_wordhoardref_ThroughCost_L17 a2 a3 Q H v4 v5 v9 v10 v11 v66 v14 v67) [(.p (.bool true))]
    )
def S_wordhoardref_ThroughCost (a0 a1 a2 a3 : AV) (Q : AV → AH → Prop) (H : AH) : Prop := (
    Rg 3 fun b =>
    Al (b + 0) (.bx 25) [a0] fun v4 =>
    Al (b + 1) (.bx 25) [a1] fun v5 =>
    Rg 10 fun b_4 =>
    Pu Try.prog .len [a2] fun v40 =>
    Pu Try.prog (.bin .add 3) [v40, (.p (.int .i64 1))] fun v41 =>
    Pu Try.prog .len [a3] fun v43 =>
    Pu Try.prog (.bin .add 3) [v43, (.p (.int .i64 1))] fun v44 =>
    Al (b_4 + 6) (.nw 3 [.p (.int .i64 0)]) [] fun v9 =>
    Al (b_4 + 7) (.nw 3 [.p (.int .i64 0)]) [] fun v10 =>
    WrS Try.prog (b_4 + 8) (.st 1) [v9, v41] fun _ =>
    WrS Try.prog (b_4 + 9) (.st 1) [v10, v44] fun _ =>
    Rg 12 fun b_13 =>
    Pu Try.prog (.addOff 0) [v4] fun v45 =>
    RdS Try.prog (.ld 1 false) [v45] fun v46 =>
    Pu Try.prog (.addOff 0) [v5] fun v47 =>
    RdS Try.prog (.ld 1 false) [v47] fun v48 =>
    Pu Try.prog (.bin .mul 3) [v46, v48] fun v49 =>
    RdS Try.prog (.ld 1 false) [v9] fun v50 =>
    Pu Try.prog (.bin .mul 3) [v49, v50] fun v51 =>
    RdS Try.prog (.ld 1 false) [v10] fun v52 =>
    Pu Try.prog (.bin .mul 3) [v51, v52] fun v53 =>
    Al (b_13 + 9) (.ms 3 1 8 [.p (.int .i64 0)]) [v53, v53] fun v54 =>
    Al (b_13 + 10) (.nw 26 [.p (.slice none 0 0)]) [] fun v11 =>
    WrS Try.prog (b_13 + 11) (.st 1) [v11, v54] fun _ =>
    LoopA Try.prog 1 (S_wordhoardref_ThroughCost_L18 a2 a3 Q H v4 v5 v9 v10 v11) [(.p (.int .i64 0))]
    ) H
theorem eq_wordhoardref_ThroughCost (a0 a1 a2 a3 : AV) (Q : AV → AH → Prop) (H : AH) : FnA Try.prog 334 (regsF Try.f14) ac_wordhoardref_ThroughCost [.tm 8] [a0, a1, a2, a3] H Q = S_wordhoardref_ThroughCost a0 a1 a2 a3 Q H := by kernel_rfl
theorem tri_wordhoardref_ThroughCost {a0 a1 a2 a3 : AV} {H : AH} {Q : AV → AH → Prop} (h : S_wordhoardref_ThroughCost a0 a1 a2 a3 Q H) : Tri Try.prog 14 [a0, a1, a2, a3] H Q :=
  tri_of (Ms := [#[], #[], #[], #[], #[], #[], #[], #[], #[], #[], #[], #[], #[], #[], #[], #[], #[], #[], #[], #[], #[], #[], #[], #[0, 0, 2, 7, 15, 31, 31, 127, 255, 31, 543, 2047, 4095], #[], #[], #[], #[], #[0, 0, 0, 4, 0, 0, 0, 126, 255, 511, 1023], #[], #[0, 0, 0, 4, 0, 0, 0, 126, 0, 0, 512, 1792, 4095], #[], #[], #[], #[], #[], #[], #[], #[0, 0, 2, 7, 15, 31, 31, 127, 255, 31, 543, 2047, 4095], #[], #[0, 0, 0, 4, 0, 16, 0, 0, 254, 511, 1023, 2047], #[], #[0, 0, 0, 4, 0, 16, 0, 0, 254, 0, 0, 1024, 3584, 0, 8192, 32256, 65535], #[], #[], #[], #[], #[], #[], #[], #[], #[0, 0, 2, 7, 15, 31, 31, 127, 255, 31, 543, 2047, 4095], #[], #[], #[], #[0, 0, 0, 0, 8, 0, 0, 126, 255, 511, 1023], #[], #[0, 0, 0, 0, 8, 0, 0, 126, 0, 0, 512, 1792, 4095], #[], #[], #[], #[], #[], #[], #[], #[], #[], #[], #[0, 1, 0, 7, 15, 0, 32, 0, 224, 480, 0, 0, 3103, 8191], #[0, 0, 0, 4, 0, 16, 0, 64, 0, 256, 1022, 2047, 4095, 8191], #[], #[], #[], #[], #[]]) mixed Try.func14 rfl (by kernel_rfl) (by kernel_rfl) rfl (of_decide_eq_true rfl : 4 ≤ 334) (by rw [eq_wordhoardref_ThroughCost a0 a1 a2 a3 Q H]; exact h : FnA Try.prog 334 (regsF Try.f14) ac_wordhoardref_ThroughCost [.tm 8] [a0, a1, a2, a3] H Q)

/-! wordhoard/wordhoardref.Cost -/
def ac_wordhoardref_Cost : AC := (.seq (.reg 0) (.seq (.reg 1) (.cut [10] [(32, 34)] (.seq (.reg 2) (.cond (.tmp 33) (.reg 3) .skip)) (.seq (.reg 4) (.seq (.seq (.reg 5) (.block 0 (.loop [12] [(41, 50)] (.seq (.seq (.reg 6) (.cond (.tmp 44) .skip (.exit 0))) (.seq (.block 1 (.reg 7)) (.reg 8)))))) (.seq (.reg 9) (.seq (.seq (.reg 10) (.block 2 (.loop [13] [(14, 22), (52, 157)] (.seq (.seq (.reg 11) (.cond (.tmp 52) .skip (.exit 2))) (.block 3 (.seq (.reg 12) (.seq (.reg 13) (.block 4 (.loop [13, 14] [(15, 22), (53, 157)] (.seq (.seq (.reg 14) (.cond (.tmp 57) .skip (.exit 4))) (.seq (.block 5 (.seq (.reg 15) (.seq (.reg 16) (.block 6 (.loop [13, 16] [(17, 22), (65, 157)] (.seq (.seq (.reg 17) (.cond (.tmp 67) .skip (.exit 6))) (.seq (.block 7 (.seq (.reg 18) (.block 8 (.loop [13, 17] [(18, 22), (70, 157)] (.seq (.seq (.reg 19) (.cond (.tmp 72) .skip (.exit 8))) (.seq (.block 9 (.seq (.reg 20) (.seq (.seq (.reg 21) (.cond (.tmp 89) (.exit 9) .skip)) (.seq (.reg 22) (.cut [19] [(92, 110)] (.seq (.reg 23) (.cond (.tmp 94) (.seq (.seq (.reg 24) (.cond (.tmp 107) (.exit 9) .skip)) (.reg 25)) .skip)) (.cut [20] [(110, 131)] (.seq (.reg 26) (.cond (.tmp 115) (.seq (.seq (.reg 27) (.cond (.tmp 128) (.exit 9) .skip)) (.reg 28)) .skip)) (.seq (.reg 29) (.seq (.reg 30) (.cond (.tmp 149) (.seq (.reg 31) (.reg 32)) .skip))))))))) (.reg 33))))))) (.reg 34)))))))) (.reg 35)))))))))))) (.seq (.reg 36) (.seq (.seq (.reg 37) (.block 10 (.loop [22, 23] [(24, 26), (157, 198)] (.seq (.seq (.reg 38) (.cond (.tmp 161) .skip (.exit 10))) (.seq (.block 11 (.seq (.reg 39) (.seq (.reg 40) (.seq (.reg 41) (.cond (.tmp 193) (.reg 42) .skip))))) (.reg 43)))))) (.seq (.reg 44) .ret))))))))))
def S_wordhoardref_Cost_K1 (v28 : AV) (vs : List AV) (v40 : AV) (v15 : AV) (k_44 : List AV → AH → Prop) (vs_45 : List AV) (v87 : AV) (vs_58 : List AV) (vs_60 : List AV) : AH → Prop :=
  Pu Try.prog (.addOff 1) [v15] fun v131 =>
  RdS Try.prog (.ld 1 false) [v131] fun v132 =>
  Pu Try.prog (.bin .mul 3) [v132, v28] fun v134 =>
  Pu Try.prog (.bin .add 3) [v134, (vs_58.getD 0 .any)] fun v136 =>
  Pu Try.prog (.bin .mul 3) [v136, (vs.getD 0 .any)] fun v138 =>
  Pu Try.prog (.bin .add 3) [v138, (vs_60.getD 0 .any)] fun v140 =>
  Vw fun V =>
  Pu Try.prog (.addOff 4) [v15] fun v142 =>
  Rd Try.prog V (.ld 1 false) [v142] fun v143 =>
  Pu Try.prog (.bin .add 3) [v87, v143] fun v144 =>
  Pu Try.prog (.idx 1) [v40, v140] fun v147 =>
  Rd Try.prog V (.ld 1 false) [v147] fun v148 =>
  Pu Try.prog (.bin .lss 3) [v144, v148] fun v149 =>
  CdA v149
    (
    Rg 8 fun b_74 =>
    Pu Try.prog (.addOff 4) [v15] fun v153 =>
    RdS Try.prog (.ld 1 false) [v153] fun v154 =>
    Pu Try.prog (.bin .add 3) [v87, v154] fun v155 =>
    Pu Try.prog (.idx 1) [v40, v140] fun v156 =>
    WrS Try.prog (b_74 + 7) (.st 1) [v156, v155] fun _ =>
    Pu Try.prog (.bin .add 3) [(vs_45.getD 1 .any), (.p (.int .i64 1))] fun v74_80 =>
    k_44 [(.p (.bool true)), v74_80]
    ) (
    Pu Try.prog (.bin .add 3) [(vs_45.getD 1 .any), (.p (.int .i64 1))] fun v74_81 =>
    k_44 [(vs_45.getD 0 .any), v74_81]
    )
def S_wordhoardref_Cost_K2 (a2 : AV) (a3 : AV) (v28 : AV) (vs : List AV) (v40 : AV) (v15 : AV) (k_44 : List AV → AH → Prop) (vs_45 : List AV) (v87 : AV) (vs_58 : List AV) : AH → Prop :=
  CutA Try.prog 1 (fun k_59 =>
    Pu Try.prog (.addOff 3) [v15] fun v110 =>
    RdS Try.prog (.ld 1 false) [v110] fun v111 =>
    Pu Try.prog (.bin .gtr 3) [v111, (.p (.int .i64 0))] fun v112 =>
    Gd v112 true (fun k_86 => k_86 a3) fun v114 =>
    Pu Try.prog .pick [v112, v114, (.p (.bool false))] fun v115 =>
    CdA v115
      (
      Vw fun V_88 =>
      Pu Try.prog .len [a2] fun v118 =>
      Pu Try.prog (.bin .eql 3) [(vs_45.getD 1 .any), v118] fun v119 =>
      GdV v119 false (fun k_92 => k_92 a2 V_88) V_88 fun v121 V_93 =>
      GdV v119 false (fun k_95 => k_95 (vs_45.getD 1 .any) V_93) V_93 fun v122 V_96 =>
      GdV v119 false (fun k_98 => Pu Try.prog (.idx 1) [v121, v122] (fun a => k_98 a V_96)) V_96 fun v123 V_99 =>
      GdV v119 false (fun k_101 => Rd Try.prog V_99 (.ld 1 false) [v123] (fun a => k_101 a V_99)) V_99 fun v124 V_102 =>
      GdV v119 false (fun k_104 => Pu Try.prog (.addOff 3) [v15] (fun a => k_104 a V_102)) V_102 fun v125 V_105 =>
      GdV v119 false (fun k_107 => Rd Try.prog V_105 (.ld 1 false) [v125] (fun a => k_107 a V_105)) V_105 fun v126 V_108 =>
      GdV v119 false (fun k_110 => Pu Try.prog (.bin .neq 3) [v124, v126] (fun a => k_110 a V_108)) V_108 fun v127 _ =>
      Pu Try.prog .pick [v119, (.p (.bool true)), v127] fun v128 =>
      CdA v128
        (
        Pu Try.prog (.bin .add 3) [(vs_45.getD 1 .any), (.p (.int .i64 1))] fun v74_113 =>
        k_44 [(vs_45.getD 0 .any), v74_113]
        ) (
        Pu Try.prog (.bin .add 3) [(vs_45.getD 1 .any), (.p (.int .i64 1))] fun v130 =>
        k_59 [v130]
        )
      ) (
      k_59 [(vs_45.getD 1 .any)]
      )
    ) (S_wordhoardref_Cost_K1 v28 vs v40 v15 k_44 vs_45 v87 vs_58)
def S_wordhoardref_Cost_C3 (a1 : AV) (a2 : AV) (a3 : AV) (v28 : AV) (vs : List AV) (v40 : AV) (v15 : AV) (vs_42 : List AV) (k_44 : List AV → AH → Prop) (vs_45 : List AV) (v87 : AV) : AH → Prop :=
  CutA Try.prog 1 (fun k_57 =>
    Pu Try.prog (.addOff 2) [v15] fun v92 =>
    RdS Try.prog (.ld 1 false) [v92] fun v93 =>
    Pu Try.prog (.bin .gtr 3) [v93, (.p (.int .i64 0))] fun v94 =>
    CdA v94
      (
      Vw fun V_118 =>
      Pu Try.prog .len [a1] fun v97 =>
      Pu Try.prog (.bin .eql 3) [(vs_42.getD 1 .any), v97] fun v98 =>
      GdV v98 false (fun k_122 => k_122 a1 V_118) V_118 fun v100 V_123 =>
      GdV v98 false (fun k_125 => k_125 (vs_42.getD 1 .any) V_123) V_123 fun v101 V_126 =>
      GdV v98 false (fun k_128 => Pu Try.prog (.idx 1) [v100, v101] (fun a => k_128 a V_126)) V_126 fun v102 V_129 =>
      GdV v98 false (fun k_131 => Rd Try.prog V_129 (.ld 1 false) [v102] (fun a => k_131 a V_129)) V_129 fun v103 V_132 =>
      GdV v98 false (fun k_134 => Pu Try.prog (.addOff 2) [v15] (fun a => k_134 a V_132)) V_132 fun v104 V_135 =>
      GdV v98 false (fun k_137 => Rd Try.prog V_135 (.ld 1 false) [v104] (fun a => k_137 a V_135)) V_135 fun v105 V_138 =>
      GdV v98 false (fun k_140 => Pu Try.prog (.bin .neq 3) [v103, v105] (fun a => k_140 a V_138)) V_138 fun v106 _ =>
      Pu Try.prog .pick [v98, (.p (.bool true)), v106] fun v107 =>
      CdA v107
        (
        Pu Try.prog (.bin .add 3) [(vs_45.getD 1 .any), (.p (.int .i64 1))] fun v74_143 =>
        k_44 [(vs_45.getD 0 .any), v74_143]
        ) (
        Pu Try.prog (.bin .add 3) [(vs_42.getD 1 .any), (.p (.int .i64 1))] fun v109 =>
        k_57 [v109]
        )
      ) (
      k_57 [(vs_42.getD 1 .any)]
      )
    ) (S_wordhoardref_Cost_K2 a2 a3 v28 vs v40 v15 k_44 vs_45 v87)
def S_wordhoardref_Cost_L4 (a1 : AV) (a2 : AV) (a3 : AV) (v28 : AV) (vs : List AV) (v40 : AV) (v15 : AV) (k_41 : List AV → AH → Prop) (vs_42 : List AV) (vs_45 : List AV) (k_44 : List AV → AH → Prop) : AH → Prop :=
  Pu Try.prog (.bin .lss 3) [(vs_45.getD 1 .any), (vs.getD 0 .any)] fun v72 =>
  CdA v72
    (
    Pu Try.prog (.addOff 0) [v15] fun v76 =>
    RdS Try.prog (.ld 1 false) [v76] fun v77 =>
    Pu Try.prog (.bin .mul 3) [v77, v28] fun v79 =>
    Pu Try.prog (.bin .add 3) [v79, (vs_42.getD 1 .any)] fun v81 =>
    Pu Try.prog (.bin .mul 3) [v81, (vs.getD 0 .any)] fun v83 =>
    Pu Try.prog (.bin .add 3) [v83, (vs_45.getD 1 .any)] fun v85 =>
    Pu Try.prog (.idx 1) [v40, v85] fun v86 =>
    RdS Try.prog (.ld 1 false) [v86] fun v87 =>
    Pu Try.prog (.bin .eql 3) [v87, (.p (.int .i64 1152921504606846976))] fun v89 =>
    CdA v89
      (
      Pu Try.prog (.bin .add 3) [(vs_45.getD 1 .any), (.p (.int .i64 1))] fun v74 =>
      k_44 [(vs_45.getD 0 .any), v74]
      ) (S_wordhoardref_Cost_C3 a1 a2 a3 v28 vs v40 v15 vs_42 k_44 vs_45 v87)
    ) (
    Pu Try.prog (.bin .add 3) [(vs_42.getD 1 .any), (.p (.int .i64 1))] fun v69 =>
    k_41 [(vs_45.getD 0 .any), v69]
    )
def S_wordhoardref_Cost_L5 (a1 : AV) (a2 : AV) (a3 : AV) (v28 : AV) (vs : List AV) (v40 : AV) (k_28 : List AV → AH → Prop) (vs_29 : List AV) (v15 : AV) (vs_42 : List AV) (k_41 : List AV → AH → Prop) : AH → Prop :=
  Pu Try.prog (.bin .lss 3) [(vs_42.getD 1 .any), v28] fun v67 =>
  CdA v67
    (
    LoopA Try.prog 2 (S_wordhoardref_Cost_L4 a1 a2 a3 v28 vs v40 v15 k_41 vs_42) [(vs_42.getD 0 .any), (.p (.int .i64 0))]
    ) (
    Pu Try.prog (.bin .add 3) [(vs_29.getD 1 .any), (.p (.int .i64 1))] fun v59 =>
    k_28 [(vs_42.getD 0 .any), v59]
    )
def S_wordhoardref_Cost_L6 (a1 : AV) (a2 : AV) (a3 : AV) (v4 : AV) (v28 : AV) (vs : List AV) (v40 : AV) (k_26 : List AV → AH → Prop) (vs_29 : List AV) (k_28 : List AV → AH → Prop) : AH → Prop :=
  Pu Try.prog (.addOff 1) [v4] fun v54 =>
  RdS Try.prog (.ld 1 false) [v54] fun v55 =>
  Pu Try.prog .len [v55] fun v56 =>
  Pu Try.prog (.bin .lss 3) [(vs_29.getD 1 .any), v56] fun v57 =>
  CdA v57
    (
    Rg 7 fun b_34 =>
    Pu Try.prog (.addOff 1) [v4] fun v60 =>
    RdS Try.prog (.ld 1 false) [v60] fun v61 =>
    Pu Try.prog (.idx 5) [v61, (vs_29.getD 1 .any)] fun v63 =>
    RdS Try.prog (.ld 5 true) [v63] fun v64 =>
    Al (b_34 + 5) (.nw 53 [.p (.int .i64 0), .p (.int .i64 0), .p (.int .i64 0), .p (.int .i64 0), .p (.int .i64 0)]) [] fun v15 =>
    WrS Try.prog (b_34 + 6) (.st 5) [v15, v64] fun _ =>
    LoopA Try.prog 2 (S_wordhoardref_Cost_L5 a1 a2 a3 v28 vs v40 k_28 vs_29 v15) [(vs_29.getD 0 .any), (.p (.int .i64 0))]
    ) (
    k_26 [(vs_29.getD 0 .any)]
    )
def S_wordhoardref_Cost_C7 (a1 : AV) (v4 : AV) (v28 : AV) (vs : List AV) (v40 : AV) (k_147 : List AV → AH → Prop) (vs_148 : List AV) : AH → Prop :=
  Rg 7 fun b_153 =>
  Pu Try.prog (.addOff 2) [v4] fun v164 =>
  RdS Try.prog (.ld 1 false) [v164] fun v165 =>
  Pu Try.prog (.idx 2) [v165, (vs_148.getD 1 .any)] fun v167 =>
  RdS Try.prog (.ld 2 true) [v167] fun v168 =>
  Al (b_153 + 5) (.nw 56 [.p (.int .i64 0), .p (.int .i64 0)]) [] fun v24 =>
  WrS Try.prog (b_153 + 6) (.st 2) [v24, v168] fun _ =>
  Pu Try.prog (.addOff 0) [v24] fun v170 =>
  RdS Try.prog (.ld 1 false) [v170] fun v171 =>
  Pu Try.prog (.bin .mul 3) [v171, v28] fun v173 =>
  Pu Try.prog .len [a1] fun v175 =>
  Pu Try.prog (.bin .add 3) [v173, v175] fun v176 =>
  Pu Try.prog (.bin .mul 3) [v176, (vs.getD 0 .any)] fun v178 =>
  Pu Try.prog (.bin .add 3) [v178, (vs.getD 0 .any)] fun v180 =>
  Pu Try.prog (.bin .sub 3) [v180, (.p (.int .i64 1))] fun v181 =>
  Pu Try.prog (.idx 1) [v40, v181] fun v182 =>
  RdS Try.prog (.ld 1 false) [v182] fun v183 =>
  Pu Try.prog (.bin .lss 3) [v183, (.p (.int .i64 1152921504606846976))] fun v185 =>
  Gd v185 true (fun k_172 => k_172 v183) fun v187 =>
  Gd v185 true (fun k_174 => Pu Try.prog (.addOff 1) [v24] k_174) fun v188 =>
  Gd v185 true (fun k_176 => RdS Try.prog (.ld 1 false) [v188] k_176) fun v189 =>
  Gd v185 true (fun k_178 => Pu Try.prog (.bin .add 3) [v187, v189] k_178) fun v190 =>
  Gd v185 true (fun k_180 => k_180 (vs_148.getD 0 .any)) fun v191 =>
  Gd v185 true (fun k_182 => Pu Try.prog (.bin .lss 3) [v190, v191] k_182) fun v192 =>
  Pu Try.prog .pick [v185, v192, (.p (.bool false))] fun v193 =>
  CdA v193
    (
    Pu Try.prog (.addOff 1) [v24] fun v195 =>
    RdS Try.prog (.ld 1 false) [v195] fun v196 =>
    Pu Try.prog (.bin .add 3) [v183, v196] fun v197 =>
    Pu Try.prog (.bin .add 3) [(vs_148.getD 1 .any), (.p (.int .i64 1))] fun v163 =>
    k_147 [v197, v163]
    ) (
    Pu Try.prog (.bin .add 3) [(vs_148.getD 1 .any), (.p (.int .i64 1))] fun v163_188 =>
    k_147 [(vs_148.getD 0 .any), v163_188]
    )
def S_wordhoardref_Cost_L8 (a1 : AV) (Q : AV → AH → Prop) (H : AH) (v4 : AV) (v28 : AV) (vs : List AV) (v40 : AV) (vs_148 : List AV) (k_147 : List AV → AH → Prop) : AH → Prop :=
  Pu Try.prog (.addOff 2) [v4] fun v158 =>
  RdS Try.prog (.ld 1 false) [v158] fun v159 =>
  Pu Try.prog .len [v159] fun v160 =>
  Pu Try.prog (.bin .lss 3) [(vs_148.getD 1 .any), v160] fun v161 =>
  CdA v161
    (S_wordhoardref_Cost_C7 a1 v4 v28 vs v40 k_147 vs_148) (
    Rt Try.prog H.nx (vs_148.getD 0 .any) Q
    )
def S_wordhoardref_Cost_L9 (a1 : AV) (a2 : AV) (a3 : AV) (Q : AV → AH → Prop) (H : AH) (v4 : AV) (v28 : AV) (vs : List AV) (v40 : AV) (vs_27 : List AV) (k_26 : List AV → AH → Prop) : AH → Prop :=
  CdA (vs_27.getD 0 .any)
    (
    LoopA Try.prog 2 (S_wordhoardref_Cost_L6 a1 a2 a3 v4 v28 vs v40 k_26) [(.p (.bool false)), (.p (.int .i64 0))]
    ) (
    LoopA Try.prog 2 (S_wordhoardref_Cost_L8 a1 Q H v4 v28 vs v40) [(.p (.int .i64 1152921504606846976)), (.p (.int .i64 0))]
    )
def S_wordhoardref_Cost_L10 (a1 : AV) (a2 : AV) (a3 : AV) (Q : AV → AH → Prop) (H : AH) (v4 : AV) (v28 : AV) (vs : List AV) (v40 : AV) (vs_16 : List AV) (k_15 : List AV → AH → Prop) : AH → Prop :=
  Pu Try.prog .len [v40] fun v43 =>
  Pu Try.prog (.bin .lss 3) [(vs_16.getD 0 .any), v43] fun v44 =>
  CdA v44
    (
    Rg 4 fun b_19 =>
    Pu Try.prog (.idx 1) [v40, (vs_16.getD 0 .any)] fun v49 =>
    WrS Try.prog (b_19 + 3) (.st 1) [v49, (.p (.int .i64 1152921504606846976))] fun _ =>
    Pu Try.prog (.bin .add 3) [(vs_16.getD 0 .any), (.p (.int .i64 1))] fun v46 =>
    k_15 [v46]
    ) (
    Rg 3 fun b_23 =>
    Pu Try.prog (.idx 1) [v40, (.p (.int .i64 0))] fun v51 =>
    WrS Try.prog (b_23 + 2) (.st 1) [v51, (.p (.int .i64 0))] fun _ =>
    LoopA Try.prog 1 (S_wordhoardref_Cost_L9 a1 a2 a3 Q H v4 v28 vs v40) [(.p (.bool true))]
    )
def S_wordhoardref_Cost_K11 (a1 : AV) (a2 : AV) (a3 : AV) (Q : AV → AH → Prop) (H : AH) (v4 : AV) (v28 : AV) (vs : List AV) : AH → Prop :=
  Rg 8 fun b_9 =>
  Pu Try.prog (.addOff 0) [v4] fun v34 =>
  RdS Try.prog (.ld 1 false) [v34] fun v35 =>
  Pu Try.prog (.bin .mul 3) [v35, v28] fun v37 =>
  Pu Try.prog (.bin .mul 3) [v37, (vs.getD 0 .any)] fun v39 =>
  Al (b_9 + 6) (.ms 3 1 8 [.p (.int .i64 0)]) [v39, v39] fun v40 =>
  LoopA Try.prog 1 (S_wordhoardref_Cost_L10 a1 a2 a3 Q H v4 v28 vs v40) [(.p (.int .i64 0))]
def S_wordhoardref_Cost (a0 a1 a2 a3 : AV) (Q : AV → AH → Prop) (H : AH) : Prop := (
    Rg 2 fun b =>
    Al (b + 0) (.bx 25) [a0] fun v4 =>
    Pu Try.prog .len [a1] fun v27 =>
    Pu Try.prog (.bin .add 3) [v27, (.p (.int .i64 1))] fun v28 =>
    Pu Try.prog .len [a2] fun v30 =>
    Pu Try.prog (.bin .add 3) [v30, (.p (.int .i64 1))] fun v31 =>
    CutA Try.prog 1 (fun k =>
      Pu Try.prog (.un .not) [a3] fun v33 =>
      CdA v33
        (
        k [(.p (.int .i64 1))]
        ) (
        k [v31]
        )
      ) (S_wordhoardref_Cost_K11 a1 a2 a3 Q H v4 v28)
    ) H
theorem eq_wordhoardref_Cost (a0 a1 a2 a3 : AV) (Q : AV → AH → Prop) (H : AH) : FnA Try.prog 199 (regsF Try.f18) ac_wordhoardref_Cost [.tm 8] [a0, a1, a2, a3] H Q = S_wordhoardref_Cost a0 a1 a2 a3 Q H := by kernel_rfl
theorem tri_wordhoardref_Cost {a0 a1 a2 a3 : AV} {H : AH} {Q : AV → AH → Prop} (h : S_wordhoardref_Cost a0 a1 a2 a3 Q H) : Tri Try.prog 18 [a0, a1, a2, a3] H Q :=
  tri_of (Ms := [#[], #[], #[], #[], #[], #[], #[], #[], #[], #[], #[], #[], #[], #[], #[], #[], #[], #[], #[], #[], #[], #[], #[], #[], #[0, 0, 2, 7, 15, 31, 31, 127, 255, 31, 543, 2047, 4095], #[], #[], #[0, 0, 2, 7, 15, 31, 31, 127, 255, 31, 543, 2047, 4095], #[], #[], #[0, 0, 2, 7, 0, 0, 48, 112, 255], #[], #[], #[], #[], #[], #[], #[], #[], #[], #[], #[], #[], #[], #[]]) mixed Try.func18 rfl (by kernel_rfl) (by kernel_rfl) rfl (of_decide_eq_true rfl : 4 ≤ 199) (by rw [eq_wordhoardref_Cost a0 a1 a2 a3 Q H]; exact h : FnA Try.prog 199 (regsF Try.f18) ac_wordhoardref_Cost [.tm 8] [a0, a1, a2, a3] H Q)

/-! wordhoard/wordhoardref.Same -/
def ac_wordhoardref_Same : AC := (.seq (.reg 0) (.seq (.seq (.reg 1) (.cond (.tmp 10) (.seq (.reg 2) .ret) .skip)) (.seq (.seq (.reg 3) (.block 0 (.loop [5] [(4, 5), (11, 26)] (.seq (.seq (.reg 4) (.cond (.tmp 14) .skip (.exit 0))) (.seq (.block 1 (.seq (.reg 5) (.cond (.tmp 25) (.seq (.reg 6) .ret) .skip))) (.reg 7)))))) (.seq (.reg 8) .ret))))
def S_wordhoardref_Same_L1 (a0 : AV) (a1 : AV) (Q : AV → AH → Prop) (H : AH) (vs : List AV) (k : List AV → AH → Prop) : AH → Prop :=
  Pu Try.prog .len [a0] fun v13 =>
  Pu Try.prog (.bin .lss 3) [(vs.getD 0 .any), v13] fun v14 =>
  CdA v14
    (
    Vw fun V =>
    Pu Try.prog (.idx 1) [a0, (vs.getD 0 .any)] fun v19 =>
    Rd Try.prog V (.ld 1 false) [v19] fun v20 =>
    Pu Try.prog (.idx 1) [a1, (vs.getD 0 .any)] fun v23 =>
    Rd Try.prog V (.ld 1 false) [v23] fun v24 =>
    Pu Try.prog (.bin .neq 3) [v20, v24] fun v25 =>
    CdA v25
      (
      Rt Try.prog H.nx (.p (.bool false)) Q
      ) (
      Pu Try.prog (.bin .add 3) [(vs.getD 0 .any), (.p (.int .i64 1))] fun v16 =>
      k [v16]
      )
    ) (
    Rt Try.prog H.nx (.p (.bool true)) Q
    )
def S_wordhoardref_Same (a0 a1 : AV) (Q : AV → AH → Prop) (H : AH) : Prop := (
    Pu Try.prog .len [a0] fun v7 =>
    Pu Try.prog .len [a1] fun v9 =>
    Pu Try.prog (.bin .neq 3) [v7, v9] fun v10 =>
    CdA v10
      (
      Rt Try.prog H.nx (.p (.bool false)) Q
      ) (
      LoopA Try.prog 1 (S_wordhoardref_Same_L1 a0 a1 Q H) [(.p (.int .i64 0))]
      )
    ) H
theorem eq_wordhoardref_Same (a0 a1 : AV) (Q : AV → AH → Prop) (H : AH) : FnA Try.prog 26 (regsF Try.f23) ac_wordhoardref_Same [.tm 4] [a0, a1] H Q = S_wordhoardref_Same a0 a1 Q H := by kernel_rfl
theorem tri_wordhoardref_Same {a0 a1 : AV} {H : AH} {Q : AV → AH → Prop} (h : S_wordhoardref_Same a0 a1 Q H) : Tri Try.prog 23 [a0, a1] H Q :=
  tri_of (Ms := [#[], #[], #[], #[], #[], #[0, 0, 3, 7, 0, 0, 48, 112, 255], #[], #[], #[]]) mixed Try.func23 rfl (by kernel_rfl) (by kernel_rfl) rfl (of_decide_eq_true rfl : 2 ≤ 26) (by rw [eq_wordhoardref_Same a0 a1 Q H]; exact h : FnA Try.prog 26 (regsF Try.f23) ac_wordhoardref_Same [.tm 4] [a0, a1] H Q)

/-! wordhoard/wordhoardref.SymbolsFault -/
def ac_wordhoardref_SymbolsFault : AC := (.seq (.reg 0) (.seq (.seq (.reg 1) (.cond (.tmp 6) (.seq (.reg 2) .ret) .skip)) (.seq (.seq (.reg 3) (.block 0 (.loop [3] [(2, 3), (7, 25)] (.seq (.seq (.reg 4) (.cond (.tmp 10) .skip (.exit 0))) (.seq (.block 1 (.seq (.reg 5) (.cond (.tmp 24) (.seq (.reg 6) .ret) .skip))) (.reg 7)))))) (.seq (.reg 8) .ret))))
def S_wordhoardref_SymbolsFault_L1 (a0 : AV) (Q : AV → AH → Prop) (H : AH) (vs : List AV) (k : List AV → AH → Prop) : AH → Prop :=
  Pu Try.prog .len [a0] fun v9 =>
  Pu Try.prog (.bin .lss 3) [(vs.getD 0 .any), v9] fun v10 =>
  CdA v10
    (
    Pu Try.prog (.idx 1) [a0, (vs.getD 0 .any)] fun v15 =>
    RdS Try.prog (.ld 1 false) [v15] fun v16 =>
    Pu Try.prog (.bin .lss 3) [v16, (.p (.int .i64 1))] fun v17 =>
    Gd v17 false (fun k_11 => k_11 a0) fun v19 =>
    Gd v17 false (fun k_13 => k_13 (vs.getD 0 .any)) fun v20 =>
    Gd v17 false (fun k_15 => Pu Try.prog (.idx 1) [v19, v20] k_15) fun v21 =>
    Gd v17 false (fun k_17 => RdS Try.prog (.ld 1 false) [v21] k_17) fun v22 =>
    Gd v17 false (fun k_19 => Pu Try.prog (.bin .gtr 3) [v22, (.p (.int .i64 60))] k_19) fun v23 =>
    Pu Try.prog .pick [v17, (.p (.bool true)), v23] fun v24 =>
    CdA v24
      (
      Rt Try.prog H.nx (.p (.int .i64 3)) Q
      ) (
      Pu Try.prog (.bin .add 3) [(vs.getD 0 .any), (.p (.int .i64 1))] fun v12 =>
      k [v12]
      )
    ) (
    Rt Try.prog H.nx (.p (.int .i64 0)) Q
    )
def S_wordhoardref_SymbolsFault (a0 : AV) (Q : AV → AH → Prop) (H : AH) : Prop := (
    Pu Try.prog .len [a0] fun v5 =>
    Pu Try.prog (.bin .gtr 3) [v5, (.p (.int .i64 60))] fun v6 =>
    CdA v6
      (
      Rt Try.prog H.nx (.p (.int .i64 2)) Q
      ) (
      LoopA Try.prog 1 (S_wordhoardref_SymbolsFault_L1 a0 Q H) [(.p (.int .i64 0))]
      )
    ) H
theorem eq_wordhoardref_SymbolsFault (a0 : AV) (Q : AV → AH → Prop) (H : AH) : FnA Try.prog 25 (regsF Try.f28) ac_wordhoardref_SymbolsFault [.tm 2] [a0] H Q = S_wordhoardref_SymbolsFault a0 Q H := by kernel_rfl
theorem tri_wordhoardref_SymbolsFault {a0 : AV} {H : AH} {Q : AV → AH → Prop} (h : S_wordhoardref_SymbolsFault a0 Q H) : Tri Try.prog 28 [a0] H Q :=
  tri_of (Ms := [#[], #[], #[], #[], #[], #[], #[], #[], #[]]) mixed Try.func28 rfl (by kernel_rfl) (by kernel_rfl) rfl (of_decide_eq_true rfl : 1 ≤ 25) (by rw [eq_wordhoardref_SymbolsFault a0 Q H]; exact h : FnA Try.prog 25 (regsF Try.f28) ac_wordhoardref_SymbolsFault [.tm 2] [a0] H Q)

/-! wordhoard/wordhoardlaw.MachineThrough -/
def ac_wordhoardlaw_MachineThrough : AC := (.seq (.reg 0) (.seq (.seq (.reg 1) (.cond (.tmp 14) (.seq (.reg 2) .ret) .skip)) (.seq (.seq (.reg 3) (.cond (.tmp 36) (.seq (.reg 4) .ret) .skip)) (.seq (.reg 5) (.cut [9] [(39, 43)] (.seq (.reg 6) (.cond (.tmp 40) (.reg 7) .skip)) (.seq (.reg 8) (.cut [10] [(43, 50)] (.seq (.reg 9) (.cond (.tmp 44) (.reg 10) .skip)) (.seq (.reg 11) (.seq (.reg 12) .ret)))))))))
def S_wordhoardlaw_MachineThrough_K1 (a2 : AV) (a3 : AV) (Q : AV → AH → Prop) (H : AH) (v4 : AV) (v5 : AV) (vs : List AV) (vs_43 : List AV) : AH → Prop :=
  Rg 9 fun b_44 =>
  RdS Try.prog (.ld 3 true) [v4] fun v51 =>
  RdS Try.prog (.ld 3 true) [v5] fun v52 =>
  Ca Try.prog (.fn (.func 15) [] []) [v51, v52] fun v53 =>
  Pu Try.prog (.ext 0) [v53] fun v54 =>
  Pu Try.prog (.ext 1) [v53] fun v55 =>
  Al (b_44 + 6) (.nw 25 [.p (.int .i64 0), .p (.slice none 0 0), .p (.slice none 0 0)]) [] fun v11 =>
  WrS Try.prog (b_44 + 7) (.st 3) [v11, v54] fun _ =>
  Vw fun V =>
  Rd Try.prog V (.ld 3 true) [v11] fun v56 =>
  Rd Try.prog V (.ld 3 true) [v4] fun v59 =>
  CaV Try.prog V (.fn (.func 17) [] []) [v59] fun v60 =>
  GdV v60 true (fun k_57 => Rd Try.prog V (.ld 3 true) [v5] (fun a => k_57 a V)) V fun v62 V_58 =>
  GdV v60 true (fun k_60 => CaV Try.prog V_58 (.fn (.func 17) [] []) [v62] (fun a => k_60 a V_58)) V_58 fun v63 V_61 =>
  Pu Try.prog .pick [v60, v63, (.p (.bool false))] fun v64 =>
  CaV Try.prog V_61 (.fn (.func 16) [] []) [v56, v55, (vs.getD 0 .any), v64, a2, a3, (vs_43.getD 0 .any)] fun v68 =>
  Rt Try.prog H.nx v68 Q
def S_wordhoardlaw_MachineThrough_K2 (a2 : AV) (a3 : AV) (Q : AV → AH → Prop) (H : AH) (v4 : AV) (v5 : AV) (vs : List AV) : AH → Prop :=
  CutA Try.prog 1 (fun k_42 =>
    Pu Try.prog (.bin .eql 28) [(vs.getD 0 .any), (.p (.int .i64 0))] fun v44 =>
    CdA v44
      (
      RdS Try.prog (.ld 3 true) [v4] fun v45 =>
      RdS Try.prog (.ld 3 true) [v5] fun v46 =>
      Ca Try.prog (.fn (.func 14) [] []) [v45, v46, a2, a3] fun v49 =>
      k_42 [v49]
      ) (
      k_42 [(.p (.int .i64 1152921504606846976))]
      )
    ) (S_wordhoardlaw_MachineThrough_K1 a2 a3 Q H v4 v5 vs)
def S_wordhoardlaw_MachineThrough_C3 (a2 : AV) (a3 : AV) (Q : AV → AH → Prop) (H : AH) (v4 : AV) (v5 : AV) : AH → Prop :=
  RdS Try.prog (.ld 3 true) [v4] fun v15 =>
  Ca Try.prog (.fn (.func 10) [] []) [v15] fun v16 =>
  Pu Try.prog (.un .not) [v16] fun v17 =>
  Gd v17 false (fun k => RdS Try.prog (.ld 3 true) [v5] k) fun v19 =>
  Gd v17 false (fun k_12 => Ca Try.prog (.fn (.func 10) [] []) [v19] k_12) fun v20 =>
  Gd v17 false (fun k_14 => Pu Try.prog (.un .not) [v20] k_14) fun v21 =>
  Pu Try.prog .pick [v17, (.p (.bool true)), v21] fun v22 =>
  Gd v22 false (fun k_17 => k_17 a2) fun v24 =>
  Gd v22 false (fun k_19 => Pu Try.prog .len [v24] k_19) fun v25 =>
  Gd v22 false (fun k_21 => k_21 a3) fun v26 =>
  Gd v22 false (fun k_23 => Pu Try.prog .len [v26] k_23) fun v27 =>
  Gd v22 false (fun k_25 => Pu Try.prog (.bin .add 3) [v25, v27] k_25) fun v28 =>
  Gd v22 false (fun k_27 => Pu Try.prog (.bin .gtr 3) [v28, (.p (.int .i64 8))] k_27) fun v29 =>
  Pu Try.prog .pick [v22, (.p (.bool true)), v29] fun v30 =>
  Gd v30 false (fun k_30 => k_30 a2) fun v32 =>
  Gd v30 false (fun k_32 => k_32 a3) fun v33 =>
  Gd v30 false (fun k_34 => Ca Try.prog (.fn (.func 13) [] []) [v32, v33] k_34) fun v34 =>
  Gd v30 false (fun k_36 => Pu Try.prog (.bin .neq 28) [v34, (.p (.int .i64 0))] k_36) fun v35 =>
  Pu Try.prog .pick [v30, (.p (.bool true)), v35] fun v36 =>
  CdA v36
    (
    Rt Try.prog H.nx (.p (.bool true)) Q
    ) (
    RdS Try.prog (.ld 3 true) [v4] fun v37 =>
    Ca Try.prog (.fn (.func 9) [] []) [v37] fun v38 =>
    CutA Try.prog 1 (fun k_40 =>
      Pu Try.prog (.bin .eql 28) [v38, (.p (.int .i64 0))] fun v40 =>
      CdA v40
        (
        RdS Try.prog (.ld 3 true) [v5] fun v41 =>
        Ca Try.prog (.fn (.func 9) [] []) [v41] fun v42 =>
        k_40 [v42]
        ) (
        k_40 [v38]
        )
      ) (S_wordhoardlaw_MachineThrough_K2 a2 a3 Q H v4 v5)
    )
def S_wordhoardlaw_MachineThrough (a0 a1 a2 a3 : AV) (Q : AV → AH → Prop) (H : AH) : Prop := (
    Rg 3 fun b =>
    Al (b + 0) (.bx 25) [a0] fun v4 =>
    Al (b + 1) (.bx 25) [a1] fun v5 =>
    Ca Try.prog (.fn (.func 7) [] []) [] fun v13 =>
    Pu Try.prog (.un .not) [v13] fun v14 =>
    CdA v14
      (
      Rt Try.prog H.nx (.p (.bool false)) Q
      ) (S_wordhoardlaw_MachineThrough_C3 a2 a3 Q H v4 v5)
    ) H
theorem eq_wordhoardlaw_MachineThrough (a0 a1 a2 a3 : AV) (Q : AV → AH → Prop) (H : AH) : FnA Try.prog 69 (regsF Try.f4) ac_wordhoardlaw_MachineThrough [.tm 8] [a0, a1, a2, a3] H Q = S_wordhoardlaw_MachineThrough a0 a1 a2 a3 Q H := by kernel_rfl
theorem tri_wordhoardlaw_MachineThrough {a0 a1 a2 a3 : AV} {H : AH} {Q : AV → AH → Prop} (h : S_wordhoardlaw_MachineThrough a0 a1 a2 a3 Q H) : Tri Try.prog 4 [a0, a1, a2, a3] H Q :=
  tri_of (Ms := [#[], #[], #[], #[], #[], #[], #[], #[], #[], #[], #[], #[], #[0, 0, 0, 0, 8, 24, 56, 120, 248, 0, 0, 0, 4095, 8191]]) mixed Try.func4 rfl (by kernel_rfl) (by kernel_rfl) rfl (of_decide_eq_true rfl : 4 ≤ 69) (by rw [eq_wordhoardlaw_MachineThrough a0 a1 a2 a3 Q H]; exact h : FnA Try.prog 69 (regsF Try.f4) ac_wordhoardlaw_MachineThrough [.tm 8] [a0, a1, a2, a3] H Q)

/-! wordhoard/wordhoardlaw.MachineMakes -/
def ac_wordhoardlaw_MachineMakes : AC := (.seq (.reg 0) (.seq (.seq (.reg 1) (.cond (.tmp 21) (.seq (.reg 2) .ret) .skip)) (.seq (.seq (.reg 3) (.cond (.tmp 43) (.seq (.reg 4) .ret) .skip)) (.seq (.reg 5) (.seq (.reg 6) (.cut [11] [(49, 52)] (.seq (.reg 7) (.cond (.tmp 50) (.reg 8) .skip)) (.seq (.reg 9) (.seq (.reg 10) (.cut [13, 14] [(58, 74)] (.seq (.reg 11) (.cond (.tmp 59) (.reg 12) .skip)) (.seq (.reg 13) (.seq (.seq (.reg 14) (.cond (.tmp 88) (.seq (.reg 15) .ret) .skip)) (.seq (.reg 16) (.seq (.seq (.reg 17) (.cond (.tmp 103) (.seq (.reg 18) .ret) .skip)) (.seq (.reg 19) (.cut [17, 18, 19] [(104, 120)] (.seq (.reg 20) (.cond (.tmp 105) (.seq (.reg 21) (.seq (.reg 22) (.cond (.tmp 116) (.reg 23) .skip))) .skip)) (.seq (.reg 24) (.seq (.reg 25) (.seq (.seq (.reg 26) (.cond (.tmp 135) (.seq (.reg 27) .ret) .skip)) (.seq (.reg 28) (.seq (.seq (.reg 29) (.cond (.tmp 149) (.seq (.reg 30) .ret) .skip)) (.seq (.reg 31) (.seq (.reg 32) .ret))))))))))))))))))))))
def S_wordhoardlaw_MachineMakes_K1 (a2 : AV) (a3 : AV) (Q : AV → AH → Prop) (H : AH) (v4 : AV) (v45 : AV) (v15 : AV) (vs_76 : List AV) : AH → Prop :=
  RdS Try.prog (.ld 3 true) [v4] fun v120 =>
  Ca Try.prog (.fn (.func 17) [] []) [v120] fun v121 =>
  Rg 7 fun b_79 =>
  RdS Try.prog (.ld 3 true) [v4] fun v123 =>
  Ca Try.prog (.fn (.func 24) [] []) [v123] fun v124 =>
  Pu Try.prog (.ext 0) [v124] fun v125 =>
  Pu Try.prog (.ext 1) [v124] fun v126 =>
  WrS Try.prog (b_79 + 5) (.st 3) [v15, v125] fun _ =>
  RdS Try.prog (.ld 3 true) [v15] fun v127 =>
  Ca Try.prog (.fn (.func 16) [] []) [v127, v126, v45, v121, a2, a3, (vs_76.getD 0 .any)] fun v134 =>
  Pu Try.prog (.un .not) [v134] fun v135 =>
  CdA v135
    (
    Rt Try.prog H.nx (.p (.bool false)) Q
    ) (
    Rg 7 fun b_88 =>
    RdS Try.prog (.ld 3 true) [v4] fun v137 =>
    Ca Try.prog (.fn (.func 25) [] []) [v137] fun v138 =>
    Pu Try.prog (.ext 0) [v138] fun v139 =>
    Pu Try.prog (.ext 1) [v138] fun v140 =>
    WrS Try.prog (b_88 + 5) (.st 3) [v15, v139] fun _ =>
    RdS Try.prog (.ld 3 true) [v15] fun v141 =>
    Ca Try.prog (.fn (.func 16) [] []) [v141, v140, v45, v121, a2, a3, (vs_76.getD 1 .any)] fun v148 =>
    Pu Try.prog (.un .not) [v148] fun v149 =>
    CdA v149
      (
      Rt Try.prog H.nx (.p (.bool false)) Q
      ) (
      Rg 7 fun b_97 =>
      RdS Try.prog (.ld 3 true) [v4] fun v151 =>
      Ca Try.prog (.fn (.func 26) [] []) [v151] fun v152 =>
      Pu Try.prog (.ext 0) [v152] fun v153 =>
      Pu Try.prog (.ext 1) [v152] fun v154 =>
      WrS Try.prog (b_97 + 5) (.st 3) [v15, v153] fun _ =>
      RdS Try.prog (.ld 3 true) [v15] fun v155 =>
      Ca Try.prog (.fn (.func 16) [] []) [v155, v154, v45, v121, a2, a3, (vs_76.getD 2 .any)] fun v162 =>
      Rt Try.prog H.nx v162 Q
      )
    )
def S_wordhoardlaw_MachineMakes_C2 (a2 : AV) (a3 : AV) (Q : AV → AH → Prop) (H : AH) (v4 : AV) (v5 : AV) (v45 : AV) (vs : List AV) (v57 : AV) (vs_53 : List AV) (v15 : AV) : AH → Prop :=
  Rg 8 fun b_65 =>
  RdS Try.prog (.ld 3 true) [v4] fun v90 =>
  RdS Try.prog (.ld 3 true) [v5] fun v91 =>
  Ca Try.prog (.fn (.func 21) [] []) [v90, v91] fun v92 =>
  Pu Try.prog (.ext 0) [v92] fun v93 =>
  Pu Try.prog (.ext 1) [v92] fun v94 =>
  WrS Try.prog (b_65 + 6) (.st 3) [v15, v93] fun _ =>
  RdS Try.prog (.ld 3 true) [v15] fun v95 =>
  Ca Try.prog (.fn (.func 16) [] []) [v95, v94, (vs.getD 0 .any), v57, a2, a3, (vs_53.getD 1 .any)] fun v102 =>
  Pu Try.prog (.un .not) [v102] fun v103 =>
  CdA v103
    (
    Rt Try.prog H.nx (.p (.bool false)) Q
    ) (
    CutA Try.prog 3 (fun k_75 =>
      Pu Try.prog (.bin .eql 28) [v45, (.p (.int .i64 0))] fun v105 =>
      CdA v105
        (
        Vw fun V_106 =>
        Rd Try.prog V_106 (.ld 3 true) [v4] fun v106 =>
        CaV Try.prog V_106 (.fn (.func 22) [] []) [v106, a2, a3] fun v109 =>
        Rd Try.prog V_106 (.ld 3 true) [v4] fun v110 =>
        CaV Try.prog V_106 (.fn (.func 18) [] []) [v110, a3, a2, (.p (.bool true))] fun v113 =>
        Ca Try.prog (.fn (.func 23) [] []) [a2, a3] fun v116 =>
        CdA v116
          (
          RdS Try.prog (.ld 3 true) [v4] fun v117 =>
          Ca Try.prog (.fn (.func 18) [] []) [v117, a2, (.p (.slice none 0 0)), (.p (.bool false))] fun v119 =>
          k_75 [v109, v113, v119]
          ) (
          k_75 [v109, v113, (.p (.int .i64 1152921504606846976))]
          )
        ) (
        k_75 [(.p (.int .i64 1152921504606846976)), (.p (.int .i64 1152921504606846976)), (.p (.int .i64 1152921504606846976))]
        )
      ) (S_wordhoardlaw_MachineMakes_K1 a2 a3 Q H v4 v45 v15)
    )
def S_wordhoardlaw_MachineMakes_K3 (a2 : AV) (a3 : AV) (Q : AV → AH → Prop) (H : AH) (v4 : AV) (v5 : AV) (v45 : AV) (vs : List AV) (v57 : AV) (vs_53 : List AV) : AH → Prop :=
  Rg 9 fun b_54 =>
  RdS Try.prog (.ld 3 true) [v4] fun v75 =>
  RdS Try.prog (.ld 3 true) [v5] fun v76 =>
  Ca Try.prog (.fn (.func 20) [] []) [v75, v76] fun v77 =>
  Pu Try.prog (.ext 0) [v77] fun v78 =>
  Pu Try.prog (.ext 1) [v77] fun v79 =>
  Al (b_54 + 6) (.nw 25 [.p (.int .i64 0), .p (.slice none 0 0), .p (.slice none 0 0)]) [] fun v15 =>
  WrS Try.prog (b_54 + 7) (.st 3) [v15, v78] fun _ =>
  RdS Try.prog (.ld 3 true) [v15] fun v80 =>
  Ca Try.prog (.fn (.func 16) [] []) [v80, v79, (vs.getD 0 .any), v57, a2, a3, (vs_53.getD 0 .any)] fun v87 =>
  Pu Try.prog (.un .not) [v87] fun v88 =>
  CdA v88
    (
    Rt Try.prog H.nx (.p (.bool false)) Q
    ) (S_wordhoardlaw_MachineMakes_C2 a2 a3 Q H v4 v5 v45 vs v57 vs_53 v15)
def S_wordhoardlaw_MachineMakes_K4 (a2 : AV) (a3 : AV) (Q : AV → AH → Prop) (H : AH) (v4 : AV) (v5 : AV) (v45 : AV) (vs : List AV) : AH → Prop :=
  RdS Try.prog (.ld 3 true) [v4] fun v52 =>
  Ca Try.prog (.fn (.func 17) [] []) [v52] fun v53 =>
  Gd v53 true (fun k_48 => RdS Try.prog (.ld 3 true) [v5] k_48) fun v55 =>
  Gd v53 true (fun k_50 => Ca Try.prog (.fn (.func 17) [] []) [v55] k_50) fun v56 =>
  Pu Try.prog .pick [v53, v56, (.p (.bool false))] fun v57 =>
  CutA Try.prog 2 (fun k_52 =>
    Pu Try.prog (.bin .eql 28) [(vs.getD 0 .any), (.p (.int .i64 0))] fun v59 =>
    CdA v59
      (
      Vw fun V_115 =>
      Rd Try.prog V_115 (.ld 3 true) [v4] fun v60 =>
      CaV Try.prog V_115 (.fn (.func 18) [] []) [v60, a2, a3, (.p (.bool true))] fun v63 =>
      Rd Try.prog V_115 (.ld 3 true) [v5] fun v64 =>
      CaV Try.prog V_115 (.fn (.func 18) [] []) [v64, a2, a3, (.p (.bool true))] fun v67 =>
      Pu Try.prog .mn [v63, v67] fun v68 =>
      Rd Try.prog V_115 (.ld 3 true) [v4] fun v69 =>
      Rd Try.prog V_115 (.ld 3 true) [v5] fun v70 =>
      CaV Try.prog V_115 (.fn (.func 19) [] []) [v69, v70, a2, a3] fun v73 =>
      k_52 [v68, v73]
      ) (
      k_52 [(.p (.int .i64 1152921504606846976)), (.p (.int .i64 1152921504606846976))]
      )
    ) (S_wordhoardlaw_MachineMakes_K3 a2 a3 Q H v4 v5 v45 vs v57)
def S_wordhoardlaw_MachineMakes_C5 (a2 : AV) (a3 : AV) (Q : AV → AH → Prop) (H : AH) (v4 : AV) (v5 : AV) : AH → Prop :=
  RdS Try.prog (.ld 3 true) [v4] fun v22 =>
  Ca Try.prog (.fn (.func 10) [] []) [v22] fun v23 =>
  Pu Try.prog (.un .not) [v23] fun v24 =>
  Gd v24 false (fun k => RdS Try.prog (.ld 3 true) [v5] k) fun v26 =>
  Gd v24 false (fun k_12 => Ca Try.prog (.fn (.func 10) [] []) [v26] k_12) fun v27 =>
  Gd v24 false (fun k_14 => Pu Try.prog (.un .not) [v27] k_14) fun v28 =>
  Pu Try.prog .pick [v24, (.p (.bool true)), v28] fun v29 =>
  Gd v29 false (fun k_17 => k_17 a2) fun v31 =>
  Gd v29 false (fun k_19 => Pu Try.prog .len [v31] k_19) fun v32 =>
  Gd v29 false (fun k_21 => k_21 a3) fun v33 =>
  Gd v29 false (fun k_23 => Pu Try.prog .len [v33] k_23) fun v34 =>
  Gd v29 false (fun k_25 => Pu Try.prog (.bin .add 3) [v32, v34] k_25) fun v35 =>
  Gd v29 false (fun k_27 => Pu Try.prog (.bin .gtr 3) [v35, (.p (.int .i64 8))] k_27) fun v36 =>
  Pu Try.prog .pick [v29, (.p (.bool true)), v36] fun v37 =>
  Gd v37 false (fun k_30 => k_30 a2) fun v39 =>
  Gd v37 false (fun k_32 => k_32 a3) fun v40 =>
  Gd v37 false (fun k_34 => Ca Try.prog (.fn (.func 13) [] []) [v39, v40] k_34) fun v41 =>
  Gd v37 false (fun k_36 => Pu Try.prog (.bin .neq 28) [v41, (.p (.int .i64 0))] k_36) fun v42 =>
  Pu Try.prog .pick [v37, (.p (.bool true)), v42] fun v43 =>
  CdA v43
    (
    Rt Try.prog H.nx (.p (.bool true)) Q
    ) (
    Vw fun V =>
    Rd Try.prog V (.ld 3 true) [v4] fun v44 =>
    CaV Try.prog V (.fn (.func 9) [] []) [v44] fun v45 =>
    Rd Try.prog V (.ld 3 true) [v5] fun v46 =>
    CaV Try.prog V (.fn (.func 9) [] []) [v46] fun v47 =>
    CutA Try.prog 1 (fun k_43 =>
      Pu Try.prog (.bin .eql 28) [v45, (.p (.int .i64 0))] fun v50 =>
      CdA v50
        (
        k_43 [v47]
        ) (
        k_43 [v45]
        )
      ) (S_wordhoardlaw_MachineMakes_K4 a2 a3 Q H v4 v5 v45)
    )
def S_wordhoardlaw_MachineMakes (a0 a1 a2 a3 : AV) (Q : AV → AH → Prop) (H : AH) : Prop := (
    Rg 3 fun b =>
    Al (b + 0) (.bx 25) [a0] fun v4 =>
    Al (b + 1) (.bx 25) [a1] fun v5 =>
    Ca Try.prog (.fn (.func 7) [] []) [] fun v20 =>
    Pu Try.prog (.un .not) [v20] fun v21 =>
    CdA v21
      (
      Rt Try.prog H.nx (.p (.bool false)) Q
      ) (S_wordhoardlaw_MachineMakes_C5 a2 a3 Q H v4 v5)
    ) H
theorem eq_wordhoardlaw_MachineMakes (a0 a1 a2 a3 : AV) (Q : AV → AH → Prop) (H : AH) : FnA Try.prog 163 (regsF Try.f5) ac_wordhoardlaw_MachineMakes [.tm 8] [a0, a1, a2, a3] H Q = S_wordhoardlaw_MachineMakes a0 a1 a2 a3 Q H := by kernel_rfl
theorem tri_wordhoardlaw_MachineMakes {a0 a1 a2 a3 : AV} {H : AH} {Q : AV → AH → Prop} (h : S_wordhoardlaw_MachineMakes a0 a1 a2 a3 Q H) : Tri Try.prog 5 [a0, a1, a2, a3] H Q :=
  tri_of (Ms := [#[], #[], #[], #[], #[], #[0, 1, 0, 7, 15, 31], #[], #[], #[], #[], #[], #[], #[0, 0, 0, 7, 0, 0, 0, 127, 255, 0, 0, 0, 0, 7935, 16383, 32767], #[], #[], #[], #[], #[], #[], #[], #[], #[0, 0, 0, 7, 0, 0, 0, 127, 255, 511], #[], #[], #[], #[], #[], #[], #[], #[], #[], #[], #[]]) mixed Try.func5 rfl (by kernel_rfl) (by kernel_rfl) rfl (of_decide_eq_true rfl : 4 ≤ 163) (by rw [eq_wordhoardlaw_MachineMakes a0 a1 a2 a3 Q H]; exact h : FnA Try.prog 163 (regsF Try.f5) ac_wordhoardlaw_MachineMakes [.tm 8] [a0, a1, a2, a3] H Q)

/-! wordhoard/wordhoardlaw.machineBegun -/
def ac_wordhoardlaw_machineBegun : AC := (.seq (.reg 0) (.seq (.reg 1) (.seq (.reg 2) .ret)))
def S_wordhoardlaw_machineBegun (Q : AV → AH → Prop) (H : AH) : Prop := (
    Rg 11 fun b =>
    Ca Try.prog (.fn (.func 31) [] []) [] fun v5 =>
    Al (b + 1) (.bs 3 1 1 [.p (.int .i64 0)] [(0, 1)]) [(.p (.int .i64 1))] fun v6 =>
    Al (b + 2) (.bs 3 1 1 [.p (.int .i64 0)] [(0, 1)]) [(.p (.int .i64 2))] fun v7 =>
    Ca Try.prog (.fn (.func 11) [] []) [v5, v6, v7] fun v8 =>
    Pu Try.prog (.ext 0) [v8] fun v9 =>
    Pu Try.prog (.ext 1) [v8] fun v10 =>
    Pu Try.prog (.ext 2) [v8] fun v11 =>
    Pu Try.prog (.bin .eql 28) [v11, (.p (.int .i64 0))] fun v13 =>
    Gd v13 true (fun k => k v10) fun v15 =>
    Pu Try.prog .pick [v13, v15, (.p (.bool false))] fun v16 =>
    Gd v16 true (fun k_14 => k_14 v9) fun v18 =>
    Gd v16 true (fun k_16 => Pu Try.prog (.bin .eql 3) [v18, (.p (.int .i64 3))] k_16) fun v19 =>
    Pu Try.prog .pick [v16, v19, (.p (.bool false))] fun v20 =>
    Rt Try.prog H.nx v20 Q
    ) H
theorem eq_wordhoardlaw_machineBegun (Q : AV → AH → Prop) (H : AH) : FnA Try.prog 21 (regsF Try.f7) ac_wordhoardlaw_machineBegun [.tm 0] [] H Q = S_wordhoardlaw_machineBegun Q H := by kernel_rfl
theorem tri_wordhoardlaw_machineBegun {H : AH} {Q : AV → AH → Prop} (h : S_wordhoardlaw_machineBegun Q H) : Tri Try.prog 7 [] H Q :=
  tri_of (Ms := [#[], #[], #[]]) mixed Try.func7 rfl (by kernel_rfl) (by kernel_rfl) rfl (of_decide_eq_true rfl : 0 ≤ 21) (by rw [eq_wordhoardlaw_machineBegun Q H]; exact h : FnA Try.prog 21 (regsF Try.f7) ac_wordhoardlaw_machineBegun [.tm 0] [] H Q)

/-! wordhoard/wordhoardlaw.few -/
def ac_wordhoardlaw_few : AC := (.seq (.reg 0) (.seq (.reg 1) .ret))
def S_wordhoardlaw_few (a0 : AV) (Q : AV → AH → Prop) (H : AH) : Prop := (
    Rg 2 fun b =>
    Al (b + 0) (.bx 25) [a0] fun v1 =>
    Pu Try.prog (.addOff 0) [v1] fun v3 =>
    RdS Try.prog (.ld 1 false) [v3] fun v4 =>
    Pu Try.prog (.bin .leq 3) [v4, (.p (.int .i64 40))] fun v5 =>
    Gd v5 true (fun k => Pu Try.prog (.addOff 1) [v1] k) fun v7 =>
    Gd v5 true (fun k_9 => RdS Try.prog (.ld 1 false) [v7] k_9) fun v8 =>
    Gd v5 true (fun k_11 => Pu Try.prog .len [v8] k_11) fun v9 =>
    Gd v5 true (fun k_13 => Pu Try.prog (.bin .leq 3) [v9, (.p (.int .i64 120))] k_13) fun v10 =>
    Pu Try.prog .pick [v5, v10, (.p (.bool false))] fun v11 =>
    Gd v11 true (fun k_16 => Pu Try.prog (.addOff 2) [v1] k_16) fun v13 =>
    Gd v11 true (fun k_18 => RdS Try.prog (.ld 1 false) [v13] k_18) fun v14 =>
    Gd v11 true (fun k_20 => Pu Try.prog .len [v14] k_20) fun v15 =>
    Gd v11 true (fun k_22 => Pu Try.prog (.bin .leq 3) [v15, (.p (.int .i64 40))] k_22) fun v16 =>
    Pu Try.prog .pick [v11, v16, (.p (.bool false))] fun v17 =>
    Rt Try.prog H.nx v17 Q
    ) H
theorem eq_wordhoardlaw_few (a0 : AV) (Q : AV → AH → Prop) (H : AH) : FnA Try.prog 18 (regsF Try.f10) ac_wordhoardlaw_few [.tm 2] [a0] H Q = S_wordhoardlaw_few a0 Q H := by kernel_rfl
theorem tri_wordhoardlaw_few {a0 : AV} {H : AH} {Q : AV → AH → Prop} (h : S_wordhoardlaw_few a0 Q H) : Tri Try.prog 10 [a0] H Q :=
  tri_of (Ms := [#[], #[]]) mixed Try.func10 rfl (by kernel_rfl) (by kernel_rfl) rfl (of_decide_eq_true rfl : 1 ≤ 18) (by rw [eq_wordhoardlaw_few a0 Q H]; exact h : FnA Try.prog 18 (regsF Try.f10) ac_wordhoardlaw_few [.tm 2] [a0] H Q)

/-! wordhoard/wordhoardlaw.joined -/
def ac_wordhoardlaw_joined : AC := (.seq (.reg 0) (.seq (.reg 1) (.seq (.seq (.reg 2) (.cond (.tmp 16) (.seq (.reg 3) .ret) .skip)) (.seq (.seq (.reg 4) (.cond (.tmp 18) (.seq (.reg 5) .ret) .skip)) (.seq (.reg 6) .ret)))))
def S_wordhoardlaw_joined (a0 a1 : AV) (Q : AV → AH → Prop) (H : AH) : Prop := (
    Ca Try.prog (.fn (.func 28) [] []) [a0] fun v8 =>
    Ca Try.prog (.fn (.func 28) [] []) [a1] fun v10 =>
    Pu Try.prog (.bin .eql 28) [v8, (.p (.int .i64 2))] fun v12 =>
    Gd v12 false (fun k => k v10) fun v14 =>
    Gd v12 false (fun k_7 => Pu Try.prog (.bin .eql 28) [v14, (.p (.int .i64 2))] k_7) fun v15 =>
    Pu Try.prog .pick [v12, (.p (.bool true)), v15] fun v16 =>
    CdA v16
      (
      Rt Try.prog H.nx (.p (.int .i64 2)) Q
      ) (
      Pu Try.prog (.bin .neq 28) [v8, (.p (.int .i64 0))] fun v18 =>
      CdA v18
        (
        Rt Try.prog H.nx v8 Q
        ) (
        Rt Try.prog H.nx v10 Q
        )
      )
    ) H
theorem eq_wordhoardlaw_joined (a0 a1 : AV) (Q : AV → AH → Prop) (H : AH) : FnA Try.prog 21 (regsF Try.f13) ac_wordhoardlaw_joined [.tm 4] [a0, a1] H Q = S_wordhoardlaw_joined a0 a1 Q H := by kernel_rfl
theorem tri_wordhoardlaw_joined {a0 a1 : AV} {H : AH} {Q : AV → AH → Prop} (h : S_wordhoardlaw_joined a0 a1 Q H) : Tri Try.prog 13 [a0, a1] H Q :=
  tri_of (Ms := [#[], #[], #[], #[], #[], #[], #[]]) mixed Try.func13 rfl (by kernel_rfl) (by kernel_rfl) rfl (of_decide_eq_true rfl : 2 ≤ 21) (by rw [eq_wordhoardlaw_joined a0 a1 Q H]; exact h : FnA Try.prog 21 (regsF Try.f13) ac_wordhoardlaw_joined [.tm 4] [a0, a1] H Q)

/-! wordhoard/wordhoardlaw.right -/
def ac_wordhoardlaw_right : AC := (.seq (.reg 0) (.seq (.seq (.reg 1) (.cond (.tmp 16) (.seq (.reg 2) .ret) .skip)) (.seq (.seq (.reg 3) (.cond (.tmp 36) (.seq (.reg 4) .ret) .skip)) (.seq (.reg 5) .ret))))
def S_wordhoardlaw_right_C1 (a1 : AV) (a3 : AV) (a4 : AV) (a5 : AV) (a6 : AV) (Q : AV → AH → Prop) (H : AH) (v7 : AV) : AH → Prop :=
  Pu Try.prog (.bin .neq 28) [a1, (.p (.int .i64 0))] fun v36 =>
  CdA v36
    (
    Pu Try.prog (.un .not) [a3] fun v38 =>
    Gd v38 true (fun k_32 => k_32 a1) fun v40 =>
    Gd v38 true (fun k_34 => Pu Try.prog (.bin .eql 28) [v40, (.p (.int .i64 7))] k_34) fun v41 =>
    Gd v38 true (fun k_36 => k_36 v41) fun v42 =>
    Gd v42 false (fun k_38 => k_38 a1) fun v43 =>
    Gd v42 false (fun k_40 => Pu Try.prog (.bin .eql 28) [v43, (.p (.int .i64 3))] k_40) fun v44 =>
    Gd v38 true (fun k_42 => Pu Try.prog .pick [v42, (.p (.bool true)), v44] k_42) fun v45 =>
    Pu Try.prog .pick [v38, v45, (.p (.bool false))] fun v46 =>
    Rt Try.prog H.nx v46 Q
    ) (
    RdS Try.prog (.ld 3 true) [v7] fun v47 =>
    Ca Try.prog (.fn (.func 9) [] []) [v47] fun v48 =>
    Pu Try.prog (.bin .eql 28) [v48, (.p (.int .i64 0))] fun v49 =>
    Gd v49 true (fun k_48 => RdS Try.prog (.ld 3 true) [v7] k_48) fun v51 =>
    Gd v49 true (fun k_50 => k_50 a4) fun v52 =>
    Gd v49 true (fun k_52 => k_52 a5) fun v53 =>
    Gd v49 true (fun k_54 => Ca Try.prog (.fn (.func 18) [] []) [v51, v52, v53, (.p (.bool true))] k_54) fun v54 =>
    Gd v49 true (fun k_56 => k_56 a6) fun v55 =>
    Gd v49 true (fun k_58 => Pu Try.prog (.bin .eql 3) [v54, v55] k_58) fun v56 =>
    Pu Try.prog .pick [v49, v56, (.p (.bool false))] fun v57 =>
    Rt Try.prog H.nx v57 Q
    )
def S_wordhoardlaw_right (a0 a1 a2 a3 a4 a5 a6 : AV) (Q : AV → AH → Prop) (H : AH) : Prop := (
    Rg 2 fun b =>
    Al (b + 0) (.bx 25) [a0] fun v7 =>
    Pu Try.prog (.bin .neq 28) [a2, (.p (.int .i64 0))] fun v16 =>
    CdA v16
      (
      Pu Try.prog (.bin .eql 28) [a1, a2] fun v19 =>
      Gd v19 true (fun k => Pu Try.prog (.addOff 0) [v7] k) fun v21 =>
      Gd v19 true (fun k_8 => RdS Try.prog (.ld 1 false) [v21] k_8) fun v22 =>
      Gd v19 true (fun k_10 => Pu Try.prog (.bin .eql 3) [v22, (.p (.int .i64 0))] k_10) fun v23 =>
      Pu Try.prog .pick [v19, v23, (.p (.bool false))] fun v24 =>
      Gd v24 true (fun k_13 => Pu Try.prog (.addOff 1) [v7] k_13) fun v26 =>
      Gd v24 true (fun k_15 => RdS Try.prog (.ld 1 false) [v26] k_15) fun v27 =>
      Gd v24 true (fun k_17 => Pu Try.prog .len [v27] k_17) fun v28 =>
      Gd v24 true (fun k_19 => Pu Try.prog (.addOff 2) [v7] k_19) fun v29 =>
      Gd v24 true (fun k_21 => RdS Try.prog (.ld 1 false) [v29] k_21) fun v30 =>
      Gd v24 true (fun k_23 => Pu Try.prog .len [v30] k_23) fun v31 =>
      Gd v24 true (fun k_25 => Pu Try.prog (.bin .add 3) [v28, v31] k_25) fun v32 =>
      Gd v24 true (fun k_27 => Pu Try.prog (.bin .eql 3) [v32, (.p (.int .i64 0))] k_27) fun v33 =>
      Pu Try.prog .pick [v24, v33, (.p (.bool false))] fun v34 =>
      Rt Try.prog H.nx v34 Q
      ) (S_wordhoardlaw_right_C1 a1 a3 a4 a5 a6 Q H v7)
    ) H
theorem eq_wordhoardlaw_right (a0 a1 a2 a3 a4 a5 a6 : AV) (Q : AV → AH → Prop) (H : AH) : FnA Try.prog 58 (regsF Try.f16) ac_wordhoardlaw_right [.tm 14] [a0, a1, a2, a3, a4, a5, a6] H Q = S_wordhoardlaw_right a0 a1 a2 a3 a4 a5 a6 Q H := by kernel_rfl
theorem tri_wordhoardlaw_right {a0 a1 a2 a3 a4 a5 a6 : AV} {H : AH} {Q : AV → AH → Prop} (h : S_wordhoardlaw_right a0 a1 a2 a3 a4 a5 a6 Q H) : Tri Try.prog 16 [a0, a1, a2, a3, a4, a5, a6] H Q :=
  tri_of (Ms := [#[], #[], #[], #[], #[], #[]]) mixed Try.func16 rfl (by kernel_rfl) (by kernel_rfl) rfl (of_decide_eq_true rfl : 7 ≤ 58) (by rw [eq_wordhoardlaw_right a0 a1 a2 a3 a4 a5 a6 Q H]; exact h : FnA Try.prog 58 (regsF Try.f16) ac_wordhoardlaw_right [.tm 14] [a0, a1, a2, a3, a4, a5, a6] H Q)

/-! wordhoard/wordhoardlaw.light -/
def ac_wordhoardlaw_light : AC := (.seq (.reg 0) (.seq (.seq (.reg 1) (.cond (.tmp 13) (.seq (.reg 2) .ret) .skip)) (.seq (.seq (.reg 3) (.block 0 (.loop [3] [(2, 3), (14, 28)] (.seq (.seq (.reg 4) (.cond (.tmp 18) .skip (.exit 0))) (.seq (.block 1 (.seq (.reg 5) (.cond (.tmp 27) (.seq (.reg 6) .ret) .skip))) (.reg 7)))))) (.seq (.seq (.reg 8) (.block 2 (.loop [4] [(2, 3), (28, 42)] (.seq (.seq (.reg 9) (.cond (.tmp 32) .skip (.exit 2))) (.seq (.block 3 (.seq (.reg 10) (.cond (.tmp 41) (.seq (.reg 11) .ret) .skip))) (.reg 12)))))) (.seq (.reg 13) .ret)))))
def S_wordhoardlaw_light_L1 (Q : AV → AH → Prop) (H : AH) (v1 : AV) (vs_29 : List AV) (k_28 : List AV → AH → Prop) : AH → Prop :=
  Pu Try.prog (.addOff 2) [v1] fun v29 =>
  RdS Try.prog (.ld 1 false) [v29] fun v30 =>
  Pu Try.prog .len [v30] fun v31 =>
  Pu Try.prog (.bin .lss 3) [(vs_29.getD 0 .any), v31] fun v32 =>
  CdA v32
    (
    Pu Try.prog (.addOff 2) [v1] fun v35 =>
    RdS Try.prog (.ld 1 false) [v35] fun v36 =>
    Pu Try.prog (.idx 2) [v36, (vs_29.getD 0 .any)] fun v38 =>
    Pu Try.prog (.addOff 1) [v38] fun v39 =>
    RdS Try.prog (.ld 1 false) [v39] fun v40 =>
    Pu Try.prog (.bin .gtr 3) [v40, (.p (.int .i64 500000))] fun v41 =>
    CdA v41
      (
      Rt Try.prog H.nx (.p (.bool false)) Q
      ) (
      Pu Try.prog (.bin .add 3) [(vs_29.getD 0 .any), (.p (.int .i64 1))] fun v34 =>
      k_28 [v34]
      )
    ) (
    Rt Try.prog H.nx (.p (.bool true)) Q
    )
def S_wordhoardlaw_light_L2 (Q : AV → AH → Prop) (H : AH) (v1 : AV) (vs : List AV) (k_15 : List AV → AH → Prop) : AH → Prop :=
  Pu Try.prog (.addOff 1) [v1] fun v15 =>
  RdS Try.prog (.ld 1 false) [v15] fun v16 =>
  Pu Try.prog .len [v16] fun v17 =>
  Pu Try.prog (.bin .lss 3) [(vs.getD 0 .any), v17] fun v18 =>
  CdA v18
    (
    Pu Try.prog (.addOff 1) [v1] fun v21 =>
    RdS Try.prog (.ld 1 false) [v21] fun v22 =>
    Pu Try.prog (.idx 5) [v22, (vs.getD 0 .any)] fun v24 =>
    Pu Try.prog (.addOff 4) [v24] fun v25 =>
    RdS Try.prog (.ld 1 false) [v25] fun v26 =>
    Pu Try.prog (.bin .gtr 3) [v26, (.p (.int .i64 500000))] fun v27 =>
    CdA v27
      (
      Rt Try.prog H.nx (.p (.bool false)) Q
      ) (
      Pu Try.prog (.bin .add 3) [(vs.getD 0 .any), (.p (.int .i64 1))] fun v20 =>
      k_15 [v20]
      )
    ) (
    LoopA Try.prog 1 (S_wordhoardlaw_light_L1 Q H v1) [(.p (.int .i64 0))]
    )
def S_wordhoardlaw_light (a0 : AV) (Q : AV → AH → Prop) (H : AH) : Prop := (
    Rg 2 fun b =>
    Al (b + 0) (.bx 25) [a0] fun v1 =>
    Pu Try.prog (.addOff 0) [v1] fun v5 =>
    RdS Try.prog (.ld 1 false) [v5] fun v6 =>
    Pu Try.prog (.bin .gtr 3) [v6, (.p (.int .i64 20))] fun v7 =>
    Gd v7 false (fun k => Pu Try.prog (.addOff 1) [v1] k) fun v9 =>
    Gd v7 false (fun k_9 => RdS Try.prog (.ld 1 false) [v9] k_9) fun v10 =>
    Gd v7 false (fun k_11 => Pu Try.prog .len [v10] k_11) fun v11 =>
    Gd v7 false (fun k_13 => Pu Try.prog (.bin .gtr 3) [v11, (.p (.int .i64 40))] k_13) fun v12 =>
    Pu Try.prog .pick [v7, (.p (.bool true)), v12] fun v13 =>
    CdA v13
      (
      Rt Try.prog H.nx (.p (.bool false)) Q
      ) (
      LoopA Try.prog 1 (S_wordhoardlaw_light_L2 Q H v1) [(.p (.int .i64 0))]
      )
    ) H
theorem eq_wordhoardlaw_light (a0 : AV) (Q : AV → AH → Prop) (H : AH) : FnA Try.prog 42 (regsF Try.f17) ac_wordhoardlaw_light [.tm 2] [a0] H Q = S_wordhoardlaw_light a0 Q H := by kernel_rfl
theorem tri_wordhoardlaw_light {a0 : AV} {H : AH} {Q : AV → AH → Prop} (h : S_wordhoardlaw_light a0 Q H) : Tri Try.prog 17 [a0] H Q :=
  tri_of (Ms := [#[], #[], #[], #[], #[], #[], #[], #[], #[], #[], #[], #[], #[], #[]]) mixed Try.func17 rfl (by kernel_rfl) (by kernel_rfl) rfl (of_decide_eq_true rfl : 1 ≤ 42) (by rw [eq_wordhoardlaw_light a0 Q H]; exact h : FnA Try.prog 42 (regsF Try.f17) ac_wordhoardlaw_light [.tm 2] [a0] H Q)

/-! wordhoard/wordhoardlaw.parted -/
def ac_wordhoardlaw_parted : AC := (.seq (.reg 0) (.seq (.reg 1) (.seq (.seq (.reg 2) (.block 0 (.loop [9, 10] [(11, 53)] (.seq (.seq (.reg 3) (.cond (.tmp 17) .skip (.exit 0))) (.seq (.block 1 (.seq (.reg 4) (.block 2 (.loop [9, 11] [(12, 14), (20, 53)] (.seq (.seq (.reg 5) (.cond (.tmp 23) .skip (.exit 2))) (.seq (.block 3 (.seq (.reg 6) (.seq (.reg 7) (.cond (.tmp 47) (.reg 8) .skip)))) (.reg 9))))))) (.reg 10)))))) (.seq (.reg 11) .ret))))
def S_wordhoardlaw_parted_C1 (a2 : AV) (a3 : AV) (v4 : AV) (v5 : AV) (vs : List AV) (k_8 : List AV → AH → Prop) (vs_9 : List AV) : AH → Prop :=
  Vw fun V =>
  Rd Try.prog V (.ld 3 true) [v4] fun v26 =>
  Pu Try.prog (.slc 1 false true) [a2, (vs.getD 1 .any)] fun v29 =>
  Pu Try.prog (.slc 1 false true) [a3, (vs_9.getD 1 .any)] fun v32 =>
  CaV Try.prog V (.fn (.func 18) [] []) [v26, v29, v32, (.p (.bool true))] fun v33 =>
  Rd Try.prog V (.ld 3 true) [v5] fun v34 =>
  Pu Try.prog (.slc 1 true false) [a2, (vs.getD 1 .any)] fun v37 =>
  Pu Try.prog (.slc 1 true false) [a3, (vs_9.getD 1 .any)] fun v40 =>
  CaV Try.prog V (.fn (.func 18) [] []) [v34, v37, v40, (.p (.bool true))] fun v41 =>
  Pu Try.prog (.bin .lss 3) [v33, (.p (.int .i64 1152921504606846976))] fun v43 =>
  Gd v43 true (fun k_23 => k_23 v41) fun v45 =>
  Gd v43 true (fun k_25 => Pu Try.prog (.bin .lss 3) [v45, (.p (.int .i64 1152921504606846976))] k_25) fun v46 =>
  Pu Try.prog .pick [v43, v46, (.p (.bool false))] fun v47 =>
  CdA v47
    (
    Pu Try.prog (.bin .add 3) [v33, v41] fun v51 =>
    Pu Try.prog .mn [(vs_9.getD 0 .any), v51] fun v52 =>
    Pu Try.prog (.bin .add 3) [(vs_9.getD 1 .any), (.p (.int .i64 1))] fun v25 =>
    k_8 [v52, v25]
    ) (
    Pu Try.prog (.bin .add 3) [(vs_9.getD 1 .any), (.p (.int .i64 1))] fun v25_30 =>
    k_8 [(vs_9.getD 0 .any), v25_30]
    )
def S_wordhoardlaw_parted_L2 (a2 : AV) (a3 : AV) (v4 : AV) (v5 : AV) (k : List AV → AH → Prop) (vs : List AV) (vs_9 : List AV) (k_8 : List AV → AH → Prop) : AH → Prop :=
  Pu Try.prog .len [a3] fun v22 =>
  Pu Try.prog (.bin .leq 3) [(vs_9.getD 1 .any), v22] fun v23 =>
  CdA v23
    (S_wordhoardlaw_parted_C1 a2 a3 v4 v5 vs k_8 vs_9) (
    Pu Try.prog (.bin .add 3) [(vs.getD 1 .any), (.p (.int .i64 1))] fun v19 =>
    k [(vs_9.getD 0 .any), v19]
    )
def S_wordhoardlaw_parted_L3 (a2 : AV) (a3 : AV) (Q : AV → AH → Prop) (H : AH) (v4 : AV) (v5 : AV) (vs : List AV) (k : List AV → AH → Prop) : AH → Prop :=
  Pu Try.prog .len [a2] fun v16 =>
  Pu Try.prog (.bin .leq 3) [(vs.getD 1 .any), v16] fun v17 =>
  CdA v17
    (
    LoopA Try.prog 2 (S_wordhoardlaw_parted_L2 a2 a3 v4 v5 k vs) [(vs.getD 0 .any), (.p (.int .i64 0))]
    ) (
    Rt Try.prog H.nx (vs.getD 0 .any) Q
    )
def S_wordhoardlaw_parted (a0 a1 a2 a3 : AV) (Q : AV → AH → Prop) (H : AH) : Prop := (
    Rg 3 fun b =>
    Al (b + 0) (.bx 25) [a0] fun v4 =>
    Al (b + 1) (.bx 25) [a1] fun v5 =>
    LoopA Try.prog 2 (S_wordhoardlaw_parted_L3 a2 a3 Q H v4 v5) [(.p (.int .i64 1152921504606846976)), (.p (.int .i64 0))]
    ) H
theorem eq_wordhoardlaw_parted (a0 a1 a2 a3 : AV) (Q : AV → AH → Prop) (H : AH) : FnA Try.prog 54 (regsF Try.f19) ac_wordhoardlaw_parted [.tm 8] [a0, a1, a2, a3] H Q = S_wordhoardlaw_parted a0 a1 a2 a3 Q H := by kernel_rfl
theorem tri_wordhoardlaw_parted {a0 a1 a2 a3 : AV} {H : AH} {Q : AV → AH → Prop} (h : S_wordhoardlaw_parted a0 a1 a2 a3 Q H) : Tri Try.prog 19 [a0, a1, a2, a3] H Q :=
  tri_of (Ms := [#[], #[], #[], #[], #[], #[], #[0, 0, 0, 6, 0, 0, 48, 127, 0, 0, 0, 1536, 0, 0, 12288, 32767, 65535, 131071], #[], #[], #[], #[], #[]]) mixed Try.func19 rfl (by kernel_rfl) (by kernel_rfl) rfl (of_decide_eq_true rfl : 4 ≤ 54) (by rw [eq_wordhoardlaw_parted a0 a1 a2 a3 Q H]; exact h : FnA Try.prog 54 (regsF Try.f19) ac_wordhoardlaw_parted [.tm 8] [a0, a1, a2, a3] H Q)

/-! wordhoard/wordhoardlaw.again -/
def ac_wordhoardlaw_again : AC := (.seq (.reg 0) (.seq (.reg 1) (.seq (.reg 2) (.seq (.seq (.reg 3) (.block 0 (.loop [10] [(11, 15), (25, 115)] (.seq (.seq (.reg 4) (.cond (.tmp 27) .skip (.exit 0))) (.seq (.block 1 (.seq (.reg 5) (.block 2 (.loop [11] [(12, 15), (30, 115)] (.seq (.seq (.reg 6) (.cond (.tmp 32) .skip (.exit 2))) (.seq (.block 3 (.seq (.reg 7) (.cut [] [(42, 48)] (.seq (.reg 8) (.cond (.tmp 45) (.reg 9) .skip)) (.seq (.reg 10) (.block 4 (.loop [12] [(13, 15), (48, 115)] (.seq (.seq (.reg 11) (.cond (.tmp 50) .skip (.exit 4))) (.seq (.block 5 (.seq (.reg 12) (.block 6 (.loop [13] [(14, 15), (53, 115)] (.seq (.seq (.reg 13) (.cond (.tmp 55) .skip (.exit 6))) (.seq (.block 7 (.seq (.seq (.reg 14) (.cond (.tmp 76) (.exit 7) .skip)) (.seq (.reg 15) (.seq (.reg 16) (.cond (.tmp 88) (.reg 17) .skip))))) (.reg 18))))))) (.reg 19))))))))) (.reg 20))))))) (.reg 21)))))) (.seq (.reg 22) .ret)))))
def S_wordhoardlaw_again_C1 (a1 : AV) (a2 : AV) (v3 : AV) (v20 : AV) (v24 : AV) (vs : List AV) (vs_14 : List AV) (vs_24 : List AV) (k_26 : List AV → AH → Prop) (vs_27 : List AV) : AH → Prop :=
  Vw fun V =>
  Rd Try.prog V (.ld 3 true) [v3] fun v77 =>
  Pu Try.prog (.slc 1 true true) [a1, (vs_24.getD 0 .any), (vs.getD 0 .any)] fun v81 =>
  Pu Try.prog (.slc 1 true true) [a2, (vs_27.getD 0 .any), (vs_14.getD 0 .any)] fun v85 =>
  CaV Try.prog V (.fn (.func 18) [] []) [v77, v81, v85, (.p (.bool true))] fun v86 =>
  Pu Try.prog (.bin .lss 3) [v86, (.p (.int .i64 1152921504606846976))] fun v88 =>
  CdA v88
    (
    Rg 27 fun b_63 =>
    Vw fun V_64 =>
    Pu Try.prog (.bin .mul 3) [(vs.getD 0 .any), v20] fun v92 =>
    Pu Try.prog (.bin .add 3) [v92, (vs_14.getD 0 .any)] fun v94 =>
    Pu Try.prog (.bin .mul 3) [(vs.getD 0 .any), v20] fun v98 =>
    Pu Try.prog (.bin .add 3) [v98, (vs_14.getD 0 .any)] fun v100 =>
    Pu Try.prog (.idx 1) [v24, v100] fun v101 =>
    Rd Try.prog V_64 (.ld 1 false) [v101] fun v102 =>
    Pu Try.prog (.bin .mul 3) [(vs_24.getD 0 .any), v20] fun v106 =>
    Pu Try.prog (.bin .add 3) [v106, (vs_27.getD 0 .any)] fun v108 =>
    Pu Try.prog (.idx 1) [v24, v108] fun v109 =>
    Rd Try.prog V_64 (.ld 1 false) [v109] fun v110 =>
    Pu Try.prog (.bin .add 3) [v110, v86] fun v112 =>
    Pu Try.prog .mn [v102, v112] fun v113 =>
    Pu Try.prog (.idx 1) [v24, v94] fun v114 =>
    Wr Try.prog (b_63 + 26) (.st 1) [v114, v113] fun _ _ =>
    Pu Try.prog (.bin .add 3) [(vs_27.getD 0 .any), (.p (.int .i64 1))] fun v57_80 =>
    k_26 [v57_80]
    ) (
    Pu Try.prog (.bin .add 3) [(vs_27.getD 0 .any), (.p (.int .i64 1))] fun v57_81 =>
    k_26 [v57_81]
    )
def S_wordhoardlaw_again_C2 (a1 : AV) (a2 : AV) (v3 : AV) (v20 : AV) (v24 : AV) (vs : List AV) (vs_14 : List AV) (vs_24 : List AV) (k_26 : List AV → AH → Prop) (vs_27 : List AV) : AH → Prop :=
  Pu Try.prog (.bin .eql 3) [(vs_24.getD 0 .any), (vs.getD 0 .any)] fun v60 =>
  Gd v60 true (fun k_31 => k_31 (vs_27.getD 0 .any)) fun v62 =>
  Gd v60 true (fun k_33 => k_33 (vs_14.getD 0 .any)) fun v63 =>
  Gd v60 true (fun k_35 => Pu Try.prog (.bin .eql 3) [v62, v63] k_35) fun v64 =>
  Pu Try.prog .pick [v60, v64, (.p (.bool false))] fun v65 =>
  Gd v65 false (fun k_38 => k_38 v24) fun v67 =>
  Gd v65 false (fun k_40 => k_40 (vs_24.getD 0 .any)) fun v68 =>
  Gd v65 false (fun k_42 => k_42 v20) fun v69 =>
  Gd v65 false (fun k_44 => Pu Try.prog (.bin .mul 3) [v68, v69] k_44) fun v70 =>
  Gd v65 false (fun k_46 => k_46 (vs_27.getD 0 .any)) fun v71 =>
  Gd v65 false (fun k_48 => Pu Try.prog (.bin .add 3) [v70, v71] k_48) fun v72 =>
  Gd v65 false (fun k_50 => Pu Try.prog (.idx 1) [v67, v72] k_50) fun v73 =>
  Gd v65 false (fun k_52 => RdS Try.prog (.ld 1 false) [v73] k_52) fun v74 =>
  Gd v65 false (fun k_54 => Pu Try.prog (.bin .eql 3) [v74, (.p (.int .i64 1152921504606846976))] k_54) fun v75 =>
  Pu Try.prog .pick [v65, (.p (.bool true)), v75] fun v76 =>
  CdA v76
    (
    Pu Try.prog (.bin .add 3) [(vs_27.getD 0 .any), (.p (.int .i64 1))] fun v57 =>
    k_26 [v57]
    ) (S_wordhoardlaw_again_C1 a1 a2 v3 v20 v24 vs vs_14 vs_24 k_26 vs_27)
def S_wordhoardlaw_again_L3 (a1 : AV) (a2 : AV) (v3 : AV) (v20 : AV) (v24 : AV) (vs : List AV) (vs_14 : List AV) (k_23 : List AV → AH → Prop) (vs_24 : List AV) (vs_27 : List AV) (k_26 : List AV → AH → Prop) : AH → Prop :=
  Pu Try.prog (.bin .leq 3) [(vs_27.getD 0 .any), (vs_14.getD 0 .any)] fun v55 =>
  CdA v55
    (S_wordhoardlaw_again_C2 a1 a2 v3 v20 v24 vs vs_14 vs_24 k_26 vs_27) (
    Pu Try.prog (.bin .add 3) [(vs_24.getD 0 .any), (.p (.int .i64 1))] fun v52 =>
    k_23 [v52]
    )
def S_wordhoardlaw_again_L4 (a1 : AV) (a2 : AV) (v3 : AV) (v20 : AV) (v24 : AV) (vs : List AV) (k_13 : List AV → AH → Prop) (vs_14 : List AV) (vs_24 : List AV) (k_23 : List AV → AH → Prop) : AH → Prop :=
  Pu Try.prog (.bin .leq 3) [(vs_24.getD 0 .any), (vs.getD 0 .any)] fun v50 =>
  CdA v50
    (
    LoopA Try.prog 1 (S_wordhoardlaw_again_L3 a1 a2 v3 v20 v24 vs vs_14 k_23 vs_24) [(.p (.int .i64 0))]
    ) (
    Pu Try.prog (.bin .add 3) [(vs_14.getD 0 .any), (.p (.int .i64 1))] fun v34 =>
    k_13 [v34]
    )
def S_wordhoardlaw_again_K5 (a1 : AV) (a2 : AV) (v3 : AV) (v20 : AV) (v24 : AV) (vs : List AV) (k_13 : List AV → AH → Prop) (vs_14 : List AV) (_vs_22 : List AV) : AH → Prop :=
  LoopA Try.prog 1 (S_wordhoardlaw_again_L4 a1 a2 v3 v20 v24 vs k_13 vs_14) [(.p (.int .i64 0))]
def S_wordhoardlaw_again_L6 (a1 : AV) (a2 : AV) (v3 : AV) (v20 : AV) (v24 : AV) (k : List AV → AH → Prop) (vs : List AV) (vs_14 : List AV) (k_13 : List AV → AH → Prop) : AH → Prop :=
  Pu Try.prog (.bin .lss 3) [(vs_14.getD 0 .any), v20] fun v32 =>
  CdA v32
    (
    Rg 8 fun b_16 =>
    Pu Try.prog (.bin .mul 3) [(vs.getD 0 .any), v20] fun v38 =>
    Pu Try.prog (.bin .add 3) [v38, (vs_14.getD 0 .any)] fun v40 =>
    Pu Try.prog (.idx 1) [v24, v40] fun v41 =>
    WrS Try.prog (b_16 + 7) (.st 1) [v41, (.p (.int .i64 1152921504606846976))] fun _ =>
    CutA Try.prog 0 (fun k_21 =>
      Pu Try.prog (.bin .add 3) [(vs.getD 0 .any), (vs_14.getD 0 .any)] fun v44 =>
      Pu Try.prog (.bin .eql 3) [v44, (.p (.int .i64 0))] fun v45 =>
      CdA v45
        (
        Rg 3 fun b_86 =>
        Pu Try.prog (.idx 1) [v24, (.p (.int .i64 0))] fun v47 =>
        WrS Try.prog (b_86 + 2) (.st 1) [v47, (.p (.int .i64 0))] fun _ =>
        k_21 []
        ) (
        k_21 []
        )
      ) (S_wordhoardlaw_again_K5 a1 a2 v3 v20 v24 vs k_13 vs_14)
    ) (
    Pu Try.prog (.bin .add 3) [(vs.getD 0 .any), (.p (.int .i64 1))] fun v29 =>
    k [v29]
    )
def S_wordhoardlaw_again_L7 (a1 : AV) (a2 : AV) (Q : AV → AH → Prop) (H : AH) (v3 : AV) (v17 : AV) (v20 : AV) (v24 : AV) (vs : List AV) (k : List AV → AH → Prop) : AH → Prop :=
  Pu Try.prog (.bin .lss 3) [(vs.getD 0 .any), v17] fun v27 =>
  CdA v27
    (
    LoopA Try.prog 1 (S_wordhoardlaw_again_L6 a1 a2 v3 v20 v24 k vs) [(.p (.int .i64 0))]
    ) (
    Pu Try.prog (.bin .mul 3) [v17, v20] fun v118 =>
    Pu Try.prog (.bin .sub 3) [v118, (.p (.int .i64 1))] fun v119 =>
    Pu Try.prog (.idx 1) [v24, v119] fun v120 =>
    RdS Try.prog (.ld 1 false) [v120] fun v121 =>
    Rt Try.prog H.nx v121 Q
    )
def S_wordhoardlaw_again (a0 a1 a2 : AV) (Q : AV → AH → Prop) (H : AH) : Prop := (
    Rg 2 fun b =>
    Al (b + 0) (.bx 25) [a0] fun v3 =>
    Pu Try.prog .len [a1] fun v16 =>
    Pu Try.prog (.bin .add 3) [v16, (.p (.int .i64 1))] fun v17 =>
    Pu Try.prog .len [a2] fun v19 =>
    Pu Try.prog (.bin .add 3) [v19, (.p (.int .i64 1))] fun v20 =>
    Rg 5 fun b_7 =>
    Pu Try.prog (.bin .mul 3) [v17, v20] fun v23 =>
    Al (b_7 + 3) (.ms 3 1 8 [.p (.int .i64 0)]) [v23, v23] fun v24 =>
    LoopA Try.prog 1 (S_wordhoardlaw_again_L7 a1 a2 Q H v3 v17 v20 v24) [(.p (.int .i64 0))]
    ) H
theorem eq_wordhoardlaw_again (a0 a1 a2 : AV) (Q : AV → AH → Prop) (H : AH) : FnA Try.prog 122 (regsF Try.f22) ac_wordhoardlaw_again [.tm 6] [a0, a1, a2] H Q = S_wordhoardlaw_again a0 a1 a2 Q H := by kernel_rfl
theorem tri_wordhoardlaw_again {a0 a1 a2 : AV} {H : AH} {Q : AV → AH → Prop} (h : S_wordhoardlaw_again a0 a1 a2 Q H) : Tri Try.prog 22 [a0, a1, a2] H Q :=
  tri_of (Ms := [#[], #[], #[], #[], #[], #[], #[], #[], #[], #[], #[], #[], #[], #[], #[], #[0, 0, 0, 0, 14, 0, 0, 0, 224, 511, 1023], #[], #[0, 0, 0, 6, 0, 30, 0, 0, 0, 384, 0, 1920, 4032, 8128, 0, 0, 0, 98304, 0, 491520, 1032192, 2080768, 0, 8372224, 16777152, 33554431, 67108863], #[], #[], #[], #[], #[]]) mixed Try.func22 rfl (by kernel_rfl) (by kernel_rfl) rfl (of_decide_eq_true rfl : 3 ≤ 122) (by rw [eq_wordhoardlaw_again a0 a1 a2 Q H]; exact h : FnA Try.prog 122 (regsF Try.f22) ac_wordhoardlaw_again [.tm 6] [a0, a1, a2] H Q)

/-! wordhoard/wordhoardlaw.one -/
def ac_wordhoardlaw_one : AC := (.seq (.reg 0) (.seq (.reg 1) .ret))
def S_wordhoardlaw_one (Q : AV → AH → Prop) (H : AH) : Prop := (
    Rg 1 fun b =>
    Al (b + 0) (.nw 25 [.p (.int .i64 0), .p (.slice none 0 0), .p (.slice none 0 0)]) [] fun v0 =>
    Rg 6 fun b_3 =>
    Pu Try.prog (.bld [.p (.int .i64 0), .p (.int .i64 0), .p (.int .i64 0), .p (.int .i64 0), .p (.int .i64 0)] [(0, 1), (1, 1), (2, 1), (3, 1), (4, 1)]) [(.p (.int .i64 0)), (.p (.int .i64 1)), (.p (.int .i64 1)), (.p (.int .i64 2)), (.p (.int .i64 3))] fun v1 =>
    Al (b_3 + 1) (.bs 53 5 1 [.p (.int .i64 0), .p (.int .i64 0), .p (.int .i64 0), .p (.int .i64 0), .p (.int .i64 0)] [(0, 5)]) [v1] fun v2 =>
    Pu Try.prog (.bld [.p (.int .i64 0), .p (.int .i64 0)] [(0, 1)]) [(.p (.int .i64 1))] fun v3 =>
    Al (b_3 + 3) (.bs 56 2 1 [.p (.int .i64 0), .p (.int .i64 0)] [(0, 2)]) [v3] fun v4 =>
    Pu Try.prog (.bld [.p (.int .i64 0), .p (.slice none 0 0), .p (.slice none 0 0)] [(0, 1), (1, 1), (2, 1)]) [(.p (.int .i64 2)), v2, v4] fun v5 =>
    WrS Try.prog (b_3 + 5) (.st 3) [v0, v5] fun _ =>
    RdS Try.prog (.ld 3 true) [v0] fun r0 =>
    Rt Try.prog H.nx r0 Q
    ) H
theorem eq_wordhoardlaw_one (Q : AV → AH → Prop) (H : AH) : FnA Try.prog 6 (regsF Try.f31) ac_wordhoardlaw_one [.ce 0 25] [] H Q = S_wordhoardlaw_one Q H := by kernel_rfl
theorem tri_wordhoardlaw_one {H : AH} {Q : AV → AH → Prop} (h : S_wordhoardlaw_one Q H) : Tri Try.prog 31 [] H Q :=
  tri_of (Ms := [#[], #[]]) mixed Try.func31 rfl (by kernel_rfl) (by kernel_rfl) rfl (of_decide_eq_true rfl : 0 ≤ 6) (by rw [eq_wordhoardlaw_one Q H]; exact h : FnA Try.prog 6 (regsF Try.f31) ac_wordhoardlaw_one [.ce 0 25] [] H Q)

/-! slices.Clone[[]int,int] -/
def ac_slices_Clone_s_int_int : AC := (.seq (.reg 0) (.seq (.seq (.reg 1) (.cond (.tmp 4) (.seq (.reg 2) .ret) .skip)) (.seq (.reg 3) .ret)))
def S_slices_Clone_s_int_int (a0 : AV) (Q : AV → AH → Prop) (H : AH) : Prop := (
    Pu Try.prog (.bin .eql 26) [a0, (.p (.slice none 0 0))] fun v4 =>
    CdA v4
      (
      Rt Try.prog H.nx (.p (.slice none 0 0)) Q
      ) (
      Rg 4 fun b =>
      Al (b + 0) (.bs 3 1 0 [.p (.int .i64 0)] []) [] fun v5 =>
      WrS Try.prog (b + 2) (.app 3 1 8) [v5, a0] fun v7 =>
      Rt Try.prog H.nx v7 Q
      )
    ) H
theorem eq_slices_Clone_s_int_int (a0 : AV) (Q : AV → AH → Prop) (H : AH) : FnA Try.prog 8 (regsF Try.f51) ac_slices_Clone_s_int_int [.tm 2] [a0] H Q = S_slices_Clone_s_int_int a0 Q H := by kernel_rfl
theorem tri_slices_Clone_s_int_int {a0 : AV} {H : AH} {Q : AV → AH → Prop} (h : S_slices_Clone_s_int_int a0 Q H) : Tri Try.prog 51 [a0] H Q :=
  tri_of (Ms := [#[], #[], #[], #[]]) mixed Try.func51 rfl (by kernel_rfl) (by kernel_rfl) rfl (of_decide_eq_true rfl : 1 ≤ 8) (by rw [eq_slices_Clone_s_int_int a0 Q H]; exact h : FnA Try.prog 8 (regsF Try.f51) ac_slices_Clone_s_int_int [.tm 2] [a0] H Q)

/-! slices.ContainsFunc[[]int,int] -/
def ac_slices_ContainsFunc_s_int_int : AC := (.seq (.reg 0) (.seq (.reg 1) .ret))
def S_slices_ContainsFunc_s_int_int (a0 a1 : AV) (Q : AV → AH → Prop) (H : AH) : Prop := (
    Ca Try.prog (.fn (.func 57) [] []) [a0, a1] fun v7 =>
    Pu Try.prog (.bin .geq 3) [v7, (.p (.int .i64 0))] fun v8 =>
    Rt Try.prog H.nx v8 Q
    ) H
theorem eq_slices_ContainsFunc_s_int_int (a0 a1 : AV) (Q : AV → AH → Prop) (H : AH) : FnA Try.prog 9 (regsF Try.f54) ac_slices_ContainsFunc_s_int_int [.tm 4] [a0, a1] H Q = S_slices_ContainsFunc_s_int_int a0 a1 Q H := by kernel_rfl
theorem tri_slices_ContainsFunc_s_int_int {a0 a1 : AV} {H : AH} {Q : AV → AH → Prop} (h : S_slices_ContainsFunc_s_int_int a0 a1 Q H) : Tri Try.prog 54 [a0, a1] H Q :=
  tri_of (Ms := [#[], #[]]) mixed Try.func54 rfl (by kernel_rfl) (by kernel_rfl) rfl (of_decide_eq_true rfl : 2 ≤ 9) (by rw [eq_slices_ContainsFunc_s_int_int a0 a1 Q H]; exact h : FnA Try.prog 9 (regsF Try.f54) ac_slices_ContainsFunc_s_int_int [.tm 4] [a0, a1] H Q)

/-! slices.Clone[[]wordhoard/api.Final,wordhoard/api.Final] -/
def ac_slices_Clone_s_api_Final_api_Final : AC := (.seq (.reg 0) (.seq (.seq (.reg 1) (.cond (.tmp 4) (.seq (.reg 2) .ret) .skip)) (.seq (.reg 3) .ret)))
def S_slices_Clone_s_api_Final_api_Final (a0 : AV) (Q : AV → AH → Prop) (H : AH) : Prop := (
    Pu Try.prog (.bin .eql 23) [a0, (.p (.slice none 0 0))] fun v4 =>
    CdA v4
      (
      Rt Try.prog H.nx (.p (.slice none 0 0)) Q
      ) (
      Rg 4 fun b =>
      Al (b + 0) (.bs 56 2 0 [.p (.int .i64 0), .p (.int .i64 0)] []) [] fun v5 =>
      WrS Try.prog (b + 2) (.app 56 2 16) [v5, a0] fun v7 =>
      Rt Try.prog H.nx v7 Q
      )
    ) H
theorem eq_slices_Clone_s_api_Final_api_Final (a0 : AV) (Q : AV → AH → Prop) (H : AH) : FnA Try.prog 8 (regsF Try.f56) ac_slices_Clone_s_api_Final_api_Final [.tm 2] [a0] H Q = S_slices_Clone_s_api_Final_api_Final a0 Q H := by kernel_rfl
theorem tri_slices_Clone_s_api_Final_api_Final {a0 : AV} {H : AH} {Q : AV → AH → Prop} (h : S_slices_Clone_s_api_Final_api_Final a0 Q H) : Tri Try.prog 56 [a0] H Q :=
  tri_of (Ms := [#[], #[], #[], #[]]) mixed Try.func56 rfl (by kernel_rfl) (by kernel_rfl) rfl (of_decide_eq_true rfl : 1 ≤ 8) (by rw [eq_slices_Clone_s_api_Final_api_Final a0 Q H]; exact h : FnA Try.prog 8 (regsF Try.f56) ac_slices_Clone_s_api_Final_api_Final [.tm 2] [a0] H Q)
end Go.Proofs.Ytgkkilbeingleaa
