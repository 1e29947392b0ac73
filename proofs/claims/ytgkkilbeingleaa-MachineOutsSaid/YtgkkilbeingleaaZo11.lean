/- Texts that the proof rests on, part 11: what each holds stands at its head. -/
import Derived.Test.YtgkkilbeingleaaZo10

/- Abstract walks of functions, written by a program (wip/aw/aw.py): each equation is checked by the kernel. -/
namespace Go.Proofs.Ytgkkilbeingleaa
open Go.RowKit

/-! wordhoard/wordhoardref.CheckMachine -/
def ac_wordhoardref_CheckMachine : AC := (.seq (.reg 0) (.seq (.seq (.reg 1) (.cond (.tmp 30) (.seq (.reg 2) .ret) .skip)) (.seq (.seq (.reg 3) (.block 0 (.loop [3] [(2, 3), (4, 5), (31, 95)] (.seq (.seq (.reg 4) (.cond (.tmp 35) .skip (.exit 0))) (.seq (.block 1 (.seq (.reg 5) (.seq (.reg 6) (.cond (.tmp 94) (.seq (.reg 7) .ret) .skip)))) (.reg 8)))))) (.seq (.seq (.reg 9) (.block 2 (.loop [5] [(2, 3), (6, 7), (95, 127)] (.seq (.seq (.reg 10) (.cond (.tmp 99) .skip (.exit 2))) (.seq (.block 3 (.seq (.reg 11) (.seq (.reg 12) (.cond (.tmp 126) (.seq (.reg 13) .ret) .skip)))) (.reg 14)))))) (.seq (.reg 15) (.seq (.seq (.reg 16) (.block 4 (.loop [8] [(2, 3), (130, 154)] (.seq (.seq (.reg 17) (.cond (.tmp 134) .skip (.exit 4))) (.seq (.block 5 (.seq (.seq (.reg 18) (.cond (.tmp 145) (.seq (.reg 19) .ret) .skip)) (.reg 20))) (.reg 21)))))) (.seq (.reg 22) .ret)))))))
def S_wordhoardref_CheckMachine_C1 (Q : AV → AH → Prop) (H : AH) (v1 : AV) (k_35 : List AV → AH → Prop) (vs : List AV) : AH → Prop :=
 Rg 7 fun b_41 =>
 Pu Try.prog (.addOff 1) [v1] fun v38 =>
 RdS Try.prog (.ld 1 false) [v38] fun v39 =>
 Pu Try.prog (.idx 5) [v39, (vs.getD 0 .any)] fun v41 =>
 RdS Try.prog (.ld 5 true) [v41] fun v42 =>
 Al (b_41 + 5) (.nw 53 [.p (.int .i64 0), .p (.int .i64 0), .p (.int .i64 0), .p (.int .i64 0), .p (.int .i64 0)]) [] fun v4 =>
 WrS Try.prog (b_41 + 6) (.st 5) [v4, v42] fun _ =>
 Pu Try.prog (.addOff 0) [v4] fun v43 =>
 RdS Try.prog (.ld 1 false) [v43] fun v44 =>
 Pu Try.prog (.bin .lss 3) [v44, (.p (.int .i64 0))] fun v45 =>
 Gd v45 false (fun k_52 => Pu Try.prog (.addOff 0) [v4] k_52) fun v47 =>
 Gd v45 false (fun k_54 => RdS Try.prog (.ld 1 false) [v47] k_54) fun v48 =>
 Gd v45 false (fun k_56 => Pu Try.prog (.addOff 0) [v1] k_56) fun v49 =>
 Gd v45 false (fun k_58 => RdS Try.prog (.ld 1 false) [v49] k_58) fun v50 =>
 Gd v45 false (fun k_60 => Pu Try.prog (.bin .geq 3) [v48, v50] k_60) fun v51 =>
 Pu Try.prog .pick [v45, (.p (.bool true)), v51] fun v52 =>
 Gd v52 false (fun k_63 => Pu Try.prog (.addOff 1) [v4] k_63) fun v54 =>
 Gd v52 false (fun k_65 => RdS Try.prog (.ld 1 false) [v54] k_65) fun v55 =>
 Gd v52 false (fun k_67 => Pu Try.prog (.bin .lss 3) [v55, (.p (.int .i64 0))] k_67) fun v56 =>
 Pu Try.prog .pick [v52, (.p (.bool true)), v56] fun v57 =>
 Gd v57 false (fun k_70 => Pu Try.prog (.addOff 1) [v4] k_70) fun v59 =>
 Gd v57 false (fun k_72 => RdS Try.prog (.ld 1 false) [v59] k_72) fun v60 =>
 Gd v57 false (fun k_74 => Pu Try.prog (.addOff 0) [v1] k_74) fun v61 =>
 Gd v57 false (fun k_76 => RdS Try.prog (.ld 1 false) [v61] k_76) fun v62 =>
 Gd v57 false (fun k_78 => Pu Try.prog (.bin .geq 3) [v60, v62] k_78) fun v63 =>
 Pu Try.prog .pick [v57, (.p (.bool true)), v63] fun v64 =>
 Gd v64 false (fun k_81 => Pu Try.prog (.addOff 2) [v4] k_81) fun v66 =>
 Gd v64 false (fun k_83 => RdS Try.prog (.ld 1 false) [v66] k_83) fun v67 =>
 Gd v64 false (fun k_85 => Pu Try.prog (.bin .lss 3) [v67, (.p (.int .i64 0))] k_85) fun v68 =>
 Pu Try.prog .pick [v64, (.p (.bool true)), v68] fun v69 =>
 Gd v69 false (fun k_88 => Pu Try.prog (.addOff 2) [v4] k_88) fun v71 =>
 Gd v69 false (fun k_90 => RdS Try.prog (.ld 1 false) [v71] k_90) fun v72 =>
 Gd v69 false (fun k_92 => Pu Try.prog (.bin .gtr 3) [v72, (.p (.int .i64 60))] k_92) fun v73 =>
 Pu Try.prog .pick [v69, (.p (.bool true)), v73] fun v74 =>
 Gd v74 false (fun k_95 => Pu Try.prog (.addOff 3) [v4] k_95) fun v76 =>
 Gd v74 false (fun k_97 => RdS Try.prog (.ld 1 false) [v76] k_97) fun v77 =>
 Gd v74 false (fun k_99 => Pu Try.prog (.bin .lss 3) [v77, (.p (.int .i64 0))] k_99) fun v78 =>
 Pu Try.prog .pick [v74, (.p (.bool true)), v78] fun v79 =>
 Gd v79 false (fun k_102 => Pu Try.prog (.addOff 3) [v4] k_102) fun v81 =>
 Gd v79 false (fun k_104 => RdS Try.prog (.ld 1 false) [v81] k_104) fun v82 =>
 Gd v79 false (fun k_106 => Pu Try.prog (.bin .gtr 3) [v82, (.p (.int .i64 60))] k_106) fun v83 =>
 Pu Try.prog .pick [v79, (.p (.bool true)), v83] fun v84 =>
 Gd v84 false (fun k_109 => Pu Try.prog (.addOff 4) [v4] k_109) fun v86 =>
 Gd v84 false (fun k_111 => RdS Try.prog (.ld 1 false) [v86] k_111) fun v87 =>
 Gd v84 false (fun k_113 => Pu Try.prog (.bin .lss 3) [v87, (.p (.int .i64 0))] k_113) fun v88 =>
 Pu Try.prog .pick [v84, (.p (.bool true)), v88] fun v89 =>
 Gd v89 false (fun k_116 => Pu Try.prog (.addOff 4) [v4] k_116) fun v91 =>
 Gd v89 false (fun k_118 => RdS Try.prog (.ld 1 false) [v91] k_118) fun v92 =>
 Gd v89 false (fun k_120 => Pu Try.prog (.bin .gtr 3) [v92, (.p (.int .i64 1000000))] k_120) fun v93 =>
 Pu Try.prog .pick [v89, (.p (.bool true)), v93] fun v94 =>
 CdA v94
 (
 Rt Try.prog H.nx (.p (.int .i64 3)) Q
 ) (
 Pu Try.prog (.bin .add 3) [(vs.getD 0 .any), (.p (.int .i64 1))] fun v37 =>
 k_35 [v37]
 )
def S_wordhoardref_CheckMachine_C2 (Q : AV → AH → Prop) (H : AH) (v1 : AV) (k_123 : List AV → AH → Prop) (vs_124 : List AV) : AH → Prop :=
 Rg 7 fun b_129 =>
 Pu Try.prog (.addOff 2) [v1] fun v102 =>
 RdS Try.prog (.ld 1 false) [v102] fun v103 =>
 Pu Try.prog (.idx 2) [v103, (vs_124.getD 0 .any)] fun v105 =>
 RdS Try.prog (.ld 2 true) [v105] fun v106 =>
 Al (b_129 + 5) (.nw 56 [.p (.int .i64 0), .p (.int .i64 0)]) [] fun v6 =>
 WrS Try.prog (b_129 + 6) (.st 2) [v6, v106] fun _ =>
 Pu Try.prog (.addOff 0) [v6] fun v107 =>
 RdS Try.prog (.ld 1 false) [v107] fun v108 =>
 Pu Try.prog (.bin .lss 3) [v108, (.p (.int .i64 0))] fun v109 =>
 Gd v109 false (fun k_140 => Pu Try.prog (.addOff 0) [v6] k_140) fun v111 =>
 Gd v109 false (fun k_142 => RdS Try.prog (.ld 1 false) [v111] k_142) fun v112 =>
 Gd v109 false (fun k_144 => Pu Try.prog (.addOff 0) [v1] k_144) fun v113 =>
 Gd v109 false (fun k_146 => RdS Try.prog (.ld 1 false) [v113] k_146) fun v114 =>
 Gd v109 false (fun k_148 => Pu Try.prog (.bin .geq 3) [v112, v114] k_148) fun v115 =>
 Pu Try.prog .pick [v109, (.p (.bool true)), v115] fun v116 =>
 Gd v116 false (fun k_151 => Pu Try.prog (.addOff 1) [v6] k_151) fun v118 =>
 Gd v116 false (fun k_153 => RdS Try.prog (.ld 1 false) [v118] k_153) fun v119 =>
 Gd v116 false (fun k_155 => Pu Try.prog (.bin .lss 3) [v119, (.p (.int .i64 0))] k_155) fun v120 =>
 Pu Try.prog .pick [v116, (.p (.bool true)), v120] fun v121 =>
 Gd v121 false (fun k_158 => Pu Try.prog (.addOff 1) [v6] k_158) fun v123 =>
 Gd v121 false (fun k_160 => RdS Try.prog (.ld 1 false) [v123] k_160) fun v124 =>
 Gd v121 false (fun k_162 => Pu Try.prog (.bin .gtr 3) [v124, (.p (.int .i64 1000000))] k_162) fun v125 =>
 Pu Try.prog .pick [v121, (.p (.bool true)), v125] fun v126 =>
 CdA v126
 (
 Rt Try.prog H.nx (.p (.int .i64 3)) Q
 ) (
 Pu Try.prog (.bin .add 3) [(vs_124.getD 0 .any), (.p (.int .i64 1))] fun v101 =>
 k_123 [v101]
 )
def S_wordhoardref_CheckMachine_L3 (Q : AV → AH → Prop) (H : AH) (v1 : AV) (v129 : AV) (vs_170 : List AV) (k_169 : List AV → AH → Prop) : AH → Prop :=
 Pu Try.prog (.addOff 2) [v1] fun v131 =>
 RdS Try.prog (.ld 1 false) [v131] fun v132 =>
 Pu Try.prog .len [v132] fun v133 =>
 Pu Try.prog (.bin .lss 3) [(vs_170.getD 0 .any), v133] fun v134 =>
 CdA v134
 (
 Pu Try.prog (.addOff 2) [v1] fun v138 =>
 RdS Try.prog (.ld 1 false) [v138] fun v139 =>
 Pu Try.prog (.idx 2) [v139, (vs_170.getD 0 .any)] fun v141 =>
 Pu Try.prog (.addOff 0) [v141] fun v142 =>
 RdS Try.prog (.ld 1 false) [v142] fun v143 =>
 Pu Try.prog (.idx 1) [v129, v143] fun v144 =>
 RdS Try.prog (.ld 1 false) [v144] fun v145 =>
 CdA v145
 (
 Rt Try.prog H.nx (.p (.int .i64 6)) Q
 ) (
 Rg 9 fun b_182 =>
 Pu Try.prog (.addOff 2) [v1] fun v147 =>
 RdS Try.prog (.ld 1 false) [v147] fun v148 =>
 Pu Try.prog (.idx 2) [v148, (vs_170.getD 0 .any)] fun v150 =>
 Pu Try.prog (.addOff 0) [v150] fun v151 =>
 RdS Try.prog (.ld 1 false) [v151] fun v152 =>
 Pu Try.prog (.idx 1) [v129, v152] fun v153 =>
 WrS Try.prog (b_182 + 8) (.st 1) [v153, (.p (.bool true))] fun _ =>
 Pu Try.prog (.bin .add 3) [(vs_170.getD 0 .any), (.p (.int .i64 1))] fun v136 =>
 k_169 [v136]
 )
 ) (
 Rt Try.prog H.nx (.p (.int .i64 0)) Q
 )
def S_wordhoardref_CheckMachine_L4 (Q : AV → AH → Prop) (H : AH) (v1 : AV) (vs_124 : List AV) (k_123 : List AV → AH → Prop) : AH → Prop :=
 Pu Try.prog (.addOff 2) [v1] fun v96 =>
 RdS Try.prog (.ld 1 false) [v96] fun v97 =>
 Pu Try.prog .len [v97] fun v98 =>
 Pu Try.prog (.bin .lss 3) [(vs_124.getD 0 .any), v98] fun v99 =>
 CdA v99
 (S_wordhoardref_CheckMachine_C2 Q H v1 k_123 vs_124) (
 Rg 4 fun b_165 =>
 Pu Try.prog (.addOff 0) [v1] fun v127 =>
 RdS Try.prog (.ld 1 false) [v127] fun v128 =>
 Al (b_165 + 2) (.ms 4 1 1 [.p (.bool false)]) [v128, v128] fun v129 =>
 LoopA Try.prog 1 (S_wordhoardref_CheckMachine_L3 Q H v1 v129) [(.p (.int .i64 0))]
 )
def S_wordhoardref_CheckMachine_L5 (Q : AV → AH → Prop) (H : AH) (v1 : AV) (vs : List AV) (k_35 : List AV → AH → Prop) : AH → Prop :=
 Pu Try.prog (.addOff 1) [v1] fun v32 =>
 RdS Try.prog (.ld 1 false) [v32] fun v33 =>
 Pu Try.prog .len [v33] fun v34 =>
 Pu Try.prog (.bin .lss 3) [(vs.getD 0 .any), v34] fun v35 =>
 CdA v35
 (S_wordhoardref_CheckMachine_C1 Q H v1 k_35 vs) (
 LoopA Try.prog 1 (S_wordhoardref_CheckMachine_L4 Q H v1) [(.p (.int .i64 0))]
 )
def S_wordhoardref_CheckMachine (a0 : AV) (Q : AV → AH → Prop) (H : AH) : Prop := (
 Rg 2 fun b =>
 Al (b + 0) (.bx 25) [a0] fun v1 =>
 Pu Try.prog (.addOff 0) [v1] fun v9 =>
 RdS Try.prog (.ld 1 false) [v9] fun v10 =>
 Pu Try.prog (.bin .lss 3) [v10, (.p (.int .i64 1))] fun v11 =>
 Gd v11 false (fun k => Pu Try.prog (.addOff 0) [v1] k) fun v13 =>
 Gd v11 false (fun k_9 => RdS Try.prog (.ld 1 false) [v13] k_9) fun v14 =>
 Gd v11 false (fun k_11 => Pu Try.prog (.bin .gtr 3) [v14, (.p (.int .i64 3000))] k_11) fun v15 =>
 Pu Try.prog .pick [v11, (.p (.bool true)), v15] fun v16 =>
 Gd v16 false (fun k_14 => Pu Try.prog (.addOff 1) [v1] k_14) fun v18 =>
 Gd v16 false (fun k_16 => RdS Try.prog (.ld 1 false) [v18] k_16) fun v19 =>
 Gd v16 false (fun k_18 => Pu Try.prog .len [v19] k_18) fun v20 =>
 Gd v16 false (fun k_20 => Pu Try.prog (.bin .gtr 3) [v20, (.p (.int .i64 20000))] k_20) fun v21 =>
 Pu Try.prog .pick [v16, (.p (.bool true)), v21] fun v22 =>
 Gd v22 false (fun k_23 => Pu Try.prog (.addOff 2) [v1] k_23) fun v24 =>
 Gd v22 false (fun k_25 => RdS Try.prog (.ld 1 false) [v24] k_25) fun v25 =>
 Gd v22 false (fun k_27 => Pu Try.prog .len [v25] k_27) fun v26 =>
 Gd v22 false (fun k_29 => Pu Try.prog (.addOff 0) [v1] k_29) fun v27 =>
 Gd v22 false (fun k_31 => RdS Try.prog (.ld 1 false) [v27] k_31) fun v28 =>
 Gd v22 false (fun k_33 => Pu Try.prog (.bin .gtr 3) [v26, v28] k_33) fun v29 =>
 Pu Try.prog .pick [v22, (.p (.bool true)), v29] fun v30 =>
 CdA v30
 (
 Rt Try.prog H.nx (.p (.int .i64 7)) Q
 ) (
 LoopA Try.prog 1 (S_wordhoardref_CheckMachine_L5 Q H v1) [(.p (.int .i64 0))]
 )
 ) H
theorem eq_wordhoardref_CheckMachine (a0 : AV) (Q : AV → AH → Prop) (H : AH) : FnA Try.prog 154 (regsF Try.f9) ac_wordhoardref_CheckMachine [.tm 2] [a0] H Q = S_wordhoardref_CheckMachine a0 Q H := by kernel_rfl
theorem tri_wordhoardref_CheckMachine {a0 : AV} {H : AH} {Q : AV → AH → Prop} (h : S_wordhoardref_CheckMachine a0 Q H) : Tri Try.prog 9 [a0] H Q :=
  tri_of (Ms := [#[], #[], #[], #[], #[], #[], #[], #[], #[], #[], #[], #[], #[], #[], #[], #[], #[], #[], #[], #[], #[], #[], #[]]) mixed Try.func9 rfl (by kernel_rfl) (by kernel_rfl) rfl (of_decide_eq_true rfl : 1 ≤ 154) (by rw [eq_wordhoardref_CheckMachine a0 Q H]; exact h : FnA Try.prog 154 (regsF Try.f9) ac_wordhoardref_CheckMachine [.tm 2] [a0] H Q)

/-! wordhoard/wordhoardref.ThroughCost -/
def S_wordhoardref_ThroughCost_L1 (v5 : AV) (v11 : AV) (v66 : AV) (v67 : AV) (vs_50 : List AV) (vs_54 : List AV) (k_57 : List AV → AH → Prop) (vs_58 : List AV) (v20 : AV) (vs_71 : List AV) (vs_76 : List AV) (k_75 : List AV → AH → Prop) : AH → Prop :=
 Pu Try.prog (.addOff 0) [v5] fun v115 =>
 RdS Try.prog (.ld 1 false) [v115] fun v116 =>
 Pu Try.prog (.bin .lss 3) [(vs_76.getD 0 .any), v116] fun v117 =>
 CdA v117
 (
 Vw fun V =>
 Rd Try.prog V (.ld 1 false) [v11] fun v120 =>
 Pu Try.prog (.addOff 0) [v20] fun v122 =>
 Rd Try.prog V (.ld 1 false) [v122] fun v123 =>
 CaV Try.prog V v66 [v123, (vs_76.getD 0 .any), (vs_50.getD 0 .any), (vs_54.getD 0 .any)] fun v127 =>
 Pu Try.prog (.idx 1) [v120, v127] fun v128 =>
 Rd Try.prog V (.ld 1 false) [v128] fun v129 =>
 Pu Try.prog (.bin .lss 3) [v129, (.p (.int .i64 1152921504606846976))] fun v131 =>
 CdA v131
 (
 Rg 13 fun _ =>
 Vw fun V_89 =>
 Pu Try.prog (.addOff 1) [v20] fun v134 =>
 Rd Try.prog V_89 (.ld 1 false) [v134] fun v135 =>
 CaV Try.prog V_89 v66 [v135, (vs_76.getD 0 .any), (vs_71.getD 0 .any), (vs_54.getD 0 .any)] fun v139 =>
 Pu Try.prog (.addOff 4) [v20] fun v141 =>
 Rd Try.prog V_89 (.ld 1 false) [v141] fun v142 =>
 Pu Try.prog (.bin .add 3) [v129, v142] fun v143 =>
 Ca Try.prog v67 [v139, v143] fun _ =>
 Vw fun _ =>
 Pu Try.prog (.bin .add 3) [(vs_76.getD 0 .any), (.p (.int .i64 1))] fun v119 =>
 k_75 [v119]
 ) (
 Pu Try.prog (.bin .add 3) [(vs_76.getD 0 .any), (.p (.int .i64 1))] fun v119_99 =>
 k_75 [v119_99]
 )
 ) (
 Pu Try.prog (.bin .add 3) [(vs_58.getD 0 .any), (.p (.int .i64 1))] fun v86 =>
 k_57 [v86]
 )
def S_wordhoardref_ThroughCost_K2 (v11 : AV) (v66 : AV) (v67 : AV) (vs_50 : List AV) (vs_54 : List AV) (v20 : AV) (vs_71 : List AV) (k_101 : List AV → AH → Prop) (vs_102 : List AV) (v25 : AV) (vs_121 : List AV) : AH → Prop :=
 Vw fun V_122 =>
 Rd Try.prog V_122 (.ld 1 false) [v11] fun v181 =>
 Pu Try.prog (.addOff 0) [v20] fun v183 =>
 Rd Try.prog V_122 (.ld 1 false) [v183] fun v184 =>
 Pu Try.prog (.addOff 0) [v25] fun v185 =>
 Rd Try.prog V_122 (.ld 1 false) [v185] fun v186 =>
 CaV Try.prog V_122 v66 [v184, v186, (vs_50.getD 0 .any), (vs_54.getD 0 .any)] fun v189 =>
 Pu Try.prog (.idx 1) [v181, v189] fun v190 =>
 Rd Try.prog V_122 (.ld 1 false) [v190] fun v191 =>
 Pu Try.prog (.bin .lss 3) [v191, (.p (.int .i64 1152921504606846976))] fun v193 =>
 CdA v193
 (
 Rg 17 fun _ =>
 Vw fun V_133 =>
 Pu Try.prog (.addOff 1) [v20] fun v196 =>
 Rd Try.prog V_133 (.ld 1 false) [v196] fun v197 =>
 Pu Try.prog (.addOff 1) [v25] fun v198 =>
 Rd Try.prog V_133 (.ld 1 false) [v198] fun v199 =>
 CaV Try.prog V_133 v66 [v197, v199, (vs_71.getD 0 .any), (vs_121.getD 0 .any)] fun v202 =>
 Pu Try.prog (.addOff 4) [v20] fun v204 =>
 Rd Try.prog V_133 (.ld 1 false) [v204] fun v205 =>
 Pu Try.prog (.bin .add 3) [v191, v205] fun v206 =>
 Pu Try.prog (.addOff 4) [v25] fun v207 =>
 Rd Try.prog V_133 (.ld 1 false) [v207] fun v208 =>
 Pu Try.prog (.bin .add 3) [v206, v208] fun v209 =>
 Ca Try.prog v67 [v202, v209] fun _ =>
 Vw fun _ =>
 Pu Try.prog (.bin .add 3) [(vs_102.getD 0 .any), (.p (.int .i64 1))] fun v151_147 =>
 k_101 [v151_147]
 ) (
 Pu Try.prog (.bin .add 3) [(vs_102.getD 0 .any), (.p (.int .i64 1))] fun v151_148 =>
 k_101 [v151_148]
 )
def S_wordhoardref_ThroughCost_C3 (a3 : AV) (v11 : AV) (v66 : AV) (v67 : AV) (vs_50 : List AV) (vs_54 : List AV) (v20 : AV) (vs_71 : List AV) (k_101 : List AV → AH → Prop) (vs_102 : List AV) (v25 : AV) : AH → Prop :=
 CutA Try.prog 1 (fun k_120 =>
 Pu Try.prog (.addOff 3) [v25] fun v163 =>
 RdS Try.prog (.ld 1 false) [v163] fun v164 =>
 Pu Try.prog (.bin .gtr 3) [v164, (.p (.int .i64 0))] fun v165 =>
 CdA v165
 (
 Vw fun V_152 =>
 Pu Try.prog .len [a3] fun v168 =>
 Pu Try.prog (.bin .eql 3) [(vs_54.getD 0 .any), v168] fun v169 =>
 GdV v169 false (fun k_156 => k_156 a3 V_152) V_152 fun v171 V_157 =>
 GdV v169 false (fun k_159 => k_159 (vs_54.getD 0 .any) V_157) V_157 fun v172 V_160 =>
 GdV v169 false (fun k_162 => Pu Try.prog (.idx 1) [v171, v172] (fun a => k_162 a V_160)) V_160 fun v173 V_163 =>
 GdV v169 false (fun k_165 => Rd Try.prog V_163 (.ld 1 false) [v173] (fun a => k_165 a V_163)) V_163 fun v174 V_166 =>
 GdV v169 false (fun k_168 => Pu Try.prog (.addOff 3) [v25] (fun a => k_168 a V_166)) V_166 fun v175 V_169 =>
 GdV v169 false (fun k_171 => Rd Try.prog V_169 (.ld 1 false) [v175] (fun a => k_171 a V_169)) V_169 fun v176 V_172 =>
 GdV v169 false (fun k_174 => Pu Try.prog (.bin .neq 3) [v174, v176] (fun a => k_174 a V_172)) V_172 fun v177 _ =>
 Pu Try.prog .pick [v169, (.p (.bool true)), v177] fun v178 =>
 CdA v178
 (
 Pu Try.prog (.bin .add 3) [(vs_102.getD 0 .any), (.p (.int .i64 1))] fun v151_177 =>
 k_101 [v151_177]
 ) (
 Pu Try.prog (.bin .add 3) [(vs_54.getD 0 .any), (.p (.int .i64 1))] fun v180 =>
 k_120 [v180]
 )
 ) (
 k_120 [(vs_54.getD 0 .any)]
 )
 ) (S_wordhoardref_ThroughCost_K2 v11 v66 v67 vs_50 vs_54 v20 vs_71 k_101 vs_102 v25)
def S_wordhoardref_ThroughCost_L4 (a3 : AV) (v5 : AV) (v11 : AV) (v66 : AV) (v67 : AV) (vs_50 : List AV) (vs_54 : List AV) (k_57 : List AV → AH → Prop) (vs_58 : List AV) (v20 : AV) (vs_71 : List AV) (vs_102 : List AV) (k_101 : List AV → AH → Prop) : AH → Prop :=
 Pu Try.prog (.addOff 1) [v5] fun v146 =>
 RdS Try.prog (.ld 1 false) [v146] fun v147 =>
 Pu Try.prog .len [v147] fun v148 =>
 Pu Try.prog (.bin .lss 3) [(vs_102.getD 0 .any), v148] fun v149 =>
 CdA v149
 (
 Rg 7 fun b_107 =>
 Pu Try.prog (.addOff 1) [v5] fun v152 =>
 RdS Try.prog (.ld 1 false) [v152] fun v153 =>
 Pu Try.prog (.idx 5) [v153, (vs_102.getD 0 .any)] fun v155 =>
 RdS Try.prog (.ld 5 true) [v155] fun v156 =>
 Al (b_107 + 5) (.nw 53 [.p (.int .i64 0), .p (.int .i64 0), .p (.int .i64 0), .p (.int .i64 0), .p (.int .i64 0)]) [] fun v25 =>
 WrS Try.prog (b_107 + 6) (.st 5) [v25, v156] fun _ =>
 Pu Try.prog (.addOff 2) [v25] fun v158 =>
 RdS Try.prog (.ld 1 false) [v158] fun v159 =>
 Pu Try.prog (.addOff 3) [v20] fun v160 =>
 RdS Try.prog (.ld 1 false) [v160] fun v161 =>
 Pu Try.prog (.bin .neq 3) [v159, v161] fun v162 =>
 CdA v162
 (
 Pu Try.prog (.bin .add 3) [(vs_102.getD 0 .any), (.p (.int .i64 1))] fun v151 =>
 k_101 [v151]
 ) (S_wordhoardref_ThroughCost_C3 a3 v11 v66 v67 vs_50 vs_54 v20 vs_71 k_101 vs_102 v25)
 ) (
 Pu Try.prog (.bin .add 3) [(vs_58.getD 0 .any), (.p (.int .i64 1))] fun v86_179 =>
 k_57 [v86_179]
 )
def S_wordhoardref_ThroughCost_K5 (a3 : AV) (v5 : AV) (v11 : AV) (v66 : AV) (v67 : AV) (vs_50 : List AV) (vs_54 : List AV) (k_57 : List AV → AH → Prop) (vs_58 : List AV) (v20 : AV) (vs_71 : List AV) : AH → Prop :=
 Pu Try.prog (.addOff 3) [v20] fun v111 =>
 RdS Try.prog (.ld 1 false) [v111] fun v112 =>
 Pu Try.prog (.bin .eql 3) [v112, (.p (.int .i64 0))] fun v113 =>
 CdA v113
 (
 LoopA Try.prog 1 (S_wordhoardref_ThroughCost_L1 v5 v11 v66 v67 vs_50 vs_54 k_57 vs_58 v20 vs_71) [(.p (.int .i64 0))]
 ) (
 LoopA Try.prog 1 (S_wordhoardref_ThroughCost_L4 a3 v5 v11 v66 v67 vs_50 vs_54 k_57 vs_58 v20 vs_71) [(.p (.int .i64 0))]
 )
def S_wordhoardref_ThroughCost_C6 (a2 : AV) (a3 : AV) (v4 : AV) (v5 : AV) (v11 : AV) (v66 : AV) (v67 : AV) (vs_50 : List AV) (vs_54 : List AV) (k_57 : List AV → AH → Prop) (vs_58 : List AV) : AH → Prop :=
 Rg 7 fun b_63 =>
 Pu Try.prog (.addOff 1) [v4] fun v87 =>
 RdS Try.prog (.ld 1 false) [v87] fun v88 =>
 Pu Try.prog (.idx 5) [v88, (vs_58.getD 0 .any)] fun v90 =>
 RdS Try.prog (.ld 5 true) [v90] fun v91 =>
 Al (b_63 + 5) (.nw 53 [.p (.int .i64 0), .p (.int .i64 0), .p (.int .i64 0), .p (.int .i64 0), .p (.int .i64 0)]) [] fun v20 =>
 WrS Try.prog (b_63 + 6) (.st 5) [v20, v91] fun _ =>
 CutA Try.prog 1 (fun k_70 =>
 Pu Try.prog (.addOff 2) [v20] fun v93 =>
 RdS Try.prog (.ld 1 false) [v93] fun v94 =>
 Pu Try.prog (.bin .gtr 3) [v94, (.p (.int .i64 0))] fun v95 =>
 CdA v95
 (
 Vw fun V_183 =>
 Pu Try.prog .len [a2] fun v98 =>
 Pu Try.prog (.bin .eql 3) [(vs_50.getD 0 .any), v98] fun v99 =>
 GdV v99 false (fun k_187 => k_187 a2 V_183) V_183 fun v101 V_188 =>
 GdV v99 false (fun k_190 => k_190 (vs_50.getD 0 .any) V_188) V_188 fun v102 V_191 =>
 GdV v99 false (fun k_193 => Pu Try.prog (.idx 1) [v101, v102] (fun a => k_193 a V_191)) V_191 fun v103 V_194 =>
 GdV v99 false (fun k_196 => Rd Try.prog V_194 (.ld 1 false) [v103] (fun a => k_196 a V_194)) V_194 fun v104 V_197 =>
 GdV v99 false (fun k_199 => Pu Try.prog (.addOff 2) [v20] (fun a => k_199 a V_197)) V_197 fun v105 V_200 =>
 GdV v99 false (fun k_202 => Rd Try.prog V_200 (.ld 1 false) [v105] (fun a => k_202 a V_200)) V_200 fun v106 V_203 =>
 GdV v99 false (fun k_205 => Pu Try.prog (.bin .neq 3) [v104, v106] (fun a => k_205 a V_203)) V_203 fun v107 _ =>
 Pu Try.prog .pick [v99, (.p (.bool true)), v107] fun v108 =>
 CdA v108
 (
 Pu Try.prog (.bin .add 3) [(vs_58.getD 0 .any), (.p (.int .i64 1))] fun v86_208 =>
 k_57 [v86_208]
 ) (
 Pu Try.prog (.bin .add 3) [(vs_50.getD 0 .any), (.p (.int .i64 1))] fun v110 =>
 k_70 [v110]
 )
 ) (
 k_70 [(vs_50.getD 0 .any)]
 )
 ) (S_wordhoardref_ThroughCost_K5 a3 v5 v11 v66 v67 vs_50 vs_54 k_57 vs_58 v20)
def S_wordhoardref_ThroughCost_L7 (v4 : AV) (v11 : AV) (v66 : AV) (v67 : AV) (vs_50 : List AV) (vs_54 : List AV) (k_210 : List AV → AH → Prop) (vs_211 : List AV) (v29 : AV) (vs_228 : List AV) (vs_230 : List AV) (k_229 : List AV → AH → Prop) : AH → Prop :=
 Pu Try.prog (.addOff 0) [v4] fun v246 =>
 RdS Try.prog (.ld 1 false) [v246] fun v247 =>
 Pu Try.prog (.bin .lss 3) [(vs_230.getD 0 .any), v247] fun v248 =>
 CdA v248
 (
 Vw fun V_234 =>
 Rd Try.prog V_234 (.ld 1 false) [v11] fun v251 =>
 Pu Try.prog (.addOff 0) [v29] fun v254 =>
 Rd Try.prog V_234 (.ld 1 false) [v254] fun v255 =>
 CaV Try.prog V_234 v66 [(vs_230.getD 0 .any), v255, (vs_50.getD 0 .any), (vs_54.getD 0 .any)] fun v258 =>
 Pu Try.prog (.idx 1) [v251, v258] fun v259 =>
 Rd Try.prog V_234 (.ld 1 false) [v259] fun v260 =>
 Pu Try.prog (.bin .lss 3) [v260, (.p (.int .i64 1152921504606846976))] fun v262 =>
 CdA v262
 (
 Rg 13 fun _ =>
 Vw fun V_243 =>
 Pu Try.prog (.addOff 1) [v29] fun v266 =>
 Rd Try.prog V_243 (.ld 1 false) [v266] fun v267 =>
 CaV Try.prog V_243 v66 [(vs_230.getD 0 .any), v267, (vs_50.getD 0 .any), (vs_228.getD 0 .any)] fun v270 =>
 Pu Try.prog (.addOff 4) [v29] fun v272 =>
 Rd Try.prog V_243 (.ld 1 false) [v272] fun v273 =>
 Pu Try.prog (.bin .add 3) [v260, v273] fun v274 =>
 Ca Try.prog v67 [v270, v274] fun _ =>
 Vw fun _ =>
 Pu Try.prog (.bin .add 3) [(vs_230.getD 0 .any), (.p (.int .i64 1))] fun v250 =>
 k_229 [v250]
 ) (
 Pu Try.prog (.bin .add 3) [(vs_230.getD 0 .any), (.p (.int .i64 1))] fun v250_253 =>
 k_229 [v250_253]
 )
 ) (
 Pu Try.prog (.bin .add 3) [(vs_211.getD 0 .any), (.p (.int .i64 1))] fun v217_254 =>
 k_210 [v217_254]
 )
def S_wordhoardref_ThroughCost_K8 (v4 : AV) (v11 : AV) (v66 : AV) (v67 : AV) (vs_50 : List AV) (vs_54 : List AV) (k_210 : List AV → AH → Prop) (vs_211 : List AV) (v29 : AV) (vs_228 : List AV) : AH → Prop :=
 LoopA Try.prog 1 (S_wordhoardref_ThroughCost_L7 v4 v11 v66 v67 vs_50 vs_54 k_210 vs_211 v29 vs_228) [(.p (.int .i64 0))]
def S_wordhoardref_ThroughCost_C9 (a3 : AV) (v4 : AV) (v11 : AV) (v66 : AV) (v67 : AV) (vs_50 : List AV) (vs_54 : List AV) (k_210 : List AV → AH → Prop) (vs_211 : List AV) (v29 : AV) : AH → Prop :=
 CutA Try.prog 1 (fun k_227 =>
 Pu Try.prog (.addOff 3) [v29] fun v227 =>
 RdS Try.prog (.ld 1 false) [v227] fun v228 =>
 Pu Try.prog (.bin .gtr 3) [v228, (.p (.int .i64 0))] fun v229 =>
 CdA v229
 (
 Vw fun V_258 =>
 Pu Try.prog .len [a3] fun v232 =>
 Pu Try.prog (.bin .eql 3) [(vs_54.getD 0 .any), v232] fun v233 =>
 GdV v233 false (fun k_262 => k_262 a3 V_258) V_258 fun v235 V_263 =>
 GdV v233 false (fun k_265 => k_265 (vs_54.getD 0 .any) V_263) V_263 fun v236 V_266 =>
 GdV v233 false (fun k_268 => Pu Try.prog (.idx 1) [v235, v236] (fun a => k_268 a V_266)) V_266 fun v237 V_269 =>
 GdV v233 false (fun k_271 => Rd Try.prog V_269 (.ld 1 false) [v237] (fun a => k_271 a V_269)) V_269 fun v238 V_272 =>
 GdV v233 false (fun k_274 => Pu Try.prog (.addOff 3) [v29] (fun a => k_274 a V_272)) V_272 fun v239 V_275 =>
 GdV v233 false (fun k_277 => Rd Try.prog V_275 (.ld 1 false) [v239] (fun a => k_277 a V_275)) V_275 fun v240 V_278 =>
 GdV v233 false (fun k_280 => Pu Try.prog (.bin .neq 3) [v238, v240] (fun a => k_280 a V_278)) V_278 fun v241 _ =>
 Pu Try.prog .pick [v233, (.p (.bool true)), v241] fun v242 =>
 CdA v242
 (
 Pu Try.prog (.bin .add 3) [(vs_211.getD 0 .any), (.p (.int .i64 1))] fun v217_283 =>
 k_210 [v217_283]
 ) (
 Pu Try.prog (.bin .add 3) [(vs_54.getD 0 .any), (.p (.int .i64 1))] fun v244 =>
 k_227 [v244]
 )
 ) (
 k_227 [(vs_54.getD 0 .any)]
 )
 ) (S_wordhoardref_ThroughCost_K8 v4 v11 v66 v67 vs_50 vs_54 k_210 vs_211 v29)
def S_wordhoardref_ThroughCost_L10 (a3 : AV) (v4 : AV) (v5 : AV) (v11 : AV) (v66 : AV) (v67 : AV) (vs_50 : List AV) (k_53 : List AV → AH → Prop) (vs_54 : List AV) (vs_211 : List AV) (k_210 : List AV → AH → Prop) : AH → Prop :=
 Pu Try.prog (.addOff 1) [v5] fun v212 =>
 RdS Try.prog (.ld 1 false) [v212] fun v213 =>
 Pu Try.prog .len [v213] fun v214 =>
 Pu Try.prog (.bin .lss 3) [(vs_211.getD 0 .any), v214] fun v215 =>
 CdA v215
 (
 Rg 7 fun b_216 =>
 Pu Try.prog (.addOff 1) [v5] fun v218 =>
 RdS Try.prog (.ld 1 false) [v218] fun v219 =>
 Pu Try.prog (.idx 5) [v219, (vs_211.getD 0 .any)] fun v221 =>
 RdS Try.prog (.ld 5 true) [v221] fun v222 =>
 Al (b_216 + 5) (.nw 53 [.p (.int .i64 0), .p (.int .i64 0), .p (.int .i64 0), .p (.int .i64 0), .p (.int .i64 0)]) [] fun v29 =>
 WrS Try.prog (b_216 + 6) (.st 5) [v29, v222] fun _ =>
 Pu Try.prog (.addOff 2) [v29] fun v224 =>
 RdS Try.prog (.ld 1 false) [v224] fun v225 =>
 Pu Try.prog (.bin .gtr 3) [v225, (.p (.int .i64 0))] fun v226 =>
 CdA v226
 (
 Pu Try.prog (.bin .add 3) [(vs_211.getD 0 .any), (.p (.int .i64 1))] fun v217 =>
 k_210 [v217]
 ) (S_wordhoardref_ThroughCost_C9 a3 v4 v11 v66 v67 vs_50 vs_54 k_210 vs_211 v29)
 ) (
 Pu Try.prog (.bin .add 3) [(vs_54.getD 0 .any), (.p (.int .i64 1))] fun v79 =>
 k_53 [v79]
 )
def S_wordhoardref_ThroughCost_L11 (a2 : AV) (a3 : AV) (v4 : AV) (v5 : AV) (v11 : AV) (v66 : AV) (v67 : AV) (vs_50 : List AV) (k_53 : List AV → AH → Prop) (vs_54 : List AV) (vs_58 : List AV) (k_57 : List AV → AH → Prop) : AH → Prop :=
 Pu Try.prog (.addOff 1) [v4] fun v81 =>
 RdS Try.prog (.ld 1 false) [v81] fun v82 =>
 Pu Try.prog .len [v82] fun v83 =>
 Pu Try.prog (.bin .lss 3) [(vs_58.getD 0 .any), v83] fun v84 =>
 CdA v84
 (S_wordhoardref_ThroughCost_C6 a2 a3 v4 v5 v11 v66 v67 vs_50 vs_54 k_57 vs_58) (
 LoopA Try.prog 1 (S_wordhoardref_ThroughCost_L10 a3 v4 v5 v11 v66 v67 vs_50 k_53 vs_54) [(.p (.int .i64 0))]
 )
/-! wordhoard/wordhoardref.Cost -/
def ac_wordhoardref_Cost : AC := (.seq (.reg 0) (.seq (.reg 1) (.cut [10] [(32, 34)] (.seq (.reg 2) (.cond (.tmp 33) (.reg 3) .skip)) (.seq (.reg 4) (.seq (.seq (.reg 5) (.block 0 (.loop [12] [(41, 50)] (.seq (.seq (.reg 6) (.cond (.tmp 44) .skip (.exit 0))) (.seq (.block 1 (.reg 7)) (.reg 8)))))) (.seq (.reg 9) (.seq (.seq (.reg 10) (.block 2 (.loop [13] [(14, 22), (52, 157)] (.seq (.seq (.reg 11) (.cond (.tmp 52) .skip (.exit 2))) (.block 3 (.seq (.reg 12) (.seq (.reg 13) (.block 4 (.loop [13, 14] [(15, 22), (53, 157)] (.seq (.seq (.reg 14) (.cond (.tmp 57) .skip (.exit 4))) (.seq (.block 5 (.seq (.reg 15) (.seq (.reg 16) (.block 6 (.loop [13, 16] [(17, 22), (65, 157)] (.seq (.seq (.reg 17) (.cond (.tmp 67) .skip (.exit 6))) (.seq (.block 7 (.seq (.reg 18) (.block 8 (.loop [13, 17] [(18, 22), (70, 157)] (.seq (.seq (.reg 19) (.cond (.tmp 72) .skip (.exit 8))) (.seq (.block 9 (.seq (.reg 20) (.seq (.seq (.reg 21) (.cond (.tmp 89) (.exit 9) .skip)) (.seq (.reg 22) (.cut [19] [(92, 110)] (.seq (.reg 23) (.cond (.tmp 94) (.seq (.seq (.reg 24) (.cond (.tmp 107) (.exit 9) .skip)) (.reg 25)) .skip)) (.cut [20] [(110, 131)] (.seq (.reg 26) (.cond (.tmp 115) (.seq (.seq (.reg 27) (.cond (.tmp 128) (.exit 9) .skip)) (.reg 28)) .skip)) (.seq (.reg 29) (.seq (.reg 30) (.cond (.tmp 149) (.seq (.reg 31) (.reg 32)) .skip))))))))) (.reg 33))))))) (.reg 34)))))))) (.reg 35)))))))))))) (.seq (.reg 36) (.seq (.seq (.reg 37) (.block 10 (.loop [22, 23] [(24, 26), (157, 198)] (.seq (.seq (.reg 38) (.cond (.tmp 161) .skip (.exit 10))) (.seq (.block 11 (.seq (.reg 39) (.seq (.reg 40) (.seq (.reg 41) (.cond (.tmp 193) (.reg 42) .skip))))) (.reg 43)))))) (.seq (.reg 44) .ret))))))))))
def S_wordhoardref_Cost_K1 (v28 : AV) (vs : List AV) (v40 : AV) (v15 : AV) (k_44 : List AV → AH → Prop) (vs_45 : List AV) (v87 : AV) (vs_58 : List AV) (vs_60 : List AV) : AH → Prop :=
 Pu Try.prog (.addOff 1) [v15] fun v131 =>
 RdS Try.prog (.ld 1 false) [v131] fun v132 =>
 Pu Try.prog (.bin .mul 3) [v132, v28] fun v134 =>
 Pu Try.prog (.bin .add 3) [v134, (vs_58.getD 0 .any)] fun v136 =>
 Pu Try.prog (.bin .mul 3) [v136, (vs.getD 0 .any)] fun v138 =>
 Pu Try.prog (.bin .add 3) [v138, (vs_60.getD 0 .any)] fun v140 =>
 Vw fun V =>
 Pu Try.prog (.addOff 4) [v15] fun v142 =>
 Rd Try.prog V (.ld 1 false) [v142] fun v143 =>
 Pu Try.prog (.bin .add 3) [v87, v143] fun v144 =>
 Pu Try.prog (.idx 1) [v40, v140] fun v147 =>
 Rd Try.prog V (.ld 1 false) [v147] fun v148 =>
 Pu Try.prog (.bin .lss 3) [v144, v148] fun v149 =>
 CdA v149
 (
 Rg 8 fun b_74 =>
 Pu Try.prog (.addOff 4) [v15] fun v153 =>
 RdS Try.prog (.ld 1 false) [v153] fun v154 =>
 Pu Try.prog (.bin .add 3) [v87, v154] fun v155 =>
 Pu Try.prog (.idx 1) [v40, v140] fun v156 =>
 WrS Try.prog (b_74 + 7) (.st 1) [v156, v155] fun _ =>
 Pu Try.prog (.bin .add 3) [(vs_45.getD 1 .any), (.p (.int .i64 1))] fun v74_80 =>
 k_44 [(.p (.bool true)), v74_80]
 ) (
 Pu Try.prog (.bin .add 3) [(vs_45.getD 1 .any), (.p (.int .i64 1))] fun v74_81 =>
 k_44 [(vs_45.getD 0 .any), v74_81]
 )
def S_wordhoardref_Cost_K2 (a2 : AV) (a3 : AV) (v28 : AV) (vs : List AV) (v40 : AV) (v15 : AV) (k_44 : List AV → AH → Prop) (vs_45 : List AV) (v87 : AV) (vs_58 : List AV) : AH → Prop :=
 CutA Try.prog 1 (fun k_59 =>
 Pu Try.prog (.addOff 3) [v15] fun v110 =>
 RdS Try.prog (.ld 1 false) [v110] fun v111 =>
 Pu Try.prog (.bin .gtr 3) [v111, (.p (.int .i64 0))] fun v112 =>
 Gd v112 true (fun k_86 => k_86 a3) fun v114 =>
 Pu Try.prog .pick [v112, v114, (.p (.bool false))] fun v115 =>
 CdA v115
 (
 Vw fun V_88 =>
 Pu Try.prog .len [a2] fun v118 =>
 Pu Try.prog (.bin .eql 3) [(vs_45.getD 1 .any), v118] fun v119 =>
 GdV v119 false (fun k_92 => k_92 a2 V_88) V_88 fun v121 V_93 =>
 GdV v119 false (fun k_95 => k_95 (vs_45.getD 1 .any) V_93) V_93 fun v122 V_96 =>
 GdV v119 false (fun k_98 => Pu Try.prog (.idx 1) [v121, v122] (fun a => k_98 a V_96)) V_96 fun v123 V_99 =>
 GdV v119 false (fun k_101 => Rd Try.prog V_99 (.ld 1 false) [v123] (fun a => k_101 a V_99)) V_99 fun v124 V_102 =>
 GdV v119 false (fun k_104 => Pu Try.prog (.addOff 3) [v15] (fun a => k_104 a V_102)) V_102 fun v125 V_105 =>
 GdV v119 false (fun k_107 => Rd Try.prog V_105 (.ld 1 false) [v125] (fun a => k_107 a V_105)) V_105 fun v126 V_108 =>
 GdV v119 false (fun k_110 => Pu Try.prog (.bin .neq 3) [v124, v126] (fun a => k_110 a V_108)) V_108 fun v127 _ =>
 Pu Try.prog .pick [v119, (.p (.bool true)), v127] fun v128 =>
 CdA v128
 (
 Pu Try.prog (.bin .add 3) [(vs_45.getD 1 .any), (.p (.int .i64 1))] fun v74_113 =>
 k_44 [(vs_45.getD 0 .any), v74_113]
 ) (
 Pu Try.prog (.bin .add 3) [(vs_45.getD 1 .any), (.p (.int .i64 1))] fun v130 =>
 k_59 [v130]
 )
 ) (
 k_59 [(vs_45.getD 1 .any)]
 )
 ) (S_wordhoardref_Cost_K1 v28 vs v40 v15 k_44 vs_45 v87 vs_58)
def S_wordhoardref_Cost_C3 (a1 : AV) (a2 : AV) (a3 : AV) (v28 : AV) (vs : List AV) (v40 : AV) (v15 : AV) (vs_42 : List AV) (k_44 : List AV → AH → Prop) (vs_45 : List AV) (v87 : AV) : AH → Prop :=
 CutA Try.prog 1 (fun k_57 =>
 Pu Try.prog (.addOff 2) [v15] fun v92 =>
 RdS Try.prog (.ld 1 false) [v92] fun v93 =>
 Pu Try.prog (.bin .gtr 3) [v93, (.p (.int .i64 0))] fun v94 =>
 CdA v94
 (
 Vw fun V_118 =>
 Pu Try.prog .len [a1] fun v97 =>
 Pu Try.prog (.bin .eql 3) [(vs_42.getD 1 .any), v97] fun v98 =>
 GdV v98 false (fun k_122 => k_122 a1 V_118) V_118 fun v100 V_123 =>
 GdV v98 false (fun k_125 => k_125 (vs_42.getD 1 .any) V_123) V_123 fun v101 V_126 =>
 GdV v98 false (fun k_128 => Pu Try.prog (.idx 1) [v100, v101] (fun a => k_128 a V_126)) V_126 fun v102 V_129 =>
 GdV v98 false (fun k_131 => Rd Try.prog V_129 (.ld 1 false) [v102] (fun a => k_131 a V_129)) V_129 fun v103 V_132 =>
 GdV v98 false (fun k_134 => Pu Try.prog (.addOff 2) [v15] (fun a => k_134 a V_132)) V_132 fun v104 V_135 =>
 GdV v98 false (fun k_137 => Rd Try.prog V_135 (.ld 1 false) [v104] (fun a => k_137 a V_135)) V_135 fun v105 V_138 =>
 GdV v98 false (fun k_140 => Pu Try.prog (.bin .neq 3) [v103, v105] (fun a => k_140 a V_138)) V_138 fun v106 _ =>
 Pu Try.prog .pick [v98, (.p (.bool true)), v106] fun v107 =>
 CdA v107
 (
 Pu Try.prog (.bin .add 3) [(vs_45.getD 1 .any), (.p (.int .i64 1))] fun v74_143 =>
 k_44 [(vs_45.getD 0 .any), v74_143]
 ) (
 Pu Try.prog (.bin .add 3) [(vs_42.getD 1 .any), (.p (.int .i64 1))] fun v109 =>
 k_57 [v109]
 )
 ) (
 k_57 [(vs_42.getD 1 .any)]
 )
 ) (S_wordhoardref_Cost_K2 a2 a3 v28 vs v40 v15 k_44 vs_45 v87)
def S_wordhoardref_Cost_L4 (a1 : AV) (a2 : AV) (a3 : AV) (v28 : AV) (vs : List AV) (v40 : AV) (v15 : AV) (k_41 : List AV → AH → Prop) (vs_42 : List AV) (vs_45 : List AV) (k_44 : List AV → AH → Prop) : AH → Prop :=
 Pu Try.prog (.bin .lss 3) [(vs_45.getD 1 .any), (vs.getD 0 .any)] fun v72 =>
 CdA v72
 (
 Pu Try.prog (.addOff 0) [v15] fun v76 =>
 RdS Try.prog (.ld 1 false) [v76] fun v77 =>
 Pu Try.prog (.bin .mul 3) [v77, v28] fun v79 =>
 Pu Try.prog (.bin .add 3) [v79, (vs_42.getD 1 .any)] fun v81 =>
 Pu Try.prog (.bin .mul 3) [v81, (vs.getD 0 .any)] fun v83 =>
 Pu Try.prog (.bin .add 3) [v83, (vs_45.getD 1 .any)] fun v85 =>
 Pu Try.prog (.idx 1) [v40, v85] fun v86 =>
 RdS Try.prog (.ld 1 false) [v86] fun v87 =>
 Pu Try.prog (.bin .eql 3) [v87, (.p (.int .i64 1152921504606846976))] fun v89 =>
 CdA v89
 (
 Pu Try.prog (.bin .add 3) [(vs_45.getD 1 .any), (.p (.int .i64 1))] fun v74 =>
 k_44 [(vs_45.getD 0 .any), v74]
 ) (S_wordhoardref_Cost_C3 a1 a2 a3 v28 vs v40 v15 vs_42 k_44 vs_45 v87)
 ) (
 Pu Try.prog (.bin .add 3) [(vs_42.getD 1 .any), (.p (.int .i64 1))] fun v69 =>
 k_41 [(vs_45.getD 0 .any), v69]
 )
def S_wordhoardref_Cost_L5 (a1 : AV) (a2 : AV) (a3 : AV) (v28 : AV) (vs : List AV) (v40 : AV) (k_28 : List AV → AH → Prop) (vs_29 : List AV) (v15 : AV) (vs_42 : List AV) (k_41 : List AV → AH → Prop) : AH → Prop :=
 Pu Try.prog (.bin .lss 3) [(vs_42.getD 1 .any), v28] fun v67 =>
 CdA v67
 (
 LoopA Try.prog 2 (S_wordhoardref_Cost_L4 a1 a2 a3 v28 vs v40 v15 k_41 vs_42) [(vs_42.getD 0 .any), (.p (.int .i64 0))]
 ) (
 Pu Try.prog (.bin .add 3) [(vs_29.getD 1 .any), (.p (.int .i64 1))] fun v59 =>
 k_28 [(vs_42.getD 0 .any), v59]
 )
def S_wordhoardref_Cost_L6 (a1 : AV) (a2 : AV) (a3 : AV) (v4 : AV) (v28 : AV) (vs : List AV) (v40 : AV) (k_26 : List AV → AH → Prop) (vs_29 : List AV) (k_28 : List AV → AH → Prop) : AH → Prop :=
 Pu Try.prog (.addOff 1) [v4] fun v54 =>
 RdS Try.prog (.ld 1 false) [v54] fun v55 =>
 Pu Try.prog .len [v55] fun v56 =>
 Pu Try.prog (.bin .lss 3) [(vs_29.getD 1 .any), v56] fun v57 =>
 CdA v57
 (
 Rg 7 fun b_34 =>
 Pu Try.prog (.addOff 1) [v4] fun v60 =>
 RdS Try.prog (.ld 1 false) [v60] fun v61 =>
 Pu Try.prog (.idx 5) [v61, (vs_29.getD 1 .any)] fun v63 =>
 RdS Try.prog (.ld 5 true) [v63] fun v64 =>
 Al (b_34 + 5) (.nw 53 [.p (.int .i64 0), .p (.int .i64 0), .p (.int .i64 0), .p (.int .i64 0), .p (.int .i64 0)]) [] fun v15 =>
 WrS Try.prog (b_34 + 6) (.st 5) [v15, v64] fun _ =>
 LoopA Try.prog 2 (S_wordhoardref_Cost_L5 a1 a2 a3 v28 vs v40 k_28 vs_29 v15) [(vs_29.getD 0 .any), (.p (.int .i64 0))]
 ) (
 k_26 [(vs_29.getD 0 .any)]
 )
def S_wordhoardref_Cost_C7 (a1 : AV) (v4 : AV) (v28 : AV) (vs : List AV) (v40 : AV) (k_147 : List AV → AH → Prop) (vs_148 : List AV) : AH → Prop :=
 Rg 7 fun b_153 =>
 Pu Try.prog (.addOff 2) [v4] fun v164 =>
 RdS Try.prog (.ld 1 false) [v164] fun v165 =>
 Pu Try.prog (.idx 2) [v165, (vs_148.getD 1 .any)] fun v167 =>
 RdS Try.prog (.ld 2 true) [v167] fun v168 =>
 Al (b_153 + 5) (.nw 56 [.p (.int .i64 0), .p (.int .i64 0)]) [] fun v24 =>
 WrS Try.prog (b_153 + 6) (.st 2) [v24, v168] fun _ =>
 Pu Try.prog (.addOff 0) [v24] fun v170 =>
 RdS Try.prog (.ld 1 false) [v170] fun v171 =>
 Pu Try.prog (.bin .mul 3) [v171, v28] fun v173 =>
 Pu Try.prog .len [a1] fun v175 =>
 Pu Try.prog (.bin .add 3) [v173, v175] fun v176 =>
 Pu Try.prog (.bin .mul 3) [v176, (vs.getD 0 .any)] fun v178 =>
 Pu Try.prog (.bin .add 3) [v178, (vs.getD 0 .any)] fun v180 =>
 Pu Try.prog (.bin .sub 3) [v180, (.p (.int .i64 1))] fun v181 =>
 Pu Try.prog (.idx 1) [v40, v181] fun v182 =>
 RdS Try.prog (.ld 1 false) [v182] fun v183 =>
 Pu Try.prog (.bin .lss 3) [v183, (.p (.int .i64 1152921504606846976))] fun v185 =>
 Gd v185 true (fun k_172 => k_172 v183) fun v187 =>
 Gd v185 true (fun k_174 => Pu Try.prog (.addOff 1) [v24] k_174) fun v188 =>
 Gd v185 true (fun k_176 => RdS Try.prog (.ld 1 false) [v188] k_176) fun v189 =>
 Gd v185 true (fun k_178 => Pu Try.prog (.bin .add 3) [v187, v189] k_178) fun v190 =>
 Gd v185 true (fun k_180 => k_180 (vs_148.getD 0 .any)) fun v191 =>
 Gd v185 true (fun k_182 => Pu Try.prog (.bin .lss 3) [v190, v191] k_182) fun v192 =>
 Pu Try.prog .pick [v185, v192, (.p (.bool false))] fun v193 =>
 CdA v193
 (
 Pu Try.prog (.addOff 1) [v24] fun v195 =>
 RdS Try.prog (.ld 1 false) [v195] fun v196 =>
 Pu Try.prog (.bin .add 3) [v183, v196] fun v197 =>
 Pu Try.prog (.bin .add 3) [(vs_148.getD 1 .any), (.p (.int .i64 1))] fun v163 =>
 k_147 [v197, v163]
 ) (
 Pu Try.prog (.bin .add 3) [(vs_148.getD 1 .any), (.p (.int .i64 1))] fun v163_188 =>
 k_147 [(vs_148.getD 0 .any), v163_188]
 )
def S_wordhoardref_Cost_L8 (a1 : AV) (Q : AV → AH → Prop) (H : AH) (v4 : AV) (v28 : AV) (vs : List AV) (v40 : AV) (vs_148 : List AV) (k_147 : List AV → AH → Prop) : AH → Prop :=
 Pu Try.prog (.addOff 2) [v4] fun v158 =>
 RdS Try.prog (.ld 1 false) [v158] fun v159 =>
 Pu Try.prog .len [v159] fun v160 =>
 Pu Try.prog (.bin .lss 3) [(vs_148.getD 1 .any), v160] fun v161 =>
 CdA v161
 (S_wordhoardref_Cost_C7 a1 v4 v28 vs v40 k_147 vs_148) (
 Rt Try.prog H.nx (vs_148.getD 0 .any) Q
 )
def S_wordhoardref_Cost_L9 (a1 : AV) (a2 : AV) (a3 : AV) (Q : AV → AH → Prop) (H : AH) (v4 : AV) (v28 : AV) (vs : List AV) (v40 : AV) (vs_27 : List AV) (k_26 : List AV → AH → Prop) : AH → Prop :=
 CdA (vs_27.getD 0 .any)
 (
 LoopA Try.prog 2 (S_wordhoardref_Cost_L6 a1 a2 a3 v4 v28 vs v40 k_26) [(.p (.bool false)), (.p (.int .i64 0))]
 ) (
 LoopA Try.prog 2 (S_wordhoardref_Cost_L8 a1 Q H v4 v28 vs v40) [(.p (.int .i64 1152921504606846976)), (.p (.int .i64 0))]
 )
def S_wordhoardref_Cost_L10 (a1 : AV) (a2 : AV) (a3 : AV) (Q : AV → AH → Prop) (H : AH) (v4 : AV) (v28 : AV) (vs : List AV) (v40 : AV) (vs_16 : List AV) (k_15 : List AV → AH → Prop) : AH → Prop :=
 Pu Try.prog .len [v40] fun v43 =>
 Pu Try.prog (.bin .lss 3) [(vs_16.getD 0 .any), v43] fun v44 =>
 CdA v44
 (
 Rg 4 fun b_19 =>
 Pu Try.prog (.idx 1) [v40, (vs_16.getD 0 .any)] fun v49 =>
 WrS Try.prog (b_19 + 3) (.st 1) [v49, (.p (.int .i64 1152921504606846976))] fun _ =>
 Pu Try.prog (.bin .add 3) [(vs_16.getD 0 .any), (.p (.int .i64 1))] fun v46 =>
 k_15 [v46]
 ) (
 Rg 3 fun b_23 =>
 Pu Try.prog (.idx 1) [v40, (.p (.int .i64 0))] fun v51 =>
 WrS Try.prog (b_23 + 2) (.st 1) [v51, (.p (.int .i64 0))] fun _ =>
 LoopA Try.prog 1 (S_wordhoardref_Cost_L9 a1 a2 a3 Q H v4 v28 vs v40) [(.p (.bool true))]
 )
def S_wordhoardref_Cost_K11 (a1 : AV) (a2 : AV) (a3 : AV) (Q : AV → AH → Prop) (H : AH) (v4 : AV) (v28 : AV) (vs : List AV) : AH → Prop :=
 Rg 8 fun b_9 =>
 Pu Try.prog (.addOff 0) [v4] fun v34 =>
 RdS Try.prog (.ld 1 false) [v34] fun v35 =>
 Pu Try.prog (.bin .mul 3) [v35, v28] fun v37 =>
 Pu Try.prog (.bin .mul 3) [v37, (vs.getD 0 .any)] fun v39 =>
 Al (b_9 + 6) (.ms 3 1 8 [.p (.int .i64 0)]) [v39, v39] fun v40 =>
 LoopA Try.prog 1 (S_wordhoardref_Cost_L10 a1 a2 a3 Q H v4 v28 vs v40) [(.p (.int .i64 0))]
def S_wordhoardref_Cost (a0 a1 a2 a3 : AV) (Q : AV → AH → Prop) (H : AH) : Prop := (
 Rg 2 fun b =>
 Al (b + 0) (.bx 25) [a0] fun v4 =>
 Pu Try.prog .len [a1] fun v27 =>
 Pu Try.prog (.bin .add 3) [v27, (.p (.int .i64 1))] fun v28 =>
 Pu Try.prog .len [a2] fun v30 =>
 Pu Try.prog (.bin .add 3) [v30, (.p (.int .i64 1))] fun v31 =>
 CutA Try.prog 1 (fun k =>
 Pu Try.prog (.un .not) [a3] fun v33 =>
 CdA v33
 (
 k [(.p (.int .i64 1))]
 ) (
 k [v31]
 )
 ) (S_wordhoardref_Cost_K11 a1 a2 a3 Q H v4 v28)
 ) H
theorem eq_wordhoardref_Cost (a0 a1 a2 a3 : AV) (Q : AV → AH → Prop) (H : AH) : FnA Try.prog 199 (regsF Try.f18) ac_wordhoardref_Cost [.tm 8] [a0, a1, a2, a3] H Q = S_wordhoardref_Cost a0 a1 a2 a3 Q H := by kernel_rfl
theorem tri_wordhoardref_Cost {a0 a1 a2 a3 : AV} {H : AH} {Q : AV → AH → Prop} (h : S_wordhoardref_Cost a0 a1 a2 a3 Q H) : Tri Try.prog 18 [a0, a1, a2, a3] H Q :=
  tri_of (Ms := [#[], #[], #[], #[], #[], #[], #[], #[], #[], #[], #[], #[], #[], #[], #[], #[], #[], #[], #[], #[], #[], #[], #[], #[], #[0, 0, 2, 7, 15, 31, 31, 127, 255, 31, 543, 2047, 4095], #[], #[], #[0, 0, 2, 7, 15, 31, 31, 127, 255, 31, 543, 2047, 4095], #[], #[], #[0, 0, 2, 7, 0, 0, 48, 112, 255], #[], #[], #[], #[], #[], #[], #[], #[], #[], #[], #[], #[], #[], #[]]) mixed Try.func18 rfl (by kernel_rfl) (by kernel_rfl) rfl (of_decide_eq_true rfl : 4 ≤ 199) (by rw [eq_wordhoardref_Cost a0 a1 a2 a3 Q H]; exact h : FnA Try.prog 199 (regsF Try.f18) ac_wordhoardref_Cost [.tm 8] [a0, a1, a2, a3] H Q)

/-! wordhoard/wordhoardref.Same -/
/-! wordhoard/wordhoardref.SymbolsFault -/
def ac_wordhoardref_SymbolsFault : AC := (.seq (.reg 0) (.seq (.seq (.reg 1) (.cond (.tmp 6) (.seq (.reg 2) .ret) .skip)) (.seq (.seq (.reg 3) (.block 0 (.loop [3] [(2, 3), (7, 25)] (.seq (.seq (.reg 4) (.cond (.tmp 10) .skip (.exit 0))) (.seq (.block 1 (.seq (.reg 5) (.cond (.tmp 24) (.seq (.reg 6) .ret) .skip))) (.reg 7)))))) (.seq (.reg 8) .ret))))
def S_wordhoardref_SymbolsFault_L1 (a0 : AV) (Q : AV → AH → Prop) (H : AH) (vs : List AV) (k : List AV → AH → Prop) : AH → Prop :=
 Pu Try.prog .len [a0] fun v9 =>
 Pu Try.prog (.bin .lss 3) [(vs.getD 0 .any), v9] fun v10 =>
 CdA v10
 (
 Pu Try.prog (.idx 1) [a0, (vs.getD 0 .any)] fun v15 =>
 RdS Try.prog (.ld 1 false) [v15] fun v16 =>
 Pu Try.prog (.bin .lss 3) [v16, (.p (.int .i64 1))] fun v17 =>
 Gd v17 false (fun k_11 => k_11 a0) fun v19 =>
 Gd v17 false (fun k_13 => k_13 (vs.getD 0 .any)) fun v20 =>
 Gd v17 false (fun k_15 => Pu Try.prog (.idx 1) [v19, v20] k_15) fun v21 =>
 Gd v17 false (fun k_17 => RdS Try.prog (.ld 1 false) [v21] k_17) fun v22 =>
 Gd v17 false (fun k_19 => Pu Try.prog (.bin .gtr 3) [v22, (.p (.int .i64 60))] k_19) fun v23 =>
 Pu Try.prog .pick [v17, (.p (.bool true)), v23] fun v24 =>
 CdA v24
 (
 Rt Try.prog H.nx (.p (.int .i64 3)) Q
 ) (
 Pu Try.prog (.bin .add 3) [(vs.getD 0 .any), (.p (.int .i64 1))] fun v12 =>
 k [v12]
 )
 ) (
 Rt Try.prog H.nx (.p (.int .i64 0)) Q
 )
def S_wordhoardref_SymbolsFault (a0 : AV) (Q : AV → AH → Prop) (H : AH) : Prop := (
 Pu Try.prog .len [a0] fun v5 =>
 Pu Try.prog (.bin .gtr 3) [v5, (.p (.int .i64 60))] fun v6 =>
 CdA v6
 (
 Rt Try.prog H.nx (.p (.int .i64 2)) Q
 ) (
 LoopA Try.prog 1 (S_wordhoardref_SymbolsFault_L1 a0 Q H) [(.p (.int .i64 0))]
 )
 ) H
theorem eq_wordhoardref_SymbolsFault (a0 : AV) (Q : AV → AH → Prop) (H : AH) : FnA Try.prog 25 (regsF Try.f28) ac_wordhoardref_SymbolsFault [.tm 2] [a0] H Q = S_wordhoardref_SymbolsFault a0 Q H := by kernel_rfl
theorem tri_wordhoardref_SymbolsFault {a0 : AV} {H : AH} {Q : AV → AH → Prop} (h : S_wordhoardref_SymbolsFault a0 Q H) : Tri Try.prog 28 [a0] H Q :=
  tri_of (Ms := [#[], #[], #[], #[], #[], #[], #[], #[], #[]]) mixed Try.func28 rfl (by kernel_rfl) (by kernel_rfl) rfl (of_decide_eq_true rfl : 1 ≤ 25) (by rw [eq_wordhoardref_SymbolsFault a0 Q H]; exact h : FnA Try.prog 25 (regsF Try.f28) ac_wordhoardref_SymbolsFault [.tm 2] [a0] H Q)

/-! wordhoard/wordhoardlaw.MachineThrough -/
/-! wordhoard/wordhoardlaw.MachineMakes -/
/-! wordhoard/wordhoardlaw.machineBegun -/
def ac_wordhoardlaw_machineBegun : AC := (.seq (.reg 0) (.seq (.reg 1) (.seq (.reg 2) .ret)))
def S_wordhoardlaw_machineBegun (Q : AV → AH → Prop) (H : AH) : Prop := (
 Rg 11 fun b =>
 Ca Try.prog (.fn (.func 31) [] []) [] fun v5 =>
 Al (b + 1) (.bs 3 1 1 [.p (.int .i64 0)] [(0, 1)]) [(.p (.int .i64 1))] fun v6 =>
 Al (b + 2) (.bs 3 1 1 [.p (.int .i64 0)] [(0, 1)]) [(.p (.int .i64 2))] fun v7 =>
 Ca Try.prog (.fn (.func 11) [] []) [v5, v6, v7] fun v8 =>
 Pu Try.prog (.ext 0) [v8] fun v9 =>
 Pu Try.prog (.ext 1) [v8] fun v10 =>
 Pu Try.prog (.ext 2) [v8] fun v11 =>
 Pu Try.prog (.bin .eql 28) [v11, (.p (.int .i64 0))] fun v13 =>
 Gd v13 true (fun k => k v10) fun v15 =>
 Pu Try.prog .pick [v13, v15, (.p (.bool false))] fun v16 =>
 Gd v16 true (fun k_14 => k_14 v9) fun v18 =>
 Gd v16 true (fun k_16 => Pu Try.prog (.bin .eql 3) [v18, (.p (.int .i64 3))] k_16) fun v19 =>
 Pu Try.prog .pick [v16, v19, (.p (.bool false))] fun v20 =>
 Rt Try.prog H.nx v20 Q
 ) H
theorem eq_wordhoardlaw_machineBegun (Q : AV → AH → Prop) (H : AH) : FnA Try.prog 21 (regsF Try.f7) ac_wordhoardlaw_machineBegun [.tm 0] [] H Q = S_wordhoardlaw_machineBegun Q H := by kernel_rfl
theorem tri_wordhoardlaw_machineBegun {H : AH} {Q : AV → AH → Prop} (h : S_wordhoardlaw_machineBegun Q H) : Tri Try.prog 7 [] H Q :=
  tri_of (Ms := [#[], #[], #[]]) mixed Try.func7 rfl (by kernel_rfl) (by kernel_rfl) rfl (of_decide_eq_true rfl : 0 ≤ 21) (by rw [eq_wordhoardlaw_machineBegun Q H]; exact h : FnA Try.prog 21 (regsF Try.f7) ac_wordhoardlaw_machineBegun [.tm 0] [] H Q)

/-! wordhoard/wordhoardlaw.few -/
def ac_wordhoardlaw_few : AC := (.seq (.reg 0) (.seq (.reg 1) .ret))
def S_wordhoardlaw_few (a0 : AV) (Q : AV → AH → Prop) (H : AH) : Prop := (
 Rg 2 fun b =>
 Al (b + 0) (.bx 25) [a0] fun v1 =>
 Pu Try.prog (.addOff 0) [v1] fun v3 =>
 RdS Try.prog (.ld 1 false) [v3] fun v4 =>
 Pu Try.prog (.bin .leq 3) [v4, (.p (.int .i64 40))] fun v5 =>
 Gd v5 true (fun k => Pu Try.prog (.addOff 1) [v1] k) fun v7 =>
 Gd v5 true (fun k_9 => RdS Try.prog (.ld 1 false) [v7] k_9) fun v8 =>
 Gd v5 true (fun k_11 => Pu Try.prog .len [v8] k_11) fun v9 =>
 Gd v5 true (fun k_13 => Pu Try.prog (.bin .leq 3) [v9, (.p (.int .i64 120))] k_13) fun v10 =>
 Pu Try.prog .pick [v5, v10, (.p (.bool false))] fun v11 =>
 Gd v11 true (fun k_16 => Pu Try.prog (.addOff 2) [v1] k_16) fun v13 =>
 Gd v11 true (fun k_18 => RdS Try.prog (.ld 1 false) [v13] k_18) fun v14 =>
 Gd v11 true (fun k_20 => Pu Try.prog .len [v14] k_20) fun v15 =>
 Gd v11 true (fun k_22 => Pu Try.prog (.bin .leq 3) [v15, (.p (.int .i64 40))] k_22) fun v16 =>
 Pu Try.prog .pick [v11, v16, (.p (.bool false))] fun v17 =>
 Rt Try.prog H.nx v17 Q
 ) H
theorem eq_wordhoardlaw_few (a0 : AV) (Q : AV → AH → Prop) (H : AH) : FnA Try.prog 18 (regsF Try.f10) ac_wordhoardlaw_few [.tm 2] [a0] H Q = S_wordhoardlaw_few a0 Q H := by kernel_rfl
theorem tri_wordhoardlaw_few {a0 : AV} {H : AH} {Q : AV → AH → Prop} (h : S_wordhoardlaw_few a0 Q H) : Tri Try.prog 10 [a0] H Q :=
  tri_of (Ms := [#[], #[]]) mixed Try.func10 rfl (by kernel_rfl) (by kernel_rfl) rfl (of_decide_eq_true rfl : 1 ≤ 18) (by rw [eq_wordhoardlaw_few a0 Q H]; exact h : FnA Try.prog 18 (regsF Try.f10) ac_wordhoardlaw_few [.tm 2] [a0] H Q)

/-! wordhoard/wordhoardlaw.joined -/
/-! wordhoard/wordhoardlaw.right -/
/-! wordhoard/wordhoardlaw.light -/
/-! wordhoard/wordhoardlaw.parted -/
/-! wordhoard/wordhoardlaw.again -/
/-! wordhoard/wordhoardlaw.one -/
def ac_wordhoardlaw_one : AC := (.seq (.reg 0) (.seq (.reg 1) .ret))
def S_wordhoardlaw_one (Q : AV → AH → Prop) (H : AH) : Prop := (
 Rg 1 fun b =>
 Al (b + 0) (.nw 25 [.p (.int .i64 0), .p (.slice none 0 0), .p (.slice none 0 0)]) [] fun v0 =>
 Rg 6 fun b_3 =>
 Pu Try.prog (.bld [.p (.int .i64 0), .p (.int .i64 0), .p (.int .i64 0), .p (.int .i64 0), .p (.int .i64 0)] [(0, 1), (1, 1), (2, 1), (3, 1), (4, 1)]) [(.p (.int .i64 0)), (.p (.int .i64 1)), (.p (.int .i64 1)), (.p (.int .i64 2)), (.p (.int .i64 3))] fun v1 =>
 Al (b_3 + 1) (.bs 53 5 1 [.p (.int .i64 0), .p (.int .i64 0), .p (.int .i64 0), .p (.int .i64 0), .p (.int .i64 0)] [(0, 5)]) [v1] fun v2 =>
 Pu Try.prog (.bld [.p (.int .i64 0), .p (.int .i64 0)] [(0, 1)]) [(.p (.int .i64 1))] fun v3 =>
 Al (b_3 + 3) (.bs 56 2 1 [.p (.int .i64 0), .p (.int .i64 0)] [(0, 2)]) [v3] fun v4 =>
 Pu Try.prog (.bld [.p (.int .i64 0), .p (.slice none 0 0), .p (.slice none 0 0)] [(0, 1), (1, 1), (2, 1)]) [(.p (.int .i64 2)), v2, v4] fun v5 =>
 WrS Try.prog (b_3 + 5) (.st 3) [v0, v5] fun _ =>
 RdS Try.prog (.ld 3 true) [v0] fun r0 =>
 Rt Try.prog H.nx r0 Q
 ) H
theorem eq_wordhoardlaw_one (Q : AV → AH → Prop) (H : AH) : FnA Try.prog 6 (regsF Try.f31) ac_wordhoardlaw_one [.ce 0 25] [] H Q = S_wordhoardlaw_one Q H := by kernel_rfl
theorem tri_wordhoardlaw_one {H : AH} {Q : AV → AH → Prop} (h : S_wordhoardlaw_one Q H) : Tri Try.prog 31 [] H Q :=
  tri_of (Ms := [#[], #[]]) mixed Try.func31 rfl (by kernel_rfl) (by kernel_rfl) rfl (of_decide_eq_true rfl : 0 ≤ 6) (by rw [eq_wordhoardlaw_one Q H]; exact h : FnA Try.prog 6 (regsF Try.f31) ac_wordhoardlaw_one [.ce 0 25] [] H Q)

/-! slices.Clone[[]int,int] -/
def ac_slices_Clone_s_int_int : AC := (.seq (.reg 0) (.seq (.seq (.reg 1) (.cond (.tmp 4) (.seq (.reg 2) .ret) .skip)) (.seq (.reg 3) .ret)))
def S_slices_Clone_s_int_int (a0 : AV) (Q : AV → AH → Prop) (H : AH) : Prop := (
 Pu Try.prog (.bin .eql 26) [a0, (.p (.slice none 0 0))] fun v4 =>
 CdA v4
 (
 Rt Try.prog H.nx (.p (.slice none 0 0)) Q
 ) (
 Rg 4 fun b =>
 Nd Try.prog (b + 0) (.bs0 3) [] fun v5 =>
 WrS Try.prog (b + 2) (.app 3 1 8) [v5, a0] fun v7 =>
 Rt Try.prog H.nx v7 Q
 )
 ) H
theorem eq_slices_Clone_s_int_int (a0 : AV) (Q : AV → AH → Prop) (H : AH) : FnA Try.prog 8 (regsF Try.f51) ac_slices_Clone_s_int_int [.tm 2] [a0] H Q = S_slices_Clone_s_int_int a0 Q H := by kernel_rfl
theorem tri_slices_Clone_s_int_int {a0 : AV} {H : AH} {Q : AV → AH → Prop} (h : S_slices_Clone_s_int_int a0 Q H) : Tri Try.prog 51 [a0] H Q :=
  tri_of (Ms := [#[], #[], #[], #[]]) mixed Try.func51 rfl (by kernel_rfl) (by kernel_rfl) rfl (of_decide_eq_true rfl : 1 ≤ 8) (by rw [eq_slices_Clone_s_int_int a0 Q H]; exact h : FnA Try.prog 8 (regsF Try.f51) ac_slices_Clone_s_int_int [.tm 2] [a0] H Q)

/-! slices.ContainsFunc[[]int,int] -/
def ac_slices_ContainsFunc_s_int_int : AC := (.seq (.reg 0) (.seq (.reg 1) .ret))
def S_slices_ContainsFunc_s_int_int (a0 a1 : AV) (Q : AV → AH → Prop) (H : AH) : Prop := (
 Ca Try.prog (.fn (.func 57) [] []) [a0, a1] fun v7 =>
 Pu Try.prog (.bin .geq 3) [v7, (.p (.int .i64 0))] fun v8 =>
 Rt Try.prog H.nx v8 Q
 ) H
theorem eq_slices_ContainsFunc_s_int_int (a0 a1 : AV) (Q : AV → AH → Prop) (H : AH) : FnA Try.prog 9 (regsF Try.f54) ac_slices_ContainsFunc_s_int_int [.tm 4] [a0, a1] H Q = S_slices_ContainsFunc_s_int_int a0 a1 Q H := by kernel_rfl
theorem tri_slices_ContainsFunc_s_int_int {a0 a1 : AV} {H : AH} {Q : AV → AH → Prop} (h : S_slices_ContainsFunc_s_int_int a0 a1 Q H) : Tri Try.prog 54 [a0, a1] H Q :=
  tri_of (Ms := [#[], #[]]) mixed Try.func54 rfl (by kernel_rfl) (by kernel_rfl) rfl (of_decide_eq_true rfl : 2 ≤ 9) (by rw [eq_slices_ContainsFunc_s_int_int a0 a1 Q H]; exact h : FnA Try.prog 9 (regsF Try.f54) ac_slices_ContainsFunc_s_int_int [.tm 4] [a0, a1] H Q)

/-! slices.Clone[[]wordhoard/api.Final,wordhoard/api.Final] -/
end Go.Proofs.Ytgkkilbeingleaa
