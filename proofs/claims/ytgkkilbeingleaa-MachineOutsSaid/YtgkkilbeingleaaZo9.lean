/- Texts that the proof rests on, part 9: what each holds stands at its head. -/
import Derived.Test.YtgkkilbeingleaaZo8

/- Abstract walks of functions, written by a program (wip/aw/aw.py): each equation is checked by the kernel. -/
namespace Go.Proofs.Ytgkkilbeingleaa
open Go.RowKit

/-! wordhoard/machine.Check -/
def ac_machine_Check : AC := (.seq (.reg 0) (.seq (.seq (.reg 1) (.cond (.tmp 34) (.seq (.reg 2) .ret) .skip)) (.seq (.reg 3) (.seq (.reg 4) (.seq (.reg 5) (.seq (.seq (.reg 6) (.block 0 (.loop [39] [(2, 3), (7, 8), (40, 77)] (.seq (.reg 7) (.seq (.cond (.tmp 40) .skip (.exit 0)) (.seq (.block 1 (.seq (.reg 8) (.seq (.reg 9) (.cond (.tmp 75) (.seq (.reg 10) .ret) .skip)))) (.reg 11))))))) (.seq (.reg 12) (.seq (.seq (.reg 13) (.block 2 (.loop [81] [(2, 3), (10, 11), (82, 103)] (.seq (.reg 14) (.seq (.cond (.tmp 82) .skip (.exit 2)) (.seq (.block 3 (.seq (.reg 15) (.seq (.seq (.reg 16) (.cond (.tmp 96) (.seq (.reg 17) .ret) .skip)) (.reg 18)))) (.reg 19))))))) (.seq (.seq (.reg 20) (.block 4 (.loop [] [(2, 3), (12, 13), (105, 111)] (.seq (.reg 21) (.seq (.cond (.tmp 106) .skip (.exit 4)) (.block 5 (.seq (.reg 22) (.seq (.reg 23) (.cond (.tmp 110) (.seq (.reg 24) .ret) .skip))))))))) (.seq (.reg 25) .ret))))))))))
def S_machine_Check_C1 (Q : AV → AH → Prop) (H : AH) (v35 : AV) (v37 : AV) (k_39 : List AV → AH → Prop) (vs : List AV) : AH → Prop :=
 Rg 4 fun b_42 =>
 Pu Try.prog (.idx 5) [v37, (vs.getD 0 .any)] fun v41 =>
 RdS Try.prog (.ld 5 true) [v41] fun v42 =>
 Al (b_42 + 2) (.nw 53 [.p (.int .i64 0), .p (.int .i64 0), .p (.int .i64 0), .p (.int .i64 0), .p (.int .i64 0)]) [] fun v7 =>
 WrS Try.prog (b_42 + 3) (.st 5) [v7, v42] fun _ =>
 Pu Try.prog (.addOff 0) [v7] fun v44 =>
 RdS Try.prog (.ld 1 false) [v44] fun v45 =>
 Ca Try.prog v35 [v45] fun v46 =>
 Pu Try.prog (.un .not) [v46] fun v47 =>
 Gd v47 false (fun k_52 => k_52 v35) fun v49 =>
 Gd v47 false (fun k_54 => Pu Try.prog (.addOff 1) [v7] k_54) fun v50 =>
 Gd v47 false (fun k_56 => RdS Try.prog (.ld 1 false) [v50] k_56) fun v51 =>
 Gd v47 false (fun k_58 => Ca Try.prog v49 [v51] k_58) fun v52 =>
 Gd v47 false (fun k_60 => Pu Try.prog (.un .not) [v52] k_60) fun v53 =>
 Pu Try.prog .pick [v47, (.p (.bool true)), v53] fun v54 =>
 Gd v54 false (fun k_63 => k_63 (.fn (.func 33) [] [])) fun v56 =>
 Gd v54 false (fun k_65 => Pu Try.prog (.addOff 2) [v7] k_65) fun v57 =>
 Gd v54 false (fun k_67 => RdS Try.prog (.ld 1 false) [v57] k_67) fun v58 =>
 Gd v54 false (fun k_69 => Ca Try.prog v56 [v58] k_69) fun v59 =>
 Gd v54 false (fun k_71 => Pu Try.prog (.un .not) [v59] k_71) fun v60 =>
 Pu Try.prog .pick [v54, (.p (.bool true)), v60] fun v61 =>
 Gd v61 false (fun k_74 => k_74 (.fn (.func 33) [] [])) fun v63 =>
 Gd v61 false (fun k_76 => Pu Try.prog (.addOff 3) [v7] k_76) fun v64 =>
 Gd v61 false (fun k_78 => RdS Try.prog (.ld 1 false) [v64] k_78) fun v65 =>
 Gd v61 false (fun k_80 => Ca Try.prog v63 [v65] k_80) fun v66 =>
 Gd v61 false (fun k_82 => Pu Try.prog (.un .not) [v66] k_82) fun v67 =>
 Pu Try.prog .pick [v61, (.p (.bool true)), v67] fun v68 =>
 Gd v68 false (fun k_85 => k_85 (.fn (.func 34) [] [])) fun v70 =>
 Gd v68 false (fun k_87 => Pu Try.prog (.addOff 4) [v7] k_87) fun v71 =>
 Gd v68 false (fun k_89 => RdS Try.prog (.ld 1 false) [v71] k_89) fun v72 =>
 Gd v68 false (fun k_91 => Ca Try.prog v70 [v72] k_91) fun v73 =>
 Gd v68 false (fun k_93 => Pu Try.prog (.un .not) [v73] k_93) fun v74 =>
 Pu Try.prog .pick [v68, (.p (.bool true)), v74] fun v75 =>
 CdA v75
 (
 Rt Try.prog H.nx (.p (.int .i64 3)) Q
 ) (
 Pu Try.prog (.bin .add 3) [(vs.getD 0 .any), (.p (.int .i64 1))] fun v76 =>
 k_39 [v76]
 )
def S_machine_Check_C2 (Q : AV → AH → Prop) (H : AH) (v35 : AV) (v77 : AV) (v79 : AV) (k_101 : List AV → AH → Prop) (vs_102 : List AV) : AH → Prop :=
 Rg 4 fun b_104 =>
 Pu Try.prog (.idx 2) [v79, (vs_102.getD 0 .any)] fun v83 =>
 RdS Try.prog (.ld 2 true) [v83] fun v84 =>
 Al (b_104 + 2) (.nw 56 [.p (.int .i64 0), .p (.int .i64 0)]) [] fun v10 =>
 WrS Try.prog (b_104 + 3) (.st 2) [v10, v84] fun _ =>
 Pu Try.prog (.addOff 0) [v10] fun v86 =>
 RdS Try.prog (.ld 1 false) [v86] fun v87 =>
 Ca Try.prog v35 [v87] fun v88 =>
 Pu Try.prog (.un .not) [v88] fun v89 =>
 Gd v89 false (fun k_114 => k_114 (.fn (.func 34) [] [])) fun v91 =>
 Gd v89 false (fun k_116 => Pu Try.prog (.addOff 1) [v10] k_116) fun v92 =>
 Gd v89 false (fun k_118 => RdS Try.prog (.ld 1 false) [v92] k_118) fun v93 =>
 Gd v89 false (fun k_120 => Ca Try.prog v91 [v93] k_120) fun v94 =>
 Gd v89 false (fun k_122 => Pu Try.prog (.un .not) [v94] k_122) fun v95 =>
 Pu Try.prog .pick [v89, (.p (.bool true)), v95] fun v96 =>
 CdA v96
 (
 Rt Try.prog H.nx (.p (.int .i64 3)) Q
 ) (
 Rg 6 fun b_124 =>
 Pu Try.prog (.addOff 0) [v10] fun v98 =>
 RdS Try.prog (.ld 1 false) [v98] fun v99 =>
 RdS Try.prog (.look 3 (.p (.int .i64 0)) false) [v77, v99] fun v100 =>
 Pu Try.prog (.bin .add 3) [v100, (.p (.int .i64 1))] fun v101 =>
 WrS Try.prog (b_124 + 5) (.mset 3) [v77, v99, v101] fun _ =>
 Pu Try.prog (.bin .add 3) [(vs_102.getD 0 .any), (.p (.int .i64 1))] fun v102 =>
 k_101 [v102]
 )
def S_machine_Check_L3 (Q : AV → AH → Prop) (H : AH) (v104 : AV) (_vs_134 : List AV) (k_133 : List AV → AH → Prop) : AH → Prop :=
 Rg 2 fun b_135 =>
 Nd Try.prog (b_135 + 0) .nxt [v104] fun v105 =>
 Pu Try.prog (.ext 0) [v105] fun v106 =>
 CdA v106
 (
 Rg 3 fun b_138 =>
 Nd Try.prog (b_138 + 0) .ent [v104] fun v107 =>
 Pu Try.prog (.ext 1) [v107] fun v108 =>
 Pu Try.prog (.bin .gtr 3) [v108, (.p (.int .i64 1))] fun v110 =>
 CdA v110
 (
 Rt Try.prog H.nx (.p (.int .i64 6)) Q
 ) (
 k_133 []
 )
 ) (
 Rt Try.prog H.nx (.p (.int .i64 0)) Q
 )
def S_machine_Check_L4 (Q : AV → AH → Prop) (H : AH) (v35 : AV) (v77 : AV) (v79 : AV) (v80 : AV) (vs_102 : List AV) (k_101 : List AV → AH → Prop) : AH → Prop :=
 Pu Try.prog (.bin .lss 3) [(vs_102.getD 0 .any), v80] fun v82 =>
 CdA v82
 (S_machine_Check_C2 Q H v35 v77 v79 k_101 vs_102) (
 Rg 2 fun b_131 =>
 Nd Try.prog (b_131 + 1) (.rng 3) [v77] fun v104 =>
 LoopA Try.prog 0 (S_machine_Check_L3 Q H v104) []
 )
def S_machine_Check_L5 (Q : AV → AH → Prop) (H : AH) (v1 : AV) (v35 : AV) (v37 : AV) (v38 : AV) (vs : List AV) (k_39 : List AV → AH → Prop) : AH → Prop :=
 Pu Try.prog (.bin .lss 3) [(vs.getD 0 .any), v38] fun v40 =>
 CdA v40
 (S_machine_Check_C1 Q H v35 v37 k_39 vs) (
 Rg 2 fun b_96 =>
 Al (b_96 + 0) (.mm 3) [] fun v77 =>
 Pu Try.prog (.addOff 2) [v1] fun v78 =>
 RdS Try.prog (.ld 1 false) [v78] fun v79 =>
 Pu Try.prog .len [v79] fun v80 =>
 LoopA Try.prog 1 (S_machine_Check_L4 Q H v35 v77 v79 v80) [(.p (.int .i64 0))]
 )
def S_machine_Check (a0 : AV) (Q : AV → AH → Prop) (H : AH) : Prop := (
 Rg 2 fun b =>
 Al (b + 0) (.bx 25) [a0] fun v1 =>
 Pu Try.prog (.addOff 0) [v1] fun v13 =>
 RdS Try.prog (.ld 1 false) [v13] fun v14 =>
 Pu Try.prog (.bin .lss 3) [v14, (.p (.int .i64 1))] fun v15 =>
 Gd v15 false (fun k => Pu Try.prog (.addOff 0) [v1] k) fun v17 =>
 Gd v15 false (fun k_9 => RdS Try.prog (.ld 1 false) [v17] k_9) fun v18 =>
 Gd v15 false (fun k_11 => Pu Try.prog (.bin .gtr 3) [v18, (.p (.int .i64 3000))] k_11) fun v19 =>
 Pu Try.prog .pick [v15, (.p (.bool true)), v19] fun v20 =>
 Gd v20 false (fun k_14 => Pu Try.prog (.addOff 1) [v1] k_14) fun v22 =>
 Gd v20 false (fun k_16 => RdS Try.prog (.ld 1 false) [v22] k_16) fun v23 =>
 Gd v20 false (fun k_18 => Pu Try.prog .len [v23] k_18) fun v24 =>
 Gd v20 false (fun k_20 => Pu Try.prog (.bin .gtr 3) [v24, (.p (.int .i64 20000))] k_20) fun v25 =>
 Pu Try.prog .pick [v20, (.p (.bool true)), v25] fun v26 =>
 Gd v26 false (fun k_23 => Pu Try.prog (.addOff 2) [v1] k_23) fun v28 =>
 Gd v26 false (fun k_25 => RdS Try.prog (.ld 1 false) [v28] k_25) fun v29 =>
 Gd v26 false (fun k_27 => Pu Try.prog .len [v29] k_27) fun v30 =>
 Gd v26 false (fun k_29 => Pu Try.prog (.addOff 0) [v1] k_29) fun v31 =>
 Gd v26 false (fun k_31 => RdS Try.prog (.ld 1 false) [v31] k_31) fun v32 =>
 Gd v26 false (fun k_33 => Pu Try.prog (.bin .gtr 3) [v30, v32] k_33) fun v33 =>
 Pu Try.prog .pick [v26, (.p (.bool true)), v33] fun v34 =>
 CdA v34
 (
 Rt Try.prog H.nx (.p (.int .i64 7)) Q
 ) (
 Pu Try.prog (.mkfn (.func 32) 0) [v1] fun v35 =>
 Pu Try.prog (.addOff 1) [v1] fun v36 =>
 RdS Try.prog (.ld 1 false) [v36] fun v37 =>
 Pu Try.prog .len [v37] fun v38 =>
 LoopA Try.prog 1 (S_machine_Check_L5 Q H v1 v35 v37 v38) [(.p (.int .i64 0))]
 )
 ) H
theorem eq_machine_Check (a0 : AV) (Q : AV → AH → Prop) (H : AH) : FnA Try.prog 111 (regsF Try.f8) ac_machine_Check [.tm 2] [a0] H Q = S_machine_Check a0 Q H := by kernel_rfl
theorem tri_machine_Check {a0 : AV} {H : AH} {Q : AV → AH → Prop} (h : S_machine_Check a0 Q H) : Tri Try.prog 8 [a0] H Q :=
  tri_of (Ms := [#[], #[], #[], #[], #[], #[], #[], #[], #[], #[], #[], #[], #[], #[], #[], #[], #[], #[], #[], #[], #[], #[], #[], #[], #[], #[]]) mixed Try.func8 rfl (by kernel_rfl) (by kernel_rfl) rfl (of_decide_eq_true rfl : 1 ≤ 111) (by rw [eq_machine_Check a0 Q H]; exact h : FnA Try.prog 111 (regsF Try.f8) ac_machine_Check [.tm 2] [a0] H Q)

/-! wordhoard/machine.Cost -/
def ac_machine_Cost : AC := (.seq (.reg 0) (.seq (.seq (.reg 1) (.seq (.reg 2) (.cond (.tmp 29) (.seq (.reg 3) .ret) .skip))) (.seq (.seq (.reg 4) (.cond (.tmp 38) (.seq (.reg 5) .ret) .skip)) (.seq (.seq (.reg 6) (.cond (.tmp 46) (.seq (.reg 7) .ret) .skip)) (.seq (.reg 8) (.seq (.reg 9) (.seq (.reg 10) (.seq (.block 0 (.loop [12] [(13, 14), (15, 20), (54, 150)] (.seq (.seq (.reg 11) (.cond (.tmp 56) .skip (.exit 0))) (.block 1 (.seq (.reg 12) (.seq (.reg 13) (.seq (.reg 14) (.block 2 (.loop [12, 68] [(15, 20), (69, 150)] (.seq (.reg 15) (.seq (.cond (.tmp 69) .skip (.exit 2)) (.seq (.block 3 (.seq (.reg 16) (.seq (.reg 17) (.cut [] [(79, 101)] (.seq (.reg 18) (.cond (.tmp 81) (.seq (.seq (.reg 19) (.cond (.tmp 96) (.exit 3) .skip)) (.reg 20)) .skip)) (.cut [] [(101, 123)] (.seq (.reg 21) (.cond (.tmp 103) (.seq (.seq (.reg 22) (.cond (.tmp 118) (.exit 3) .skip)) (.reg 23)) .skip)) (.seq (.reg 24) (.seq (.reg 25) (.seq (.reg 26) (.cond (.tmp 141) (.seq (.reg 27) (.reg 28)) .skip))))))))) (.reg 29))))))))))))) (.seq (.reg 30) (.seq (.seq (.reg 31) (.block 4 (.loop [20, 21, 153] [(23, 26), (154, 187)] (.seq (.reg 32) (.seq (.cond (.tmp 154) .skip (.exit 4)) (.seq (.block 5 (.seq (.reg 33) (.seq (.reg 34) (.seq (.reg 35) (.cond (.tmp 181) (.reg 36) .skip))))) (.reg 37))))))) (.seq (.reg 38) .ret)))))))))))
def S_machine_Cost_K1 (v49 : AV) (v13 : AV) (k_48 : List AV → AH → Prop) (vs_49 : List AV) (v15 : AV) (v16 : AV) (_vs_69 : List AV) : AH → Prop :=
 Vw fun V =>
 Rd Try.prog V (.ld 3 true) [v13] fun v124 =>
 Rd Try.prog V (.look 62 (.p (.int .i64 0)) false) [v49, v124] fun v125 =>
 Pu Try.prog (.addOff 4) [v15] fun v126 =>
 Rd Try.prog V (.ld 1 false) [v126] fun v127 =>
 Pu Try.prog (.bin .add 3) [v125, v127] fun v128 =>
 RdS Try.prog (.ld 3 true) [v16] fun v131 =>
 RdS Try.prog (.look 62 (.p (.int .i64 0)) true) [v49, v131] fun v132 =>
 Pu Try.prog (.ext 0) [v132] fun v133 =>
 Pu Try.prog (.ext 1) [v132] fun v134 =>
 Pu Try.prog (.un .not) [v134] fun v136 =>
 Gd v136 false (fun k_82 => k_82 v128) fun v138 =>
 Gd v136 false (fun k_84 => k_84 v133) fun v139 =>
 Gd v136 false (fun k_86 => Pu Try.prog (.bin .lss 3) [v138, v139] k_86) fun v140 =>
 Pu Try.prog .pick [v136, (.p (.bool true)), v140] fun v141 =>
 CdA v141
 (
 Rg 4 fun b_88 =>
 RdS Try.prog (.ld 3 true) [v16] fun v143 =>
 WrS Try.prog (b_88 + 3) (.mset 62) [v49, v143, v128] fun _ =>
 Rg 5 fun b_91 =>
 RdS Try.prog (.ld 3 true) [v16] fun v146 =>
 Al (b_91 + 2) (.bs 62 3 1 [.p (.int .i64 0), .p (.int .i64 0), .p (.int .i64 0)] [(0, 3)]) [v146] fun v147 =>
 WrS Try.prog (b_91 + 3) (.app 62 3 24) [(vs_49.getD 0 .any), v147] fun v148 =>
 Pu Try.prog (.bin .add 3) [(vs_49.getD 1 .any), (.p (.int .i64 1))] fun v149 =>
 k_48 [v148, v149]
 ) (
 Pu Try.prog (.bin .add 3) [(vs_49.getD 1 .any), (.p (.int .i64 1))] fun v149_96 =>
 k_48 [(vs_49.getD 0 .any), v149_96]
 )
def S_machine_Cost_C2 (a2 : AV) (v13 : AV) (k_48 : List AV → AH → Prop) (vs_49 : List AV) (v15 : AV) (v16 : AV) (k_68 : List AV → AH → Prop) : AH → Prop :=
 Vw fun V_100 =>
 Pu Try.prog (.addOff 2) [v13] fun v104 =>
 Rd Try.prog V_100 (.ld 1 false) [v104] fun v105 =>
 Pu Try.prog .len [a2] fun v107 =>
 Pu Try.prog (.bin .eql 3) [v105, v107] fun v108 =>
 GdV v108 false (fun k_106 => k_106 a2 V_100) V_100 fun v110 V_107 =>
 GdV v108 false (fun k_109 => Pu Try.prog (.addOff 2) [v13] (fun a => k_109 a V_107)) V_107 fun v111 V_110 =>
 GdV v108 false (fun k_112 => Rd Try.prog V_110 (.ld 1 false) [v111] (fun a => k_112 a V_110)) V_110 fun v112 V_113 =>
 GdV v108 false (fun k_115 => Pu Try.prog (.idx 1) [v110, v112] (fun a => k_115 a V_113)) V_113 fun v113 V_116 =>
 GdV v108 false (fun k_118 => Rd Try.prog V_116 (.ld 1 false) [v113] (fun a => k_118 a V_116)) V_116 fun v114 V_119 =>
 GdV v108 false (fun k_121 => Pu Try.prog (.addOff 3) [v15] (fun a => k_121 a V_119)) V_119 fun v115 V_122 =>
 GdV v108 false (fun k_124 => Rd Try.prog V_122 (.ld 1 false) [v115] (fun a => k_124 a V_122)) V_122 fun v116 V_125 =>
 GdV v108 false (fun k_127 => Pu Try.prog (.bin .neq 3) [v114, v116] (fun a => k_127 a V_125)) V_125 fun v117 _ =>
 Pu Try.prog .pick [v108, (.p (.bool true)), v117] fun v118 =>
 CdA v118
 (
 Pu Try.prog (.bin .add 3) [(vs_49.getD 1 .any), (.p (.int .i64 1))] fun v149_130 =>
 k_48 [(vs_49.getD 0 .any), v149_130]
 ) (
 Rg 5 fun b_131 =>
 Pu Try.prog (.addOff 2) [v16] fun v119 =>
 RdS Try.prog (.ld 1 false) [v119] fun v120 =>
 Pu Try.prog (.bin .add 3) [v120, (.p (.int .i64 1))] fun v121 =>
 Pu Try.prog (.addOff 2) [v16] fun v122 =>
 WrS Try.prog (b_131 + 4) (.st 1) [v122, v121] fun _ =>
 k_68 []
 )
def S_machine_Cost_K3 (a2 : AV) (v49 : AV) (v13 : AV) (k_48 : List AV → AH → Prop) (vs_49 : List AV) (v15 : AV) (v16 : AV) (_vs_67 : List AV) : AH → Prop :=
 CutA Try.prog 0 (fun k_68 =>
 Pu Try.prog (.addOff 3) [v15] fun v101 =>
 RdS Try.prog (.ld 1 false) [v101] fun v102 =>
 Pu Try.prog (.bin .gtr 3) [v102, (.p (.int .i64 0))] fun v103 =>
 CdA v103
 (S_machine_Cost_C2 a2 v13 k_48 vs_49 v15 v16 k_68) (
 k_68 []
 )
 ) (S_machine_Cost_K1 v49 v13 k_48 vs_49 v15 v16)
def S_machine_Cost_C4 (a1 : AV) (v13 : AV) (k_48 : List AV → AH → Prop) (vs_49 : List AV) (v15 : AV) (v16 : AV) (k_66 : List AV → AH → Prop) : AH → Prop :=
 Vw fun V_140 =>
 Pu Try.prog (.addOff 1) [v13] fun v82 =>
 Rd Try.prog V_140 (.ld 1 false) [v82] fun v83 =>
 Pu Try.prog .len [a1] fun v85 =>
 Pu Try.prog (.bin .eql 3) [v83, v85] fun v86 =>
 GdV v86 false (fun k_146 => k_146 a1 V_140) V_140 fun v88 V_147 =>
 GdV v86 false (fun k_149 => Pu Try.prog (.addOff 1) [v13] (fun a => k_149 a V_147)) V_147 fun v89 V_150 =>
 GdV v86 false (fun k_152 => Rd Try.prog V_150 (.ld 1 false) [v89] (fun a => k_152 a V_150)) V_150 fun v90 V_153 =>
 GdV v86 false (fun k_155 => Pu Try.prog (.idx 1) [v88, v90] (fun a => k_155 a V_153)) V_153 fun v91 V_156 =>
 GdV v86 false (fun k_158 => Rd Try.prog V_156 (.ld 1 false) [v91] (fun a => k_158 a V_156)) V_156 fun v92 V_159 =>
 GdV v86 false (fun k_161 => Pu Try.prog (.addOff 2) [v15] (fun a => k_161 a V_159)) V_159 fun v93 V_162 =>
 GdV v86 false (fun k_164 => Rd Try.prog V_162 (.ld 1 false) [v93] (fun a => k_164 a V_162)) V_162 fun v94 V_165 =>
 GdV v86 false (fun k_167 => Pu Try.prog (.bin .neq 3) [v92, v94] (fun a => k_167 a V_165)) V_165 fun v95 _ =>
 Pu Try.prog .pick [v86, (.p (.bool true)), v95] fun v96 =>
 CdA v96
 (
 Pu Try.prog (.bin .add 3) [(vs_49.getD 1 .any), (.p (.int .i64 1))] fun v149_170 =>
 k_48 [(vs_49.getD 0 .any), v149_170]
 ) (
 Rg 5 fun b_171 =>
 Pu Try.prog (.addOff 1) [v16] fun v97 =>
 RdS Try.prog (.ld 1 false) [v97] fun v98 =>
 Pu Try.prog (.bin .add 3) [v98, (.p (.int .i64 1))] fun v99 =>
 Pu Try.prog (.addOff 1) [v16] fun v100 =>
 WrS Try.prog (b_171 + 4) (.st 1) [v100, v99] fun _ =>
 k_66 []
 )
def S_machine_Cost_C5 (a1 : AV) (a2 : AV) (v49 : AV) (v13 : AV) (v66 : AV) (k_48 : List AV → AH → Prop) (vs_49 : List AV) : AH → Prop :=
 Rg 4 fun b_51 =>
 Pu Try.prog (.idx 5) [v66, (vs_49.getD 1 .any)] fun v70 =>
 RdS Try.prog (.ld 5 true) [v70] fun v71 =>
 Al (b_51 + 2) (.nw 53 [.p (.int .i64 0), .p (.int .i64 0), .p (.int .i64 0), .p (.int .i64 0), .p (.int .i64 0)]) [] fun v15 =>
 WrS Try.prog (b_51 + 3) (.st 5) [v15, v71] fun _ =>
 Rg 9 fun b_56 =>
 Pu Try.prog (.addOff 1) [v15] fun v72 =>
 RdS Try.prog (.ld 1 false) [v72] fun v73 =>
 Pu Try.prog (.addOff 1) [v13] fun v74 =>
 RdS Try.prog (.ld 1 false) [v74] fun v75 =>
 Pu Try.prog (.addOff 2) [v13] fun v76 =>
 RdS Try.prog (.ld 1 false) [v76] fun v77 =>
 Pu Try.prog (.bld [.p (.int .i64 0), .p (.int .i64 0), .p (.int .i64 0)] [(0, 1), (1, 1), (2, 1)]) [v73, v75, v77] fun v78 =>
 Al (b_56 + 7) (.nw 62 [.p (.int .i64 0), .p (.int .i64 0), .p (.int .i64 0)]) [] fun v16 =>
 WrS Try.prog (b_56 + 8) (.st 3) [v16, v78] fun _ =>
 CutA Try.prog 0 (fun k_66 =>
 Pu Try.prog (.addOff 2) [v15] fun v79 =>
 RdS Try.prog (.ld 1 false) [v79] fun v80 =>
 Pu Try.prog (.bin .gtr 3) [v80, (.p (.int .i64 0))] fun v81 =>
 CdA v81
 (S_machine_Cost_C4 a1 v13 k_48 vs_49 v15 v16 k_66) (
 k_66 []
 )
 ) (S_machine_Cost_K3 a2 v49 v13 k_48 vs_49 v15 v16)
def S_machine_Cost_L6 (a1 : AV) (a2 : AV) (v49 : AV) (k_33 : List AV → AH → Prop) (v13 : AV) (v66 : AV) (v67 : AV) (vs_49 : List AV) (k_48 : List AV → AH → Prop) : AH → Prop :=
 Pu Try.prog (.bin .lss 3) [(vs_49.getD 1 .any), v67] fun v69 =>
 CdA v69
 (S_machine_Cost_C5 a1 a2 v49 v13 v66 k_48 vs_49) (
 k_33 [(vs_49.getD 0 .any)]
 )
def S_machine_Cost_C7 (a1 : AV) (a2 : AV) (v49 : AV) (v151 : AV) (k_180 : List AV → AH → Prop) (vs_181 : List AV) : AH → Prop :=
 Rg 4 fun b_183 =>
 Pu Try.prog (.idx 2) [v151, (vs_181.getD 2 .any)] fun v155 =>
 RdS Try.prog (.ld 2 true) [v155] fun v156 =>
 Al (b_183 + 2) (.nw 56 [.p (.int .i64 0), .p (.int .i64 0)]) [] fun v23 =>
 WrS Try.prog (b_183 + 3) (.st 2) [v23, v156] fun _ =>
 Pu Try.prog (.addOff 0) [v23] fun v159 =>
 RdS Try.prog (.ld 1 false) [v159] fun v160 =>
 Pu Try.prog .len [a1] fun v162 =>
 Pu Try.prog .len [a2] fun v164 =>
 Pu Try.prog (.bld [.p (.int .i64 0), .p (.int .i64 0), .p (.int .i64 0)] [(0, 1), (1, 1), (2, 1)]) [v160, v162, v164] fun v165 =>
 RdS Try.prog (.look 62 (.p (.int .i64 0)) true) [v49, v165] fun v166 =>
 Pu Try.prog (.ext 0) [v166] fun v167 =>
 Pu Try.prog (.ext 1) [v166] fun v168 =>
 Gd v168 true (fun k_197 => k_197 (vs_181.getD 1 .any)) fun v171 =>
 Gd v168 true (fun k_199 => Pu Try.prog (.un .not) [v171] k_199) fun v172 =>
 Gd v168 true (fun k_201 => k_201 v172) fun v173 =>
 Gd v173 false (fun k_203 => k_203 v167) fun v174 =>
 Gd v173 false (fun k_205 => Pu Try.prog (.addOff 1) [v23] k_205) fun v175 =>
 Gd v173 false (fun k_207 => RdS Try.prog (.ld 1 false) [v175] k_207) fun v176 =>
 Gd v173 false (fun k_209 => Pu Try.prog (.bin .add 3) [v174, v176] k_209) fun v177 =>
 Gd v173 false (fun k_211 => k_211 (vs_181.getD 0 .any)) fun v178 =>
 Gd v173 false (fun k_213 => Pu Try.prog (.bin .lss 3) [v177, v178] k_213) fun v179 =>
 Gd v168 true (fun k_215 => Pu Try.prog .pick [v173, (.p (.bool true)), v179] k_215) fun v180 =>
 Pu Try.prog .pick [v168, v180, (.p (.bool false))] fun v181 =>
 CdA v181
 (
 Pu Try.prog (.addOff 1) [v23] fun v183 =>
 RdS Try.prog (.ld 1 false) [v183] fun v184 =>
 Pu Try.prog (.bin .add 3) [v167, v184] fun v185 =>
 Pu Try.prog (.bin .add 3) [(vs_181.getD 2 .any), (.p (.int .i64 1))] fun v186 =>
 k_180 [v185, (.p (.bool true)), v186]
 ) (
 Pu Try.prog (.bin .add 3) [(vs_181.getD 2 .any), (.p (.int .i64 1))] fun v186_221 =>
 k_180 [(vs_181.getD 0 .any), (vs_181.getD 1 .any), v186_221]
 )
def S_machine_Cost_L8 (a1 : AV) (a2 : AV) (Q : AV → AH → Prop) (H : AH) (v49 : AV) (v151 : AV) (v152 : AV) (vs_181 : List AV) (k_180 : List AV → AH → Prop) : AH → Prop :=
 Pu Try.prog (.bin .lss 3) [(vs_181.getD 2 .any), v152] fun v154 =>
 CdA v154
 (S_machine_Cost_C7 a1 a2 v49 v151 k_180 vs_181) (
 Rt Try.prog H.nx (.tup [(vs_181.getD 0 .any), (vs_181.getD 1 .any), (.p (.int .i64 0))]) Q
 )
def S_machine_Cost_L9 (a1 : AV) (a2 : AV) (Q : AV → AH → Prop) (H : AH) (v3 : AV) (v48 : AV) (v49 : AV) (vs : List AV) (k_33 : List AV → AH → Prop) : AH → Prop :=
 Pu Try.prog .len [(vs.getD 0 .any)] fun v55 =>
 Pu Try.prog (.bin .gtr 3) [v55, (.p (.int .i64 0))] fun v56 =>
 CdA v56
 (
 Rg 5 fun b_37 =>
 Pu Try.prog (.idx 3) [(vs.getD 0 .any), (.p (.int .i64 0))] fun v58 =>
 RdS Try.prog (.ld 3 true) [v58] fun v59 =>
 Al (b_37 + 3) (.nw 62 [.p (.int .i64 0), .p (.int .i64 0), .p (.int .i64 0)]) [] fun v13 =>
 WrS Try.prog (b_37 + 4) (.st 3) [v13, v59] fun _ =>
 Pu Try.prog (.slc 3 true false) [(vs.getD 0 .any), (.p (.int .i64 1))] fun v61 =>
 Pu Try.prog (.addOff 0) [v13] fun v63 =>
 RdS Try.prog (.ld 1 false) [v63] fun v64 =>
 Pu Try.prog (.idx 1) [v48, v64] fun v65 =>
 RdS Try.prog (.ld 1 false) [v65] fun v66 =>
 Pu Try.prog .len [v66] fun v67 =>
 LoopA Try.prog 2 (S_machine_Cost_L6 a1 a2 v49 k_33 v13 v66 v67) [v61, (.p (.int .i64 0))]
 ) (
 Pu Try.prog (.addOff 2) [v3] fun v150 =>
 RdS Try.prog (.ld 1 false) [v150] fun v151 =>
 Pu Try.prog .len [v151] fun v152 =>
 LoopA Try.prog 3 (S_machine_Cost_L8 a1 a2 Q H v49 v151 v152) [(.p (.int .i64 0)), (.p (.bool false)), (.p (.int .i64 0))]
 )
def S_machine_Cost_C10 (a1 : AV) (a2 : AV) (Q : AV → AH → Prop) (H : AH) (v3 : AV) : AH → Prop :=
 Pu Try.prog .len [a1] fun v32 =>
 Pu Try.prog (.bin .gtr 3) [v32, (.p (.int .i64 60))] fun v33 =>
 Gd v33 false (fun k => k a2) fun v35 =>
 Gd v33 false (fun k_11 => Pu Try.prog .len [v35] k_11) fun v36 =>
 Gd v33 false (fun k_13 => Pu Try.prog (.bin .gtr 3) [v36, (.p (.int .i64 60))] k_13) fun v37 =>
 Pu Try.prog .pick [v33, (.p (.bool true)), v37] fun v38 =>
 CdA v38
 (
 Rt Try.prog H.nx (.tup [(.p (.int .i64 0)), (.p (.bool false)), (.p (.int .i64 2))]) Q
 ) (
 Ca Try.prog (.fn (.func 35) [] []) [a1] fun v40 =>
 Pu Try.prog (.un .not) [v40] fun v41 =>
 Gd v41 false (fun k_18 => k_18 a2) fun v43 =>
 Gd v41 false (fun k_20 => Ca Try.prog (.fn (.func 35) [] []) [v43] k_20) fun v44 =>
 Gd v41 false (fun k_22 => Pu Try.prog (.un .not) [v44] k_22) fun v45 =>
 Pu Try.prog .pick [v41, (.p (.bool true)), v45] fun v46 =>
 CdA v46
 (
 Rt Try.prog H.nx (.tup [(.p (.int .i64 0)), (.p (.bool false)), (.p (.int .i64 3))]) Q
 ) (
 RdS Try.prog (.ld 3 true) [v3] fun v47 =>
 Ca Try.prog (.fn (.func 36) [] []) [v47] fun v48 =>
 Rg 5 fun b_26 =>
 Al (b_26 + 0) (.mm 62) [] fun v49 =>
 Pu Try.prog (.bld [.p (.int .i64 0), .p (.int .i64 0), .p (.int .i64 0)] []) [] fun v50 =>
 WrS Try.prog (b_26 + 2) (.mset 62) [v49, v50, (.p (.int .i64 0))] fun _ =>
 Rg 3 fun b_30 =>
 Pu Try.prog (.bld [.p (.int .i64 0), .p (.int .i64 0), .p (.int .i64 0)] []) [] fun v52 =>
 Al (b_30 + 1) (.bs 62 3 1 [.p (.int .i64 0), .p (.int .i64 0), .p (.int .i64 0)] [(0, 3)]) [v52] fun v53 =>
 LoopA Try.prog 1 (S_machine_Cost_L9 a1 a2 Q H v3 v48 v49) [v53]
 )
 )
def S_machine_Cost (a0 a1 a2 : AV) (Q : AV → AH → Prop) (H : AH) : Prop := (
 Rg 4 fun b =>
 Al (b + 0) (.bx 25) [a0] fun v3 =>
 RdS Try.prog (.ld 3 true) [v3] fun v26 =>
 Ca Try.prog (.fn (.func 8) [] []) [v26] fun v27 =>
 Pu Try.prog (.bin .neq 28) [v27, (.p (.int .i64 0))] fun v29 =>
 CdA v29
 (
 Rt Try.prog H.nx (.tup [(.p (.int .i64 0)), (.p (.bool false)), v27]) Q
 ) (S_machine_Cost_C10 a1 a2 Q H v3)
 ) H
theorem eq_machine_Cost (a0 a1 a2 : AV) (Q : AV → AH → Prop) (H : AH) : FnA Try.prog 189 (regsF Try.f11) ac_machine_Cost [.tm 6, .tm 7, .tm 8] [a0, a1, a2] H Q = S_machine_Cost a0 a1 a2 Q H := by kernel_rfl
theorem tri_machine_Cost {a0 a1 a2 : AV} {H : AH} {Q : AV → AH → Prop} (h : S_machine_Cost a0 a1 a2 Q H) : Tri Try.prog 11 [a0, a1, a2] H Q :=
  tri_of (Ms := [#[], #[], #[], #[], #[], #[], #[], #[], #[], #[], #[], #[], #[], #[], #[], #[], #[], #[], #[], #[0, 1, 0, 4, 15, 31, 63, 63, 191, 511, 1023, 63, 2111, 8191, 16383], #[], #[], #[0, 1, 0, 4, 15, 31, 63, 63, 191, 511, 1023, 63, 2111, 8191, 16383], #[], #[0, 0, 3, 0, 8, 31, 63], #[], #[], #[], #[], #[], #[], #[], #[], #[], #[], #[], #[], #[], #[]]) mixed Try.func11 rfl (by kernel_rfl) (by kernel_rfl) rfl (of_decide_eq_true rfl : 3 ≤ 189) (by rw [eq_machine_Cost a0 a1 a2 Q H]; exact h : FnA Try.prog 189 (regsF Try.f11) ac_machine_Cost [.tm 6, .tm 7, .tm 8] [a0, a1, a2] H Q)

/-! wordhoard/machine.Check$1 -/
def ac_machine_Check_fn1 : AC := (.seq (.reg 0) (.seq (.reg 1) .ret))
def S_machine_Check_fn1 (a0 a1 : AV) (Q : AV → AH → Prop) (H : AH) : Prop := (
 Pu Try.prog (.bin .geq 3) [a0, (.p (.int .i64 0))] fun v5 =>
 Gd v5 true (fun k => k a0) fun v7 =>
 Gd v5 true (fun k_5 => Pu Try.prog (.addOff 0) [a1] k_5) fun v8 =>
 Gd v5 true (fun k_7 => RdS Try.prog (.ld 1 false) [v8] k_7) fun v9 =>
 Gd v5 true (fun k_9 => Pu Try.prog (.bin .lss 3) [v7, v9] k_9) fun v10 =>
 Pu Try.prog .pick [v5, v10, (.p (.bool false))] fun v11 =>
 Rt Try.prog H.nx v11 Q
 ) H
theorem eq_machine_Check_fn1 (a0 a1 : AV) (Q : AV → AH → Prop) (H : AH) : FnA Try.prog 12 (regsF Try.f32) ac_machine_Check_fn1 [.tm 3] [a0, a1] H Q = S_machine_Check_fn1 a0 a1 Q H := by kernel_rfl
theorem tri_machine_Check_fn1 {a0 a1 : AV} {H : AH} {Q : AV → AH → Prop} (h : S_machine_Check_fn1 a0 a1 Q H) : Tri Try.prog 32 [a0, a1] H Q :=
  tri_of (Ms := [#[], #[]]) mixed Try.func32 rfl (by kernel_rfl) (by kernel_rfl) rfl (of_decide_eq_true rfl : 2 ≤ 12) (by rw [eq_machine_Check_fn1 a0 a1 Q H]; exact h : FnA Try.prog 12 (regsF Try.f32) ac_machine_Check_fn1 [.tm 3] [a0, a1] H Q)

/-! wordhoard/machine.Check$2 -/
def ac_machine_Check_fn2 : AC := (.seq (.reg 0) (.seq (.reg 1) .ret))
def S_machine_Check_fn2 (a0 : AV) (Q : AV → AH → Prop) (H : AH) : Prop := (
 Pu Try.prog (.bin .geq 3) [a0, (.p (.int .i64 0))] fun v4 =>
 Gd v4 true (fun k => k a0) fun v6 =>
 Gd v4 true (fun k_5 => Pu Try.prog (.bin .leq 3) [v6, (.p (.int .i64 60))] k_5) fun v7 =>
 Pu Try.prog .pick [v4, v7, (.p (.bool false))] fun v8 =>
 Rt Try.prog H.nx v8 Q
 ) H
theorem eq_machine_Check_fn2 (a0 : AV) (Q : AV → AH → Prop) (H : AH) : FnA Try.prog 9 (regsF Try.f33) ac_machine_Check_fn2 [.tm 2] [a0] H Q = S_machine_Check_fn2 a0 Q H := by kernel_rfl
theorem tri_machine_Check_fn2 {a0 : AV} {H : AH} {Q : AV → AH → Prop} (h : S_machine_Check_fn2 a0 Q H) : Tri Try.prog 33 [a0] H Q :=
  tri_of (Ms := [#[], #[]]) mixed Try.func33 rfl (by kernel_rfl) (by kernel_rfl) rfl (of_decide_eq_true rfl : 1 ≤ 9) (by rw [eq_machine_Check_fn2 a0 Q H]; exact h : FnA Try.prog 9 (regsF Try.f33) ac_machine_Check_fn2 [.tm 2] [a0] H Q)

/-! wordhoard/machine.Check$3 -/
def ac_machine_Check_fn3 : AC := (.seq (.reg 0) (.seq (.reg 1) .ret))
def S_machine_Check_fn3 (a0 : AV) (Q : AV → AH → Prop) (H : AH) : Prop := (
 Pu Try.prog (.bin .geq 3) [a0, (.p (.int .i64 0))] fun v4 =>
 Gd v4 true (fun k => k a0) fun v6 =>
 Gd v4 true (fun k_5 => Pu Try.prog (.bin .leq 3) [v6, (.p (.int .i64 1000000))] k_5) fun v7 =>
 Pu Try.prog .pick [v4, v7, (.p (.bool false))] fun v8 =>
 Rt Try.prog H.nx v8 Q
 ) H
theorem eq_machine_Check_fn3 (a0 : AV) (Q : AV → AH → Prop) (H : AH) : FnA Try.prog 9 (regsF Try.f34) ac_machine_Check_fn3 [.tm 2] [a0] H Q = S_machine_Check_fn3 a0 Q H := by kernel_rfl
theorem tri_machine_Check_fn3 {a0 : AV} {H : AH} {Q : AV → AH → Prop} (h : S_machine_Check_fn3 a0 Q H) : Tri Try.prog 34 [a0] H Q :=
  tri_of (Ms := [#[], #[]]) mixed Try.func34 rfl (by kernel_rfl) (by kernel_rfl) rfl (of_decide_eq_true rfl : 1 ≤ 9) (by rw [eq_machine_Check_fn3 a0 Q H]; exact h : FnA Try.prog 9 (regsF Try.f34) ac_machine_Check_fn3 [.tm 2] [a0] H Q)

/-! wordhoard/machine.spoken -/
def ac_machine_spoken : AC := (.seq (.reg 0) (.seq (.reg 1) .ret))
def S_machine_spoken (a0 : AV) (Q : AV → AH → Prop) (H : AH) : Prop := (
 Ca Try.prog (.fn (.func 54) [] []) [a0, (.fn (.func 55) [] [])] fun v4 =>
 Pu Try.prog (.un .not) [v4] fun v5 =>
 Rt Try.prog H.nx v5 Q
 ) H
theorem eq_machine_spoken (a0 : AV) (Q : AV → AH → Prop) (H : AH) : FnA Try.prog 6 (regsF Try.f35) ac_machine_spoken [.tm 2] [a0] H Q = S_machine_spoken a0 Q H := by kernel_rfl
theorem tri_machine_spoken {a0 : AV} {H : AH} {Q : AV → AH → Prop} (h : S_machine_spoken a0 Q H) : Tri Try.prog 35 [a0] H Q :=
  tri_of (Ms := [#[], #[]]) mixed Try.func35 rfl (by kernel_rfl) (by kernel_rfl) rfl (of_decide_eq_true rfl : 1 ≤ 6) (by rw [eq_machine_spoken a0 Q H]; exact h : FnA Try.prog 6 (regsF Try.f35) ac_machine_spoken [.tm 2] [a0] H Q)

/-! wordhoard/machine.from -/
def ac_machine_from : AC := (.seq (.reg 0) (.seq (.reg 1) (.seq (.seq (.reg 2) (.block 0 (.loop [12] [(5, 6), (13, 29)] (.seq (.reg 3) (.seq (.cond (.tmp 13) .skip (.exit 0)) (.seq (.block 1 (.seq (.reg 4) (.reg 5))) (.reg 6))))))) (.seq (.reg 7) .ret))))
def S_machine_from_L1 (Q : AV → AH → Prop) (H : AH) (v8 : AV) (v10 : AV) (v11 : AV) (vs : List AV) (k : List AV → AH → Prop) : AH → Prop :=
 Pu Try.prog (.bin .lss 3) [(vs.getD 0 .any), v11] fun v13 =>
 CdA v13
 (
 Rg 4 fun b_13 =>
 Pu Try.prog (.idx 5) [v10, (vs.getD 0 .any)] fun v14 =>
 RdS Try.prog (.ld 5 true) [v14] fun v15 =>
 Al (b_13 + 2) (.nw 53 [.p (.int .i64 0), .p (.int .i64 0), .p (.int .i64 0), .p (.int .i64 0), .p (.int .i64 0)]) [] fun v5 =>
 WrS Try.prog (b_13 + 3) (.st 5) [v5, v15] fun _ =>
 Rg 13 fun b_18 =>
 VwD fun V =>
 Pu Try.prog (.addOff 0) [v5] fun v17 =>
 Rd Try.prog V (.ld 1 false) [v17] fun v18 =>
 Pu Try.prog (.addOff 0) [v5] fun v20 =>
 Rd Try.prog V (.ld 1 false) [v20] fun v21 =>
 Pu Try.prog (.idx 1) [v8, v21] fun v22 =>
 Rd Try.prog V (.ld 1 false) [v22] fun v23 =>
 Rd Try.prog V (.ld 5 true) [v5] fun v24 =>
 Al (b_18 + 9) (.bs 53 5 1 [.p (.int .i64 0), .p (.int .i64 0), .p (.int .i64 0), .p (.int .i64 0), .p (.int .i64 0)] [(0, 5)]) [v24] fun v25 =>
 WrO V b_18 (some (b_18 + 9)) (b_18 + 10) (.app 53 5 40) [v23, v25] fun v26 =>
 Pu Try.prog (.idx 1) [v8, v18] fun v27 =>
 Wr Try.prog (b_18 + 12) (.st 1) [v27, v26] fun _ _ =>
 Pu Try.prog (.bin .add 3) [(vs.getD 0 .any), (.p (.int .i64 1))] fun v28 =>
 k [v28]
 ) (
 Rt Try.prog H.nx v8 Q
 )
def S_machine_from (a0 : AV) (Q : AV → AH → Prop) (H : AH) : Prop := (
 Rg 2 fun b =>
 Al (b + 0) (.bx 25) [a0] fun v1 =>
 Rg 4 fun b_3 =>
 Pu Try.prog (.addOff 0) [v1] fun v6 =>
 RdS Try.prog (.ld 1 false) [v6] fun v7 =>
 Al (b_3 + 2) (.ms 22 1 24 [.p (.slice none 0 0)]) [v7, v7] fun v8 =>
 Pu Try.prog (.addOff 1) [v1] fun v9 =>
 RdS Try.prog (.ld 1 false) [v9] fun v10 =>
 Pu Try.prog .len [v10] fun v11 =>
 LoopA Try.prog 1 (S_machine_from_L1 Q H v8 v10 v11) [(.p (.int .i64 0))]
 ) H
theorem eq_machine_from (a0 : AV) (Q : AV → AH → Prop) (H : AH) : FnA Try.prog 30 (regsF Try.f36) ac_machine_from [.tm 2] [a0] H Q = S_machine_from a0 Q H := by kernel_rfl
theorem tri_machine_from {a0 : AV} {H : AH} {Q : AV → AH → Prop} (h : S_machine_from a0 Q H) : Tri Try.prog 36 [a0] H Q :=
  tri_of (Ms := [#[], #[], #[], #[], #[], #[0, 0, 2, 0, 0, 16, 56, 120, 0, 256, 1016, 2047, 4095], #[], #[]]) mixed Try.func36 rfl (by kernel_rfl) (by kernel_rfl) rfl (of_decide_eq_true rfl : 1 ≤ 30) (by rw [eq_machine_from a0 Q H]; exact h : FnA Try.prog 30 (regsF Try.f36) ac_machine_from [.tm 2] [a0] H Q)

/-! wordhoard/machine.both -/
/-! wordhoard/machine.symbols -/
def ac_machine_symbols : AC := (.seq (.reg 0) (.seq (.seq (.reg 1) (.cond (.tmp 5) (.seq (.reg 2) .ret) .skip)) (.seq (.reg 3) .ret)))
def S_machine_symbols (a0 : AV) (Q : AV → AH → Prop) (H : AH) : Prop := (
 Pu Try.prog .len [a0] fun v4 =>
 Pu Try.prog (.bin .gtr 3) [v4, (.p (.int .i64 60))] fun v5 =>
 CdA v5
 (
 Rt Try.prog H.nx (.p (.int .i64 2)) Q
 ) (
 Rt Try.prog H.nx (.p (.int .i64 0)) Q
 )
 ) H
theorem eq_machine_symbols (a0 : AV) (Q : AV → AH → Prop) (H : AH) : FnA Try.prog 6 (regsF Try.f48) ac_machine_symbols [.tm 2] [a0] H Q = S_machine_symbols a0 Q H := by kernel_rfl
theorem tri_machine_symbols {a0 : AV} {H : AH} {Q : AV → AH → Prop} (h : S_machine_symbols a0 Q H) : Tri Try.prog 48 [a0] H Q :=
  tri_of (Ms := [#[], #[], #[], #[]]) mixed Try.func48 rfl (by kernel_rfl) (by kernel_rfl) rfl (of_decide_eq_true rfl : 1 ≤ 6) (by rw [eq_machine_symbols a0 Q H]; exact h : FnA Try.prog 6 (regsF Try.f48) ac_machine_symbols [.tm 2] [a0] H Q)

/-! wordhoard/machine.spoken$1 -/
def ac_machine_spoken_fn1 : AC := (.seq (.reg 0) (.seq (.reg 1) .ret))
def S_machine_spoken_fn1 (a0 : AV) (Q : AV → AH → Prop) (H : AH) : Prop := (
 Pu Try.prog (.bin .lss 3) [a0, (.p (.int .i64 1))] fun v4 =>
 Gd v4 false (fun k => k a0) fun v6 =>
 Gd v4 false (fun k_5 => Pu Try.prog (.bin .gtr 3) [v6, (.p (.int .i64 60))] k_5) fun v7 =>
 Pu Try.prog .pick [v4, (.p (.bool true)), v7] fun v8 =>
 Rt Try.prog H.nx v8 Q
 ) H
theorem eq_machine_spoken_fn1 (a0 : AV) (Q : AV → AH → Prop) (H : AH) : FnA Try.prog 9 (regsF Try.f55) ac_machine_spoken_fn1 [.tm 2] [a0] H Q = S_machine_spoken_fn1 a0 Q H := by kernel_rfl
theorem tri_machine_spoken_fn1 {a0 : AV} {H : AH} {Q : AV → AH → Prop} (h : S_machine_spoken_fn1 a0 Q H) : Tri Try.prog 55 [a0] H Q :=
  tri_of (Ms := [#[], #[]]) mixed Try.func55 rfl (by kernel_rfl) (by kernel_rfl) rfl (of_decide_eq_true rfl : 1 ≤ 9) (by rw [eq_machine_spoken_fn1 a0 Q H]; exact h : FnA Try.prog 9 (regsF Try.f55) ac_machine_spoken_fn1 [.tm 2] [a0] H Q)

/-! (*wordhoard/machine.outer).reads -/
def ac_outer_reads : AC := (.seq (.reg 0) (.seq (.seq (.reg 1) (.cond (.tmp 10) (.seq (.reg 2) .ret) .skip)) (.seq (.seq (.reg 3) (.cond (.tmp 36) (.seq (.reg 4) .ret) .skip)) (.seq (.reg 5) .ret))))
def S_outer_reads_C1 (a0 : AV) (Q : AV → AH → Prop) (H : AH) (v4 : AV) (v5 : AV) (v6 : AV) : AH → Prop :=
 Vw fun V =>
 Pu Try.prog (.addOff 1) [v4] fun v16 =>
 Rd Try.prog V (.ld 1 false) [v16] fun v17 =>
 Pu Try.prog .nilck [a0] fun v19 =>
 Pu Try.prog (.addOff 1) [v19] fun v20 =>
 Rd Try.prog V (.ld 1 false) [v20] fun v21 =>
 Pu Try.prog .len [v21] fun v22 =>
 Pu Try.prog (.bin .lss 3) [v17, v22] fun v23 =>
 GdV v23 true (fun k => k a0 V) V fun v25 V_26 =>
 GdV v23 true (fun k_28 => Pu Try.prog .nilck [v25] (fun a => k_28 a V_26)) V_26 fun v26 V_29 =>
 GdV v23 true (fun k_31 => Pu Try.prog (.addOff 1) [v26] (fun a => k_31 a V_29)) V_29 fun v27 V_32 =>
 GdV v23 true (fun k_34 => Rd Try.prog V_32 (.ld 1 false) [v27] (fun a => k_34 a V_32)) V_32 fun v28 V_35 =>
 GdV v23 true (fun k_37 => Pu Try.prog (.addOff 1) [v4] (fun a => k_37 a V_35)) V_35 fun v29 V_38 =>
 GdV v23 true (fun k_40 => Rd Try.prog V_38 (.ld 1 false) [v29] (fun a => k_40 a V_38)) V_38 fun v30 V_41 =>
 GdV v23 true (fun k_43 => Pu Try.prog (.idx 1) [v28, v30] (fun a => k_43 a V_41)) V_41 fun v31 V_44 =>
 GdV v23 true (fun k_46 => Rd Try.prog V_44 (.ld 1 false) [v31] (fun a => k_46 a V_44)) V_44 fun v32 V_47 =>
 GdV v23 true (fun k_49 => Pu Try.prog (.addOff 2) [v5] (fun a => k_49 a V_47)) V_47 fun v33 V_50 =>
 GdV v23 true (fun k_52 => Rd Try.prog V_50 (.ld 1 false) [v33] (fun a => k_52 a V_50)) V_50 fun v34 V_53 =>
 GdV v23 true (fun k_55 => Pu Try.prog (.bin .eql 3) [v32, v34] (fun a => k_55 a V_53)) V_53 fun v35 _ =>
 Pu Try.prog .pick [v23, v35, (.p (.bool false))] fun v36 =>
 CdA v36
 (
 Rg 8 fun b_58 =>
 Pu Try.prog (.addOff 1) [v5] fun v37 =>
 RdS Try.prog (.ld 1 false) [v37] fun v38 =>
 Pu Try.prog (.addOff 1) [v4] fun v39 =>
 RdS Try.prog (.ld 1 false) [v39] fun v40 =>
 Pu Try.prog (.bin .add 3) [v40, (.p (.int .i64 1))] fun v41 =>
 Pu Try.prog (.bld [.p (.int .i64 0), .p (.int .i64 0)] [(0, 1), (1, 1)]) [v38, v41] fun v42 =>
 WrS Try.prog (b_58 + 6) (.st 2) [v6, v42] fun _ =>
 RdS Try.prog (.ld 2 true) [v6] fun r6_66 =>
 Rt Try.prog H.nx (.tup [r6_66, (.p (.bool true))]) Q
 ) (
 Rg 3 fun b_67 =>
 Pu Try.prog (.bld [.p (.int .i64 0), .p (.int .i64 0)] []) [] fun v43 =>
 WrS Try.prog (b_67 + 1) (.st 2) [v6, v43] fun _ =>
 RdS Try.prog (.ld 2 true) [v6] fun r6_70 =>
 Rt Try.prog H.nx (.tup [r6_70, (.p (.bool false))]) Q
 )
def S_outer_reads (a0 a1 a2 : AV) (Q : AV → AH → Prop) (H : AH) : Prop := (
 Rg 4 fun b =>
 Al (b + 0) (.bx 91) [a1] fun v4 =>
 Al (b + 1) (.bx 53) [a2] fun v5 =>
 Al (b + 2) (.nw 91 [.p (.int .i64 0), .p (.int .i64 0)]) [] fun v6 =>
 Pu Try.prog (.addOff 2) [v5] fun v8 =>
 RdS Try.prog (.ld 1 false) [v8] fun v9 =>
 Pu Try.prog (.bin .eql 3) [v9, (.p (.int .i64 0))] fun v10 =>
 CdA v10
 (
 Rg 7 fun b_8 =>
 Pu Try.prog (.addOff 1) [v5] fun v11 =>
 RdS Try.prog (.ld 1 false) [v11] fun v12 =>
 Pu Try.prog (.addOff 1) [v4] fun v13 =>
 RdS Try.prog (.ld 1 false) [v13] fun v14 =>
 Pu Try.prog (.bld [.p (.int .i64 0), .p (.int .i64 0)] [(0, 1), (1, 1)]) [v12, v14] fun v15 =>
 WrS Try.prog (b_8 + 5) (.st 2) [v6, v15] fun _ =>
 RdS Try.prog (.ld 2 true) [v6] fun r6 =>
 Rt Try.prog H.nx (.tup [r6, (.p (.bool true))]) Q
 ) (S_outer_reads_C1 a0 Q H v4 v5 v6)
 ) H
theorem eq_outer_reads (a0 a1 a2 : AV) (Q : AV → AH → Prop) (H : AH) : FnA Try.prog 44 (regsF Try.f52) ac_outer_reads [.ce 6 91, .tm 7] [a0, a1, a2] H Q = S_outer_reads a0 a1 a2 Q H := by kernel_rfl
theorem tri_outer_reads {a0 a1 a2 : AV} {H : AH} {Q : AV → AH → Prop} (h : S_outer_reads a0 a1 a2 Q H) : Tri Try.prog 52 [a0, a1, a2] H Q :=
  tri_of (Ms := [#[], #[], #[], #[0, 1, 0, 4, 12, 28, 60, 127, 255, 511, 1023, 2047, 4095, 511, 8703, 32767, 65535, 511, 131583, 524287, 1048575], #[], #[]]) mixed Try.func52 rfl (by kernel_rfl) (by kernel_rfl) rfl (of_decide_eq_true rfl : 3 ≤ 44) (by rw [eq_outer_reads a0 a1 a2 Q H]; exact h : FnA Try.prog 44 (regsF Try.f52) ac_outer_reads [.ce 6 91, .tm 7] [a0, a1, a2] H Q)

/-! (*wordhoard/machine.outer).quiet -/
def ac_outer_quiet : AC := (.seq (.reg 0) (.seq (.reg 1) (.seq (.reg 2) (.seq (.seq (.reg 3) (.block 0 (.loop [6] [(7, 8), (16, 26)] (.seq (.reg 4) (.seq (.cond (.tmp 17) .skip (.exit 0)) (.block 1 (.seq (.reg 5) (.seq (.reg 6) (.reg 7))))))))) (.seq (.block 2 (.loop [6] [(8, 9), (10, 13), (26, 79)] (.seq (.seq (.reg 8) (.cond (.tmp 28) .skip (.exit 2))) (.block 3 (.seq (.reg 9) (.seq (.reg 10) (.seq (.reg 11) (.block 4 (.loop [6, 49] [(10, 13), (50, 79)] (.seq (.reg 12) (.seq (.cond (.tmp 50) .skip (.exit 4)) (.seq (.block 5 (.seq (.reg 13) (.seq (.reg 14) (.seq (.reg 15) (.cond (.tmp 71) (.seq (.reg 16) (.reg 17)) .skip))))) (.reg 18))))))))))))) (.seq (.reg 19) .ret))))))
def S_outer_quiet_C1 (a0 : AV) (v13 : AV) (v8 : AV) (v47 : AV) (k_45 : List AV → AH → Prop) (vs_46 : List AV) : AH → Prop :=
 Rg 4 fun b_48 =>
 Pu Try.prog (.idx 5) [v47, (vs_46.getD 1 .any)] fun v51 =>
 RdS Try.prog (.ld 5 true) [v51] fun v52 =>
 Al (b_48 + 2) (.nw 53 [.p (.int .i64 0), .p (.int .i64 0), .p (.int .i64 0), .p (.int .i64 0), .p (.int .i64 0)]) [] fun v10 =>
 WrS Try.prog (b_48 + 3) (.st 5) [v10, v52] fun _ =>
 Rg 10 fun b_53 =>
 RdS Try.prog (.ld 2 true) [v8] fun v55 =>
 RdS Try.prog (.ld 5 true) [v10] fun v56 =>
 Ca Try.prog (.fn (.func 52) [] []) [a0, v55, v56] fun v57 =>
 Pu Try.prog (.ext 0) [v57] fun v58 =>
 Pu Try.prog (.ext 1) [v57] fun v59 =>
 Al (b_53 + 7) (.nw 91 [.p (.int .i64 0), .p (.int .i64 0)]) [] fun v11 =>
 WrS Try.prog (b_53 + 8) (.st 2) [v11, v58] fun _ =>
 Gd v59 true (fun k_62 => Pu Try.prog (.addOff 3) [v10] k_62) fun v62 =>
 Gd v59 true (fun k_64 => RdS Try.prog (.ld 1 false) [v62] k_64) fun v63 =>
 Gd v59 true (fun k_66 => Pu Try.prog (.bin .eql 3) [v63, (.p (.int .i64 0))] k_66) fun v64 =>
 Pu Try.prog .pick [v59, v64, (.p (.bool false))] fun v65 =>
 Gd v65 true (fun k_69 => k_69 v13) fun v67 =>
 Gd v65 true (fun k_71 => RdS Try.prog (.ld 2 true) [v11] k_71) fun v68 =>
 Gd v65 true (fun k_73 => RdS Try.prog (.look 91 (.p (.int .i64 0)) false) [v67, v68] k_73) fun v69 =>
 Gd v65 true (fun k_75 => Pu Try.prog (.bin .eql 3) [v69, (.p (.int .i64 0))] k_75) fun v70 =>
 Pu Try.prog .pick [v65, v70, (.p (.bool false))] fun v71 =>
 CdA v71
 (
 Rg 3 fun b_77 =>
 RdS Try.prog (.ld 2 true) [v11] fun v73 =>
 WrS Try.prog (b_77 + 2) (.mset 91) [v13, v73, (.p (.int .i64 1))] fun _ =>
 Rg 5 fun b_80 =>
 RdS Try.prog (.ld 2 true) [v11] fun v75 =>
 Al (b_80 + 2) (.bs 91 2 1 [.p (.int .i64 0), .p (.int .i64 0)] [(0, 2)]) [v75] fun v76 =>
 WrS Try.prog (b_80 + 3) (.app 91 2 16) [(vs_46.getD 0 .any), v76] fun v77 =>
 Pu Try.prog (.bin .add 3) [(vs_46.getD 1 .any), (.p (.int .i64 1))] fun v78 =>
 k_45 [v77, v78]
 ) (
 Pu Try.prog (.bin .add 3) [(vs_46.getD 1 .any), (.p (.int .i64 1))] fun v78_85 =>
 k_45 [(vs_46.getD 0 .any), v78_85]
 )
def S_outer_quiet_L2 (a0 : AV) (v13 : AV) (k_22 : List AV → AH → Prop) (v8 : AV) (v47 : AV) (v48 : AV) (vs_46 : List AV) (k_45 : List AV → AH → Prop) : AH → Prop :=
 Pu Try.prog (.bin .lss 3) [(vs_46.getD 1 .any), v48] fun v50 =>
 CdA v50
 (S_outer_quiet_C1 a0 v13 v8 v47 k_45 vs_46) (
 k_22 [(vs_46.getD 0 .any)]
 )
def S_outer_quiet_L3 (a0 : AV) (Q : AV → AH → Prop) (H : AH) (v13 : AV) (vs_23 : List AV) (k_22 : List AV → AH → Prop) : AH → Prop :=
 Pu Try.prog .len [(vs_23.getD 0 .any)] fun v27 =>
 Pu Try.prog (.bin .gtr 3) [v27, (.p (.int .i64 0))] fun v28 =>
 CdA v28
 (
 Rg 8 fun b_26 =>
 Pu Try.prog .len [(vs_23.getD 0 .any)] fun v31 =>
 Pu Try.prog (.bin .sub 3) [v31, (.p (.int .i64 1))] fun v32 =>
 Pu Try.prog (.idx 2) [(vs_23.getD 0 .any), v32] fun v33 =>
 RdS Try.prog (.ld 2 true) [v33] fun v34 =>
 Al (b_26 + 6) (.nw 91 [.p (.int .i64 0), .p (.int .i64 0)]) [] fun v8 =>
 WrS Try.prog (b_26 + 7) (.st 2) [v8, v34] fun _ =>
 Pu Try.prog .len [(vs_23.getD 0 .any)] fun v37 =>
 Pu Try.prog (.bin .sub 3) [v37, (.p (.int .i64 1))] fun v38 =>
 Pu Try.prog (.slc 2 false true) [(vs_23.getD 0 .any), v38] fun v39 =>
 Vw fun V =>
 Pu Try.prog .nilck [a0] fun v41 =>
 Pu Try.prog (.addOff 0) [v41] fun v42 =>
 Rd Try.prog V (.ld 1 false) [v42] fun v43 =>
 Pu Try.prog (.addOff 0) [v8] fun v44 =>
 Rd Try.prog V (.ld 1 false) [v44] fun v45 =>
 Pu Try.prog (.idx 1) [v43, v45] fun v46 =>
 Rd Try.prog V (.ld 1 false) [v46] fun v47 =>
 Pu Try.prog .len [v47] fun v48 =>
 LoopA Try.prog 2 (S_outer_quiet_L2 a0 v13 k_22 v8 v47 v48) [v39, (.p (.int .i64 0))]
 ) (
 Rt Try.prog H.nx v13 Q
 )
def S_outer_quiet_L4 (a0 : AV) (Q : AV → AH → Prop) (H : AH) (v13 : AV) (v15 : AV) (vs : List AV) (k : List AV → AH → Prop) : AH → Prop :=
 Rg 2 fun b_7 =>
 Nd Try.prog (b_7 + 0) .nxt [v15] fun v16 =>
 Pu Try.prog (.ext 0) [v16] fun v17 =>
 CdA v17
 (
 Rg 4 fun b_10 =>
 Nd Try.prog (b_10 + 0) .ent [v15] fun v18 =>
 Pu Try.prog (.ext 0) [v18] fun v19 =>
 Al (b_10 + 2) (.nw 91 [.p (.int .i64 0), .p (.int .i64 0)]) [] fun v7 =>
 WrS Try.prog (b_10 + 3) (.st 2) [v7, v19] fun _ =>
 Rg 3 fun b_15 =>
 RdS Try.prog (.ld 2 true) [v7] fun v21 =>
 WrS Try.prog (b_15 + 2) (.mset 91) [v13, v21, (.p (.int .i64 1))] fun _ =>
 Rg 5 fun b_18 =>
 RdS Try.prog (.ld 2 true) [v7] fun v23 =>
 Al (b_18 + 2) (.bs 91 2 1 [.p (.int .i64 0), .p (.int .i64 0)] [(0, 2)]) [v23] fun v24 =>
 WrS Try.prog (b_18 + 3) (.app 91 2 16) [(vs.getD 0 .any), v24] fun v25 =>
 k [v25]
 ) (
 LoopA Try.prog 1 (S_outer_quiet_L3 a0 Q H v13) [(vs.getD 0 .any)]
 )
def S_outer_quiet (a0 a1 : AV) (Q : AV → AH → Prop) (H : AH) : Prop := (
 Rg 2 fun b =>
 Al (b + 0) (.mm 91) [] fun v13 =>
 Rg 2 fun b_3 =>
 Nd Try.prog (b_3 + 1) (.rng 91) [a1] fun v15 =>
 LoopA Try.prog 1 (S_outer_quiet_L4 a0 Q H v13 v15) [(.p (.slice none 0 0))]
 ) H
theorem eq_outer_quiet (a0 a1 : AV) (Q : AV → AH → Prop) (H : AH) : FnA Try.prog 80 (regsF Try.f53) ac_outer_quiet [.tm 4] [a0, a1] H Q = S_outer_quiet a0 a1 Q H := by kernel_rfl
theorem tri_outer_quiet {a0 a1 : AV} {H : AH} {Q : AV → AH → Prop} (h : S_outer_quiet a0 a1 Q H) : Tri Try.prog 53 [a0, a1] H Q :=
  tri_of (Ms := [#[], #[], #[], #[], #[], #[], #[], #[], #[], #[], #[], #[0, 1, 3, 7, 0, 16, 63, 127, 255, 0], #[], #[], #[], #[], #[], #[], #[], #[]]) mixed Try.func53 rfl (by kernel_rfl) (by kernel_rfl) rfl (of_decide_eq_true rfl : 2 ≤ 80) (by rw [eq_outer_quiet a0 a1 Q H]; exact h : FnA Try.prog 80 (regsF Try.f53) ac_outer_quiet [.tm 4] [a0, a1] H Q)

/-! (*wordhoard/machine.maker).arc -/
/-! (*wordhoard/machine.maker).final -/
/-! (*wordhoard/machine.maker).done -/
/-! (*wordhoard/machine.maker).lay -/
/-! wordhoard/machine.Through -/
/-! wordhoard/machine.Either -/
/-! wordhoard/machine.Chain -/
/-! wordhoard/machine.Repeat -/
/-! wordhoard/machine.Turn -/
/-! wordhoard/machine.Side -/
/-! wordhoard/machine.Through$1 -/
/-! wordhoard/machine.turned -/
/-! wordhoard/machine.Turn$1 -/
/-! wordhoard/machine.Side$1 -/
end Go.Proofs.Ytgkkilbeingleaa
