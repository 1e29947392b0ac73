/- Texts that the proof rests on, part 12: what each holds stands at its head. -/
import Derived.Test.YtgkkilbeingleaaMt11

/- Abstract walks of functions, written by a program (wip/aw/aw.py): each equation is checked by the kernel. -/
namespace Go.Proofs.Ytgkkilbeingleaa
open Go.RowKit

/-! wordhoard/machine.Check -/
def ac_machine_Check : AC := (.seq (.reg 0) (.seq (.seq (.reg 1) (.cond (.tmp 34) (.seq (.reg 2) .ret) .skip)) (.seq (.reg 3) (.seq (.reg 4) (.seq (.reg 5) (.seq (.seq (.reg 6) (.block 0 (.loop [39] [(2, 3), (7, 8), (40, 77)] (.seq (.reg 7) (.seq (.cond (.tmp 40) .skip (.exit 0)) (.seq (.block 1 (.seq (.reg 8) (.seq (.reg 9) (.cond (.tmp 75) (.seq (.reg 10) .ret) .skip)))) (.reg 11))))))) (.seq (.reg 12) (.seq (.seq (.reg 13) (.block 2 (.loop [81] [(2, 3), (10, 11), (82, 103)] (.seq (.reg 14) (.seq (.cond (.tmp 82) .skip (.exit 2)) (.seq (.block 3 (.seq (.reg 15) (.seq (.seq (.reg 16) (.cond (.tmp 96) (.seq (.reg 17) .ret) .skip)) (.reg 18)))) (.reg 19))))))) (.seq (.seq (.reg 20) (.block 4 (.loop [] [(2, 3), (12, 13), (105, 111)] (.seq (.reg 21) (.seq (.cond (.tmp 106) .skip (.exit 4)) (.block 5 (.seq (.reg 22) (.seq (.reg 23) (.cond (.tmp 110) (.seq (.reg 24) .ret) .skip))))))))) (.seq (.reg 25) .ret))))))))))
def S_machine_Check_C1 (Q : AV → AH → Prop) (H : AH) (v35 : AV) (v37 : AV) (k_39 : List AV → AH → Prop) (vs : List AV) : AH → Prop :=
  Rg 4 fun b_42 =>
  Pu Try.prog (.idx 5) [v37, (vs.getD 0 .any)] fun v41 =>
  RdS Try.prog (.ld 5 true) [v41] fun v42 =>
  Al (b_42 + 2) (.nw 53 [.p (.int .i64 0), .p (.int .i64 0), .p (.int .i64 0), .p (.int .i64 0), .p (.int .i64 0)]) [] fun v7 =>
  WrS Try.prog (b_42 + 3) (.st 5) [v7, v42] fun _ =>
  Pu Try.prog (.addOff 0) [v7] fun v44 =>
  RdS Try.prog (.ld 1 false) [v44] fun v45 =>
  Ca Try.prog v35 [v45] fun v46 =>
  Pu Try.prog (.un .not) [v46] fun v47 =>
  Gd v47 false (fun k_52 => k_52 v35) fun v49 =>
  Gd v47 false (fun k_54 => Pu Try.prog (.addOff 1) [v7] k_54) fun v50 =>
  Gd v47 false (fun k_56 => RdS Try.prog (.ld 1 false) [v50] k_56) fun v51 =>
  Gd v47 false (fun k_58 => Ca Try.prog v49 [v51] k_58) fun v52 =>
  Gd v47 false (fun k_60 => Pu Try.prog (.un .not) [v52] k_60) fun v53 =>
  Pu Try.prog .pick [v47, (.p (.bool true)), v53] fun v54 =>
  Gd v54 false (fun k_63 => k_63 (.fn (.func 33) [] [])) fun v56 =>
  Gd v54 false (fun k_65 => Pu Try.prog (.addOff 2) [v7] k_65) fun v57 =>
  Gd v54 false (fun k_67 => RdS Try.prog (.ld 1 false) [v57] k_67) fun v58 =>
  Gd v54 false (fun k_69 => Ca Try.prog v56 [v58] k_69) fun v59 =>
  Gd v54 false (fun k_71 => Pu Try.prog (.un .not) [v59] k_71) fun v60 =>
  Pu Try.prog .pick [v54, (.p (.bool true)), v60] fun v61 =>
  Gd v61 false (fun k_74 => k_74 (.fn (.func 33) [] [])) fun v63 =>
  Gd v61 false (fun k_76 => Pu Try.prog (.addOff 3) [v7] k_76) fun v64 =>
  Gd v61 false (fun k_78 => RdS Try.prog (.ld 1 false) [v64] k_78) fun v65 =>
  Gd v61 false (fun k_80 => Ca Try.prog v63 [v65] k_80) fun v66 =>
  Gd v61 false (fun k_82 => Pu Try.prog (.un .not) [v66] k_82) fun v67 =>
  Pu Try.prog .pick [v61, (.p (.bool true)), v67] fun v68 =>
  Gd v68 false (fun k_85 => k_85 (.fn (.func 34) [] [])) fun v70 =>
  Gd v68 false (fun k_87 => Pu Try.prog (.addOff 4) [v7] k_87) fun v71 =>
  Gd v68 false (fun k_89 => RdS Try.prog (.ld 1 false) [v71] k_89) fun v72 =>
  Gd v68 false (fun k_91 => Ca Try.prog v70 [v72] k_91) fun v73 =>
  Gd v68 false (fun k_93 => Pu Try.prog (.un .not) [v73] k_93) fun v74 =>
  Pu Try.prog .pick [v68, (.p (.bool true)), v74] fun v75 =>
  CdA v75
    (
    Rt Try.prog H.nx (.p (.int .i64 3)) Q
    ) (
    Pu Try.prog (.bin .add 3) [(vs.getD 0 .any), (.p (.int .i64 1))] fun v76 =>
    k_39 [v76]
    )
def S_machine_Check_C2 (Q : AV → AH → Prop) (H : AH) (v35 : AV) (v77 : AV) (v79 : AV) (k_101 : List AV → AH → Prop) (vs_102 : List AV) : AH → Prop :=
  Rg 4 fun b_104 =>
  Pu Try.prog (.idx 2) [v79, (vs_102.getD 0 .any)] fun v83 =>
  RdS Try.prog (.ld 2 true) [v83] fun v84 =>
  Al (b_104 + 2) (.nw 56 [.p (.int .i64 0), .p (.int .i64 0)]) [] fun v10 =>
  WrS Try.prog (b_104 + 3) (.st 2) [v10, v84] fun _ =>
  Pu Try.prog (.addOff 0) [v10] fun v86 =>
  RdS Try.prog (.ld 1 false) [v86] fun v87 =>
  Ca Try.prog v35 [v87] fun v88 =>
  Pu Try.prog (.un .not) [v88] fun v89 =>
  Gd v89 false (fun k_114 => k_114 (.fn (.func 34) [] [])) fun v91 =>
  Gd v89 false (fun k_116 => Pu Try.prog (.addOff 1) [v10] k_116) fun v92 =>
  Gd v89 false (fun k_118 => RdS Try.prog (.ld 1 false) [v92] k_118) fun v93 =>
  Gd v89 false (fun k_120 => Ca Try.prog v91 [v93] k_120) fun v94 =>
  Gd v89 false (fun k_122 => Pu Try.prog (.un .not) [v94] k_122) fun v95 =>
  Pu Try.prog .pick [v89, (.p (.bool true)), v95] fun v96 =>
  CdA v96
    (
    Rt Try.prog H.nx (.p (.int .i64 3)) Q
    ) (
    Rg 6 fun b_124 =>
    Pu Try.prog (.addOff 0) [v10] fun v98 =>
    RdS Try.prog (.ld 1 false) [v98] fun v99 =>
    RdS Try.prog (.look 3 (.p (.int .i64 0)) false) [v77, v99] fun v100 =>
    Pu Try.prog (.bin .add 3) [v100, (.p (.int .i64 1))] fun v101 =>
    WrS Try.prog (b_124 + 5) (.mset 3) [v77, v99, v101] fun _ =>
    Pu Try.prog (.bin .add 3) [(vs_102.getD 0 .any), (.p (.int .i64 1))] fun v102 =>
    k_101 [v102]
    )
def S_machine_Check_L3 (Q : AV → AH → Prop) (H : AH) (v104 : AV) (_vs_134 : List AV) (k_133 : List AV → AH → Prop) : AH → Prop :=
  Rg 2 fun b_135 =>
  Nd Try.prog (b_135 + 0) .nxt [v104] fun v105 =>
  Pu Try.prog (.ext 0) [v105] fun v106 =>
  CdA v106
    (
    Rg 3 fun b_138 =>
    Nd Try.prog (b_138 + 0) .ent [v104] fun v107 =>
    Pu Try.prog (.ext 1) [v107] fun v108 =>
    Pu Try.prog (.bin .gtr 3) [v108, (.p (.int .i64 1))] fun v110 =>
    CdA v110
      (
      Rt Try.prog H.nx (.p (.int .i64 6)) Q
      ) (
      k_133 []
      )
    ) (
    Rt Try.prog H.nx (.p (.int .i64 0)) Q
    )
def S_machine_Check_L4 (Q : AV → AH → Prop) (H : AH) (v35 : AV) (v77 : AV) (v79 : AV) (v80 : AV) (vs_102 : List AV) (k_101 : List AV → AH → Prop) : AH → Prop :=
  Pu Try.prog (.bin .lss 3) [(vs_102.getD 0 .any), v80] fun v82 =>
  CdA v82
    (S_machine_Check_C2 Q H v35 v77 v79 k_101 vs_102) (
    Rg 2 fun b_131 =>
    Nd Try.prog (b_131 + 1) (.rng 3) [v77] fun v104 =>
    LoopA Try.prog 0 (S_machine_Check_L3 Q H v104) []
    )
def S_machine_Check_L5 (Q : AV → AH → Prop) (H : AH) (v1 : AV) (v35 : AV) (v37 : AV) (v38 : AV) (vs : List AV) (k_39 : List AV → AH → Prop) : AH → Prop :=
  Pu Try.prog (.bin .lss 3) [(vs.getD 0 .any), v38] fun v40 =>
  CdA v40
    (S_machine_Check_C1 Q H v35 v37 k_39 vs) (
    Rg 2 fun b_96 =>
    Al (b_96 + 0) (.mm 3) [] fun v77 =>
    Pu Try.prog (.addOff 2) [v1] fun v78 =>
    RdS Try.prog (.ld 1 false) [v78] fun v79 =>
    Pu Try.prog .len [v79] fun v80 =>
    LoopA Try.prog 1 (S_machine_Check_L4 Q H v35 v77 v79 v80) [(.p (.int .i64 0))]
    )
def S_machine_Check (a0 : AV) (Q : AV → AH → Prop) (H : AH) : Prop := (
    Rg 2 fun b =>
    Al (b + 0) (.bx 25) [a0] fun v1 =>
    Pu Try.prog (.addOff 0) [v1] fun v13 =>
    RdS Try.prog (.ld 1 false) [v13] fun v14 =>
    Pu Try.prog (.bin .lss 3) [v14, (.p (.int .i64 1))] fun v15 =>
    Gd v15 false (fun k => Pu Try.prog (.addOff 0) [v1] k) fun v17 =>
    Gd v15 false (fun k_9 => RdS Try.prog (.ld 1 false) [v17] k_9) fun v18 =>
    Gd v15 false (fun k_11 => Pu Try.prog (.bin .gtr 3) [v18, (.p (.int .i64 3000))] k_11) fun v19 =>
    Pu Try.prog .pick [v15, (.p (.bool true)), v19] fun v20 =>
    Gd v20 false (fun k_14 => Pu Try.prog (.addOff 1) [v1] k_14) fun v22 =>
    Gd v20 false (fun k_16 => RdS Try.prog (.ld 1 false) [v22] k_16) fun v23 =>
    Gd v20 false (fun k_18 => Pu Try.prog .len [v23] k_18) fun v24 =>
    Gd v20 false (fun k_20 => Pu Try.prog (.bin .gtr 3) [v24, (.p (.int .i64 20000))] k_20) fun v25 =>
    Pu Try.prog .pick [v20, (.p (.bool true)), v25] fun v26 =>
    Gd v26 false (fun k_23 => Pu Try.prog (.addOff 2) [v1] k_23) fun v28 =>
    Gd v26 false (fun k_25 => RdS Try.prog (.ld 1 false) [v28] k_25) fun v29 =>
    Gd v26 false (fun k_27 => Pu Try.prog .len [v29] k_27) fun v30 =>
    Gd v26 false (fun k_29 => Pu Try.prog (.addOff 0) [v1] k_29) fun v31 =>
    Gd v26 false (fun k_31 => RdS Try.prog (.ld 1 false) [v31] k_31) fun v32 =>
    Gd v26 false (fun k_33 => Pu Try.prog (.bin .gtr 3) [v30, v32] k_33) fun v33 =>
    Pu Try.prog .pick [v26, (.p (.bool true)), v33] fun v34 =>
    CdA v34
      (
      Rt Try.prog H.nx (.p (.int .i64 7)) Q
      ) (
      Pu Try.prog (.mkfn (.func 32) 0) [v1] fun v35 =>
      Pu Try.prog (.addOff 1) [v1] fun v36 =>
      RdS Try.prog (.ld 1 false) [v36] fun v37 =>
      Pu Try.prog .len [v37] fun v38 =>
      LoopA Try.prog 1 (S_machine_Check_L5 Q H v1 v35 v37 v38) [(.p (.int .i64 0))]
      )
    ) H
theorem eq_machine_Check (a0 : AV) (Q : AV → AH → Prop) (H : AH) : FnA Try.prog 111 (regsF Try.f8) ac_machine_Check [.tm 2] [a0] H Q = S_machine_Check a0 Q H := by kernel_rfl
theorem tri_machine_Check {a0 : AV} {H : AH} {Q : AV → AH → Prop} (h : S_machine_Check a0 Q H) : Tri Try.prog 8 [a0] H Q :=
  tri_of (Ms := [#[], #[], #[], #[], #[], #[], #[], #[], #[], #[], #[], #[], #[], #[], #[], #[], #[], #[], #[], #[], #[], #[], #[], #[], #[], #[]]) mixed Try.func8 rfl (by kernel_rfl) (by kernel_rfl) rfl (of_decide_eq_true rfl : 1 ≤ 111) (by rw [eq_machine_Check a0 Q H]; exact h : FnA Try.prog 111 (regsF Try.f8) ac_machine_Check [.tm 2] [a0] H Q)

/-! wordhoard/machine.Cost -/
def ac_machine_Cost : AC := (.seq (.reg 0) (.seq (.seq (.reg 1) (.seq (.reg 2) (.cond (.tmp 29) (.seq (.reg 3) .ret) .skip))) (.seq (.seq (.reg 4) (.cond (.tmp 38) (.seq (.reg 5) .ret) .skip)) (.seq (.seq (.reg 6) (.cond (.tmp 46) (.seq (.reg 7) .ret) .skip)) (.seq (.reg 8) (.seq (.reg 9) (.seq (.reg 10) (.seq (.block 0 (.loop [12] [(13, 14), (15, 20), (54, 150)] (.seq (.seq (.reg 11) (.cond (.tmp 56) .skip (.exit 0))) (.block 1 (.seq (.reg 12) (.seq (.reg 13) (.seq (.reg 14) (.block 2 (.loop [12, 68] [(15, 20), (69, 150)] (.seq (.reg 15) (.seq (.cond (.tmp 69) .skip (.exit 2)) (.seq (.block 3 (.seq (.reg 16) (.seq (.reg 17) (.cut [] [(79, 101)] (.seq (.reg 18) (.cond (.tmp 81) (.seq (.seq (.reg 19) (.cond (.tmp 96) (.exit 3) .skip)) (.reg 20)) .skip)) (.cut [] [(101, 123)] (.seq (.reg 21) (.cond (.tmp 103) (.seq (.seq (.reg 22) (.cond (.tmp 118) (.exit 3) .skip)) (.reg 23)) .skip)) (.seq (.reg 24) (.seq (.reg 25) (.seq (.reg 26) (.cond (.tmp 141) (.seq (.reg 27) (.reg 28)) .skip))))))))) (.reg 29))))))))))))) (.seq (.reg 30) (.seq (.seq (.reg 31) (.block 4 (.loop [20, 21, 153] [(23, 26), (154, 187)] (.seq (.reg 32) (.seq (.cond (.tmp 154) .skip (.exit 4)) (.seq (.block 5 (.seq (.reg 33) (.seq (.reg 34) (.seq (.reg 35) (.cond (.tmp 181) (.reg 36) .skip))))) (.reg 37))))))) (.seq (.reg 38) .ret)))))))))))
def S_machine_Cost_K1 (v49 : AV) (v13 : AV) (k_48 : List AV → AH → Prop) (vs_49 : List AV) (v15 : AV) (v16 : AV) (_vs_69 : List AV) : AH → Prop :=
  Vw fun V =>
  Rd Try.prog V (.ld 3 true) [v13] fun v124 =>
  Rd Try.prog V (.look 62 (.p (.int .i64 0)) false) [v49, v124] fun v125 =>
  Pu Try.prog (.addOff 4) [v15] fun v126 =>
  Rd Try.prog V (.ld 1 false) [v126] fun v127 =>
  Pu Try.prog (.bin .add 3) [v125, v127] fun v128 =>
  RdS Try.prog (.ld 3 true) [v16] fun v131 =>
  RdS Try.prog (.look 62 (.p (.int .i64 0)) true) [v49, v131] fun v132 =>
  Pu Try.prog (.ext 0) [v132] fun v133 =>
  Pu Try.prog (.ext 1) [v132] fun v134 =>
  Pu Try.prog (.un .not) [v134] fun v136 =>
  Gd v136 false (fun k_82 => k_82 v128) fun v138 =>
  Gd v136 false (fun k_84 => k_84 v133) fun v139 =>
  Gd v136 false (fun k_86 => Pu Try.prog (.bin .lss 3) [v138, v139] k_86) fun v140 =>
  Pu Try.prog .pick [v136, (.p (.bool true)), v140] fun v141 =>
  CdA v141
    (
    Rg 4 fun b_88 =>
    RdS Try.prog (.ld 3 true) [v16] fun v143 =>
    WrS Try.prog (b_88 + 3) (.mset 62) [v49, v143, v128] fun _ =>
    Rg 5 fun b_91 =>
    RdS Try.prog (.ld 3 true) [v16] fun v146 =>
    Al (b_91 + 2) (.bs 62 3 1 [.p (.int .i64 0), .p (.int .i64 0), .p (.int .i64 0)] [(0, 3)]) [v146] fun v147 =>
    WrS Try.prog (b_91 + 3) (.app 62 3 24) [(vs_49.getD 0 .any), v147] fun v148 =>
    Pu Try.prog (.bin .add 3) [(vs_49.getD 1 .any), (.p (.int .i64 1))] fun v149 =>
    k_48 [v148, v149]
    ) (
    Pu Try.prog (.bin .add 3) [(vs_49.getD 1 .any), (.p (.int .i64 1))] fun v149_96 =>
    k_48 [(vs_49.getD 0 .any), v149_96]
    )
def S_machine_Cost_C2 (a2 : AV) (v13 : AV) (k_48 : List AV → AH → Prop) (vs_49 : List AV) (v15 : AV) (v16 : AV) (k_68 : List AV → AH → Prop) : AH → Prop :=
  Vw fun V_100 =>
  Pu Try.prog (.addOff 2) [v13] fun v104 =>
  Rd Try.prog V_100 (.ld 1 false) [v104] fun v105 =>
  Pu Try.prog .len [a2] fun v107 =>
  Pu Try.prog (.bin .eql 3) [v105, v107] fun v108 =>
  GdV v108 false (fun k_106 => k_106 a2 V_100) V_100 fun v110 V_107 =>
  GdV v108 false (fun k_109 => Pu Try.prog (.addOff 2) [v13] (fun a => k_109 a V_107)) V_107 fun v111 V_110 =>
  GdV v108 false (fun k_112 => Rd Try.prog V_110 (.ld 1 false) [v111] (fun a => k_112 a V_110)) V_110 fun v112 V_113 =>
  GdV v108 false (fun k_115 => Pu Try.prog (.idx 1) [v110, v112] (fun a => k_115 a V_113)) V_113 fun v113 V_116 =>
  GdV v108 false (fun k_118 => Rd Try.prog V_116 (.ld 1 false) [v113] (fun a => k_118 a V_116)) V_116 fun v114 V_119 =>
  GdV v108 false (fun k_121 => Pu Try.prog (.addOff 3) [v15] (fun a => k_121 a V_119)) V_119 fun v115 V_122 =>
  GdV v108 false (fun k_124 => Rd Try.prog V_122 (.ld 1 false) [v115] (fun a => k_124 a V_122)) V_122 fun v116 V_125 =>
  GdV v108 false (fun k_127 => Pu Try.prog (.bin .neq 3) [v114, v116] (fun a => k_127 a V_125)) V_125 fun v117 _ =>
  Pu Try.prog .pick [v108, (.p (.bool true)), v117] fun v118 =>
  CdA v118
    (
    Pu Try.prog (.bin .add 3) [(vs_49.getD 1 .any), (.p (.int .i64 1))] fun v149_130 =>
    k_48 [(vs_49.getD 0 .any), v149_130]
    ) (
    Rg 5 fun b_131 =>
    Pu Try.prog (.addOff 2) [v16] fun v119 =>
    RdS Try.prog (.ld 1 false) [v119] fun v120 =>
    Pu Try.prog (.bin .add 3) [v120, (.p (.int .i64 1))] fun v121 =>
    Pu Try.prog (.addOff 2) [v16] fun v122 =>
    WrS Try.prog (b_131 + 4) (.st 1) [v122, v121] fun _ =>
    k_68 []
    )
def S_machine_Cost_K3 (a2 : AV) (v49 : AV) (v13 : AV) (k_48 : List AV → AH → Prop) (vs_49 : List AV) (v15 : AV) (v16 : AV) (_vs_67 : List AV) : AH → Prop :=
  CutA Try.prog 0 (fun k_68 =>
    Pu Try.prog (.addOff 3) [v15] fun v101 =>
    RdS Try.prog (.ld 1 false) [v101] fun v102 =>
    Pu Try.prog (.bin .gtr 3) [v102, (.p (.int .i64 0))] fun v103 =>
    CdA v103
      (S_machine_Cost_C2 a2 v13 k_48 vs_49 v15 v16 k_68) (
      k_68 []
      )
    ) (S_machine_Cost_K1 v49 v13 k_48 vs_49 v15 v16)
def S_machine_Cost_C4 (a1 : AV) (v13 : AV) (k_48 : List AV → AH → Prop) (vs_49 : List AV) (v15 : AV) (v16 : AV) (k_66 : List AV → AH → Prop) : AH → Prop :=
  Vw fun V_140 =>
  Pu Try.prog (.addOff 1) [v13] fun v82 =>
  Rd Try.prog V_140 (.ld 1 false) [v82] fun v83 =>
  Pu Try.prog .len [a1] fun v85 =>
  Pu Try.prog (.bin .eql 3) [v83, v85] fun v86 =>
  GdV v86 false (fun k_146 => k_146 a1 V_140) V_140 fun v88 V_147 =>
  GdV v86 false (fun k_149 => Pu Try.prog (.addOff 1) [v13] (fun a => k_149 a V_147)) V_147 fun v89 V_150 =>
  GdV v86 false (fun k_152 => Rd Try.prog V_150 (.ld 1 false) [v89] (fun a => k_152 a V_150)) V_150 fun v90 V_153 =>
  GdV v86 false (fun k_155 => Pu Try.prog (.idx 1) [v88, v90] (fun a => k_155 a V_153)) V_153 fun v91 V_156 =>
  GdV v86 false (fun k_158 => Rd Try.prog V_156 (.ld 1 false) [v91] (fun a => k_158 a V_156)) V_156 fun v92 V_159 =>
  GdV v86 false (fun k_161 => Pu Try.prog (.addOff 2) [v15] (fun a => k_161 a V_159)) V_159 fun v93 V_162 =>
  GdV v86 false (fun k_164 => Rd Try.prog V_162 (.ld 1 false) [v93] (fun a => k_164 a V_162)) V_162 fun v94 V_165 =>
  GdV v86 false (fun k_167 => Pu Try.prog (.bin .neq 3) [v92, v94] (fun a => k_167 a V_165)) V_165 fun v95 _ =>
  Pu Try.prog .pick [v86, (.p (.bool true)), v95] fun v96 =>
  CdA v96
    (
    Pu Try.prog (.bin .add 3) [(vs_49.getD 1 .any), (.p (.int .i64 1))] fun v149_170 =>
    k_48 [(vs_49.getD 0 .any), v149_170]
    ) (
    Rg 5 fun b_171 =>
    Pu Try.prog (.addOff 1) [v16] fun v97 =>
    RdS Try.prog (.ld 1 false) [v97] fun v98 =>
    Pu Try.prog (.bin .add 3) [v98, (.p (.int .i64 1))] fun v99 =>
    Pu Try.prog (.addOff 1) [v16] fun v100 =>
    WrS Try.prog (b_171 + 4) (.st 1) [v100, v99] fun _ =>
    k_66 []
    )
def S_machine_Cost_C5 (a1 : AV) (a2 : AV) (v49 : AV) (v13 : AV) (v66 : AV) (k_48 : List AV → AH → Prop) (vs_49 : List AV) : AH → Prop :=
  Rg 4 fun b_51 =>
  Pu Try.prog (.idx 5) [v66, (vs_49.getD 1 .any)] fun v70 =>
  RdS Try.prog (.ld 5 true) [v70] fun v71 =>
  Al (b_51 + 2) (.nw 53 [.p (.int .i64 0), .p (.int .i64 0), .p (.int .i64 0), .p (.int .i64 0), .p (.int .i64 0)]) [] fun v15 =>
  WrS Try.prog (b_51 + 3) (.st 5) [v15, v71] fun _ =>
  Rg 9 fun b_56 =>
  Pu Try.prog (.addOff 1) [v15] fun v72 =>
  RdS Try.prog (.ld 1 false) [v72] fun v73 =>
  Pu Try.prog (.addOff 1) [v13] fun v74 =>
  RdS Try.prog (.ld 1 false) [v74] fun v75 =>
  Pu Try.prog (.addOff 2) [v13] fun v76 =>
  RdS Try.prog (.ld 1 false) [v76] fun v77 =>
  Pu Try.prog (.bld [.p (.int .i64 0), .p (.int .i64 0), .p (.int .i64 0)] [(0, 1), (1, 1), (2, 1)]) [v73, v75, v77] fun v78 =>
  Al (b_56 + 7) (.nw 62 [.p (.int .i64 0), .p (.int .i64 0), .p (.int .i64 0)]) [] fun v16 =>
  WrS Try.prog (b_56 + 8) (.st 3) [v16, v78] fun _ =>
  CutA Try.prog 0 (fun k_66 =>
    Pu Try.prog (.addOff 2) [v15] fun v79 =>
    RdS Try.prog (.ld 1 false) [v79] fun v80 =>
    Pu Try.prog (.bin .gtr 3) [v80, (.p (.int .i64 0))] fun v81 =>
    CdA v81
      (S_machine_Cost_C4 a1 v13 k_48 vs_49 v15 v16 k_66) (
      k_66 []
      )
    ) (S_machine_Cost_K3 a2 v49 v13 k_48 vs_49 v15 v16)
def S_machine_Cost_L6 (a1 : AV) (a2 : AV) (v49 : AV) (k_33 : List AV → AH → Prop) (v13 : AV) (v66 : AV) (v67 : AV) (vs_49 : List AV) (k_48 : List AV → AH → Prop) : AH → Prop :=
  Pu Try.prog (.bin .lss 3) [(vs_49.getD 1 .any), v67] fun v69 =>
  CdA v69
    (S_machine_Cost_C5 a1 a2 v49 v13 v66 k_48 vs_49) (
    k_33 [(vs_49.getD 0 .any)]
    )
def S_machine_Cost_C7 (a1 : AV) (a2 : AV) (v49 : AV) (v151 : AV) (k_180 : List AV → AH → Prop) (vs_181 : List AV) : AH → Prop :=
  Rg 4 fun b_183 =>
  Pu Try.prog (.idx 2) [v151, (vs_181.getD 2 .any)] fun v155 =>
  RdS Try.prog (.ld 2 true) [v155] fun v156 =>
  Al (b_183 + 2) (.nw 56 [.p (.int .i64 0), .p (.int .i64 0)]) [] fun v23 =>
  WrS Try.prog (b_183 + 3) (.st 2) [v23, v156] fun _ =>
  Pu Try.prog (.addOff 0) [v23] fun v159 =>
  RdS Try.prog (.ld 1 false) [v159] fun v160 =>
  Pu Try.prog .len [a1] fun v162 =>
  Pu Try.prog .len [a2] fun v164 =>
  Pu Try.prog (.bld [.p (.int .i64 0), .p (.int .i64 0), .p (.int .i64 0)] [(0, 1), (1, 1), (2, 1)]) [v160, v162, v164] fun v165 =>
  RdS Try.prog (.look 62 (.p (.int .i64 0)) true) [v49, v165] fun v166 =>
  Pu Try.prog (.ext 0) [v166] fun v167 =>
  Pu Try.prog (.ext 1) [v166] fun v168 =>
  Gd v168 true (fun k_197 => k_197 (vs_181.getD 1 .any)) fun v171 =>
  Gd v168 true (fun k_199 => Pu Try.prog (.un .not) [v171] k_199) fun v172 =>
  Gd v168 true (fun k_201 => k_201 v172) fun v173 =>
  Gd v173 false (fun k_203 => k_203 v167) fun v174 =>
  Gd v173 false (fun k_205 => Pu Try.prog (.addOff 1) [v23] k_205) fun v175 =>
  Gd v173 false (fun k_207 => RdS Try.prog (.ld 1 false) [v175] k_207) fun v176 =>
  Gd v173 false (fun k_209 => Pu Try.prog (.bin .add 3) [v174, v176] k_209) fun v177 =>
  Gd v173 false (fun k_211 => k_211 (vs_181.getD 0 .any)) fun v178 =>
  Gd v173 false (fun k_213 => Pu Try.prog (.bin .lss 3) [v177, v178] k_213) fun v179 =>
  Gd v168 true (fun k_215 => Pu Try.prog .pick [v173, (.p (.bool true)), v179] k_215) fun v180 =>
  Pu Try.prog .pick [v168, v180, (.p (.bool false))] fun v181 =>
  CdA v181
    (
    Pu Try.prog (.addOff 1) [v23] fun v183 =>
    RdS Try.prog (.ld 1 false) [v183] fun v184 =>
    Pu Try.prog (.bin .add 3) [v167, v184] fun v185 =>
    Pu Try.prog (.bin .add 3) [(vs_181.getD 2 .any), (.p (.int .i64 1))] fun v186 =>
    k_180 [v185, (.p (.bool true)), v186]
    ) (
    Pu Try.prog (.bin .add 3) [(vs_181.getD 2 .any), (.p (.int .i64 1))] fun v186_221 =>
    k_180 [(vs_181.getD 0 .any), (vs_181.getD 1 .any), v186_221]
    )
def S_machine_Cost_L8 (a1 : AV) (a2 : AV) (Q : AV → AH → Prop) (H : AH) (v49 : AV) (v151 : AV) (v152 : AV) (vs_181 : List AV) (k_180 : List AV → AH → Prop) : AH → Prop :=
  Pu Try.prog (.bin .lss 3) [(vs_181.getD 2 .any), v152] fun v154 =>
  CdA v154
    (S_machine_Cost_C7 a1 a2 v49 v151 k_180 vs_181) (
    Rt Try.prog H.nx (.tup [(vs_181.getD 0 .any), (vs_181.getD 1 .any), (.p (.int .i64 0))]) Q
    )
def S_machine_Cost_L9 (a1 : AV) (a2 : AV) (Q : AV → AH → Prop) (H : AH) (v3 : AV) (v48 : AV) (v49 : AV) (vs : List AV) (k_33 : List AV → AH → Prop) : AH → Prop :=
  Pu Try.prog .len [(vs.getD 0 .any)] fun v55 =>
  Pu Try.prog (.bin .gtr 3) [v55, (.p (.int .i64 0))] fun v56 =>
  CdA v56
    (
    Rg 5 fun b_37 =>
    Pu Try.prog (.idx 3) [(vs.getD 0 .any), (.p (.int .i64 0))] fun v58 =>
    RdS Try.prog (.ld 3 true) [v58] fun v59 =>
    Al (b_37 + 3) (.nw 62 [.p (.int .i64 0), .p (.int .i64 0), .p (.int .i64 0)]) [] fun v13 =>
    WrS Try.prog (b_37 + 4) (.st 3) [v13, v59] fun _ =>
    Pu Try.prog (.slc 3 true false) [(vs.getD 0 .any), (.p (.int .i64 1))] fun v61 =>
    Pu Try.prog (.addOff 0) [v13] fun v63 =>
    RdS Try.prog (.ld 1 false) [v63] fun v64 =>
    Pu Try.prog (.idx 1) [v48, v64] fun v65 =>
    RdS Try.prog (.ld 1 false) [v65] fun v66 =>
    Pu Try.prog .len [v66] fun v67 =>
    LoopA Try.prog 2 (S_machine_Cost_L6 a1 a2 v49 k_33 v13 v66 v67) [v61, (.p (.int .i64 0))]
    ) (
    Pu Try.prog (.addOff 2) [v3] fun v150 =>
    RdS Try.prog (.ld 1 false) [v150] fun v151 =>
    Pu Try.prog .len [v151] fun v152 =>
    LoopA Try.prog 3 (S_machine_Cost_L8 a1 a2 Q H v49 v151 v152) [(.p (.int .i64 0)), (.p (.bool false)), (.p (.int .i64 0))]
    )
def S_machine_Cost_C10 (a1 : AV) (a2 : AV) (Q : AV → AH → Prop) (H : AH) (v3 : AV) : AH → Prop :=
  Pu Try.prog .len [a1] fun v32 =>
  Pu Try.prog (.bin .gtr 3) [v32, (.p (.int .i64 60))] fun v33 =>
  Gd v33 false (fun k => k a2) fun v35 =>
  Gd v33 false (fun k_11 => Pu Try.prog .len [v35] k_11) fun v36 =>
  Gd v33 false (fun k_13 => Pu Try.prog (.bin .gtr 3) [v36, (.p (.int .i64 60))] k_13) fun v37 =>
  Pu Try.prog .pick [v33, (.p (.bool true)), v37] fun v38 =>
  CdA v38
    (
    Rt Try.prog H.nx (.tup [(.p (.int .i64 0)), (.p (.bool false)), (.p (.int .i64 2))]) Q
    ) (
    Ca Try.prog (.fn (.func 35) [] []) [a1] fun v40 =>
    Pu Try.prog (.un .not) [v40] fun v41 =>
    Gd v41 false (fun k_18 => k_18 a2) fun v43 =>
    Gd v41 false (fun k_20 => Ca Try.prog (.fn (.func 35) [] []) [v43] k_20) fun v44 =>
    Gd v41 false (fun k_22 => Pu Try.prog (.un .not) [v44] k_22) fun v45 =>
    Pu Try.prog .pick [v41, (.p (.bool true)), v45] fun v46 =>
    CdA v46
      (
      Rt Try.prog H.nx (.tup [(.p (.int .i64 0)), (.p (.bool false)), (.p (.int .i64 3))]) Q
      ) (
      RdS Try.prog (.ld 3 true) [v3] fun v47 =>
      Ca Try.prog (.fn (.func 36) [] []) [v47] fun v48 =>
      Rg 5 fun b_26 =>
      Al (b_26 + 0) (.mm 62) [] fun v49 =>
      Pu Try.prog (.bld [.p (.int .i64 0), .p (.int .i64 0), .p (.int .i64 0)] []) [] fun v50 =>
      WrS Try.prog (b_26 + 2) (.mset 62) [v49, v50, (.p (.int .i64 0))] fun _ =>
      Rg 3 fun b_30 =>
      Pu Try.prog (.bld [.p (.int .i64 0), .p (.int .i64 0), .p (.int .i64 0)] []) [] fun v52 =>
      Al (b_30 + 1) (.bs 62 3 1 [.p (.int .i64 0), .p (.int .i64 0), .p (.int .i64 0)] [(0, 3)]) [v52] fun v53 =>
      LoopA Try.prog 1 (S_machine_Cost_L9 a1 a2 Q H v3 v48 v49) [v53]
      )
    )
def S_machine_Cost (a0 a1 a2 : AV) (Q : AV → AH → Prop) (H : AH) : Prop := (
    Rg 4 fun b =>
    Al (b + 0) (.bx 25) [a0] fun v3 =>
    RdS Try.prog (.ld 3 true) [v3] fun v26 =>
    Ca Try.prog (.fn (.func 8) [] []) [v26] fun v27 =>
    Pu Try.prog (.bin .neq 28) [v27, (.p (.int .i64 0))] fun v29 =>
    CdA v29
      (
      Rt Try.prog H.nx (.tup [(.p (.int .i64 0)), (.p (.bool false)), v27]) Q
      ) (S_machine_Cost_C10 a1 a2 Q H v3)
    ) H
theorem eq_machine_Cost (a0 a1 a2 : AV) (Q : AV → AH → Prop) (H : AH) : FnA Try.prog 189 (regsF Try.f11) ac_machine_Cost [.tm 6, .tm 7, .tm 8] [a0, a1, a2] H Q = S_machine_Cost a0 a1 a2 Q H := by kernel_rfl
theorem tri_machine_Cost {a0 a1 a2 : AV} {H : AH} {Q : AV → AH → Prop} (h : S_machine_Cost a0 a1 a2 Q H) : Tri Try.prog 11 [a0, a1, a2] H Q :=
  tri_of (Ms := [#[], #[], #[], #[], #[], #[], #[], #[], #[], #[], #[], #[], #[], #[], #[], #[], #[], #[], #[], #[0, 1, 0, 4, 15, 31, 63, 63, 191, 511, 1023, 63, 2111, 8191, 16383], #[], #[], #[0, 1, 0, 4, 15, 31, 63, 63, 191, 511, 1023, 63, 2111, 8191, 16383], #[], #[0, 0, 3, 0, 8, 31, 63], #[], #[], #[], #[], #[], #[], #[], #[], #[], #[], #[], #[], #[], #[]]) mixed Try.func11 rfl (by kernel_rfl) (by kernel_rfl) rfl (of_decide_eq_true rfl : 3 ≤ 189) (by rw [eq_machine_Cost a0 a1 a2 Q H]; exact h : FnA Try.prog 189 (regsF Try.f11) ac_machine_Cost [.tm 6, .tm 7, .tm 8] [a0, a1, a2] H Q)

/-! wordhoard/machine.Check$1 -/
def ac_machine_Check_fn1 : AC := (.seq (.reg 0) (.seq (.reg 1) .ret))
def S_machine_Check_fn1 (a0 a1 : AV) (Q : AV → AH → Prop) (H : AH) : Prop := (
    Pu Try.prog (.bin .geq 3) [a0, (.p (.int .i64 0))] fun v5 =>
    Gd v5 true (fun k => k a0) fun v7 =>
    Gd v5 true (fun k_5 => Pu Try.prog (.addOff 0) [a1] k_5) fun v8 =>
    Gd v5 true (fun k_7 => RdS Try.prog (.ld 1 false) [v8] k_7) fun v9 =>
    Gd v5 true (fun k_9 => Pu Try.prog (.bin .lss 3) [v7, v9] k_9) fun v10 =>
    Pu Try.prog .pick [v5, v10, (.p (.bool false))] fun v11 =>
    Rt Try.prog H.nx v11 Q
    ) H
theorem eq_machine_Check_fn1 (a0 a1 : AV) (Q : AV → AH → Prop) (H : AH) : FnA Try.prog 12 (regsF Try.f32) ac_machine_Check_fn1 [.tm 3] [a0, a1] H Q = S_machine_Check_fn1 a0 a1 Q H := by kernel_rfl
theorem tri_machine_Check_fn1 {a0 a1 : AV} {H : AH} {Q : AV → AH → Prop} (h : S_machine_Check_fn1 a0 a1 Q H) : Tri Try.prog 32 [a0, a1] H Q :=
  tri_of (Ms := [#[], #[]]) mixed Try.func32 rfl (by kernel_rfl) (by kernel_rfl) rfl (of_decide_eq_true rfl : 2 ≤ 12) (by rw [eq_machine_Check_fn1 a0 a1 Q H]; exact h : FnA Try.prog 12 (regsF Try.f32) ac_machine_Check_fn1 [.tm 3] [a0, a1] H Q)

/-! wordhoard/machine.Check$2 -/
def ac_machine_Check_fn2 : AC := (.seq (.reg 0) (.seq (.reg 1) .ret))
def S_machine_Check_fn2 (a0 : AV) (Q : AV → AH → Prop) (H : AH) : Prop := (
    Pu Try.prog (.bin .geq 3) [a0, (.p (.int .i64 0))] fun v4 =>
    Gd v4 true (fun k => k a0) fun v6 =>
    Gd v4 true (fun k_5 => Pu Try.prog (.bin .leq 3) [v6, (.p (.int .i64 60))] k_5) fun v7 =>
    Pu Try.prog .pick [v4, v7, (.p (.bool false))] fun v8 =>
    Rt Try.prog H.nx v8 Q
    ) H
theorem eq_machine_Check_fn2 (a0 : AV) (Q : AV → AH → Prop) (H : AH) : FnA Try.prog 9 (regsF Try.f33) ac_machine_Check_fn2 [.tm 2] [a0] H Q = S_machine_Check_fn2 a0 Q H := by kernel_rfl
theorem tri_machine_Check_fn2 {a0 : AV} {H : AH} {Q : AV → AH → Prop} (h : S_machine_Check_fn2 a0 Q H) : Tri Try.prog 33 [a0] H Q :=
  tri_of (Ms := [#[], #[]]) mixed Try.func33 rfl (by kernel_rfl) (by kernel_rfl) rfl (of_decide_eq_true rfl : 1 ≤ 9) (by rw [eq_machine_Check_fn2 a0 Q H]; exact h : FnA Try.prog 9 (regsF Try.f33) ac_machine_Check_fn2 [.tm 2] [a0] H Q)

/-! wordhoard/machine.Check$3 -/
def ac_machine_Check_fn3 : AC := (.seq (.reg 0) (.seq (.reg 1) .ret))
def S_machine_Check_fn3 (a0 : AV) (Q : AV → AH → Prop) (H : AH) : Prop := (
    Pu Try.prog (.bin .geq 3) [a0, (.p (.int .i64 0))] fun v4 =>
    Gd v4 true (fun k => k a0) fun v6 =>
    Gd v4 true (fun k_5 => Pu Try.prog (.bin .leq 3) [v6, (.p (.int .i64 1000000))] k_5) fun v7 =>
    Pu Try.prog .pick [v4, v7, (.p (.bool false))] fun v8 =>
    Rt Try.prog H.nx v8 Q
    ) H
theorem eq_machine_Check_fn3 (a0 : AV) (Q : AV → AH → Prop) (H : AH) : FnA Try.prog 9 (regsF Try.f34) ac_machine_Check_fn3 [.tm 2] [a0] H Q = S_machine_Check_fn3 a0 Q H := by kernel_rfl
theorem tri_machine_Check_fn3 {a0 : AV} {H : AH} {Q : AV → AH → Prop} (h : S_machine_Check_fn3 a0 Q H) : Tri Try.prog 34 [a0] H Q :=
  tri_of (Ms := [#[], #[]]) mixed Try.func34 rfl (by kernel_rfl) (by kernel_rfl) rfl (of_decide_eq_true rfl : 1 ≤ 9) (by rw [eq_machine_Check_fn3 a0 Q H]; exact h : FnA Try.prog 9 (regsF Try.f34) ac_machine_Check_fn3 [.tm 2] [a0] H Q)

/-! wordhoard/machine.spoken -/
def ac_machine_spoken : AC := (.seq (.reg 0) (.seq (.reg 1) .ret))
def S_machine_spoken (a0 : AV) (Q : AV → AH → Prop) (H : AH) : Prop := (
    Ca Try.prog (.fn (.func 54) [] []) [a0, (.fn (.func 55) [] [])] fun v4 =>
    Pu Try.prog (.un .not) [v4] fun v5 =>
    Rt Try.prog H.nx v5 Q
    ) H
theorem eq_machine_spoken (a0 : AV) (Q : AV → AH → Prop) (H : AH) : FnA Try.prog 6 (regsF Try.f35) ac_machine_spoken [.tm 2] [a0] H Q = S_machine_spoken a0 Q H := by kernel_rfl
theorem tri_machine_spoken {a0 : AV} {H : AH} {Q : AV → AH → Prop} (h : S_machine_spoken a0 Q H) : Tri Try.prog 35 [a0] H Q :=
  tri_of (Ms := [#[], #[]]) mixed Try.func35 rfl (by kernel_rfl) (by kernel_rfl) rfl (of_decide_eq_true rfl : 1 ≤ 6) (by rw [eq_machine_spoken a0 Q H]; exact h : FnA Try.prog 6 (regsF Try.f35) ac_machine_spoken [.tm 2] [a0] H Q)

/-! wordhoard/machine.from -/
def ac_machine_from : AC := (.seq (.reg 0) (.seq (.reg 1) (.seq (.seq (.reg 2) (.block 0 (.loop [12] [(5, 6), (13, 29)] (.seq (.reg 3) (.seq (.cond (.tmp 13) .skip (.exit 0)) (.seq (.block 1 (.seq (.reg 4) (.reg 5))) (.reg 6))))))) (.seq (.reg 7) .ret))))
def S_machine_from_L1 (Q : AV → AH → Prop) (H : AH) (v8 : AV) (v10 : AV) (v11 : AV) (vs : List AV) (k : List AV → AH → Prop) : AH → Prop :=
  Pu Try.prog (.bin .lss 3) [(vs.getD 0 .any), v11] fun v13 =>
  CdA v13
    (
    Rg 4 fun b_13 =>
    Pu Try.prog (.idx 5) [v10, (vs.getD 0 .any)] fun v14 =>
    RdS Try.prog (.ld 5 true) [v14] fun v15 =>
    Al (b_13 + 2) (.nw 53 [.p (.int .i64 0), .p (.int .i64 0), .p (.int .i64 0), .p (.int .i64 0), .p (.int .i64 0)]) [] fun v5 =>
    WrS Try.prog (b_13 + 3) (.st 5) [v5, v15] fun _ =>
    Rg 13 fun b_18 =>
    VwD fun V =>
    Pu Try.prog (.addOff 0) [v5] fun v17 =>
    Rd Try.prog V (.ld 1 false) [v17] fun v18 =>
    Pu Try.prog (.addOff 0) [v5] fun v20 =>
    Rd Try.prog V (.ld 1 false) [v20] fun v21 =>
    Pu Try.prog (.idx 1) [v8, v21] fun v22 =>
    Rd Try.prog V (.ld 1 false) [v22] fun v23 =>
    Rd Try.prog V (.ld 5 true) [v5] fun v24 =>
    Al (b_18 + 9) (.bs 53 5 1 [.p (.int .i64 0), .p (.int .i64 0), .p (.int .i64 0), .p (.int .i64 0), .p (.int .i64 0)] [(0, 5)]) [v24] fun v25 =>
    WrO V b_18 (some (b_18 + 9)) (b_18 + 10) (.app 53 5 40) [v23, v25] fun v26 =>
    Pu Try.prog (.idx 1) [v8, v18] fun v27 =>
    Wr Try.prog (b_18 + 12) (.st 1) [v27, v26] fun _ _ =>
    Pu Try.prog (.bin .add 3) [(vs.getD 0 .any), (.p (.int .i64 1))] fun v28 =>
    k [v28]
    ) (
    Rt Try.prog H.nx v8 Q
    )
def S_machine_from (a0 : AV) (Q : AV → AH → Prop) (H : AH) : Prop := (
    Rg 2 fun b =>
    Al (b + 0) (.bx 25) [a0] fun v1 =>
    Rg 4 fun b_3 =>
    Pu Try.prog (.addOff 0) [v1] fun v6 =>
    RdS Try.prog (.ld 1 false) [v6] fun v7 =>
    Al (b_3 + 2) (.ms 22 1 24 [.p (.slice none 0 0)]) [v7, v7] fun v8 =>
    Pu Try.prog (.addOff 1) [v1] fun v9 =>
    RdS Try.prog (.ld 1 false) [v9] fun v10 =>
    Pu Try.prog .len [v10] fun v11 =>
    LoopA Try.prog 1 (S_machine_from_L1 Q H v8 v10 v11) [(.p (.int .i64 0))]
    ) H
theorem eq_machine_from (a0 : AV) (Q : AV → AH → Prop) (H : AH) : FnA Try.prog 30 (regsF Try.f36) ac_machine_from [.tm 2] [a0] H Q = S_machine_from a0 Q H := by kernel_rfl
theorem tri_machine_from {a0 : AV} {H : AH} {Q : AV → AH → Prop} (h : S_machine_from a0 Q H) : Tri Try.prog 36 [a0] H Q :=
  tri_of (Ms := [#[], #[], #[], #[], #[], #[0, 0, 2, 0, 0, 16, 56, 120, 0, 256, 1016, 2047, 4095], #[], #[]]) mixed Try.func36 rfl (by kernel_rfl) (by kernel_rfl) rfl (of_decide_eq_true rfl : 1 ≤ 30) (by rw [eq_machine_from a0 Q H]; exact h : FnA Try.prog 30 (regsF Try.f36) ac_machine_from [.tm 2] [a0] H Q)

/-! wordhoard/machine.both -/
def ac_machine_both : AC := (.seq (.reg 0) (.seq (.seq (.reg 1) (.seq (.reg 2) (.cond (.tmp 9) (.seq (.reg 3) .ret) .skip))) (.seq (.reg 4) .ret)))
def S_machine_both (a0 a1 : AV) (Q : AV → AH → Prop) (H : AH) : Prop := (
    Rg 3 fun b =>
    Al (b + 0) (.bx 25) [a0] fun v2 =>
    Al (b + 1) (.bx 25) [a1] fun v3 =>
    RdS Try.prog (.ld 3 true) [v2] fun v6 =>
    Ca Try.prog (.fn (.func 8) [] []) [v6] fun v7 =>
    Pu Try.prog (.bin .neq 28) [v7, (.p (.int .i64 0))] fun v9 =>
    CdA v9
      (
      Rt Try.prog H.nx v7 Q
      ) (
      RdS Try.prog (.ld 3 true) [v3] fun v11 =>
      Ca Try.prog (.fn (.func 8) [] []) [v11] fun v12 =>
      Rt Try.prog H.nx v12 Q
      )
    ) H
theorem eq_machine_both (a0 a1 : AV) (Q : AV → AH → Prop) (H : AH) : FnA Try.prog 13 (regsF Try.f39) ac_machine_both [.tm 4] [a0, a1] H Q = S_machine_both a0 a1 Q H := by kernel_rfl
theorem tri_machine_both {a0 a1 : AV} {H : AH} {Q : AV → AH → Prop} (h : S_machine_both a0 a1 Q H) : Tri Try.prog 39 [a0, a1] H Q :=
  tri_of (Ms := [#[], #[], #[], #[], #[]]) mixed Try.func39 rfl (by kernel_rfl) (by kernel_rfl) rfl (of_decide_eq_true rfl : 2 ≤ 13) (by rw [eq_machine_both a0 a1 Q H]; exact h : FnA Try.prog 13 (regsF Try.f39) ac_machine_both [.tm 4] [a0, a1] H Q)

/-! wordhoard/machine.symbols -/
def ac_machine_symbols : AC := (.seq (.reg 0) (.seq (.seq (.reg 1) (.cond (.tmp 5) (.seq (.reg 2) .ret) .skip)) (.seq (.reg 3) .ret)))
def S_machine_symbols (a0 : AV) (Q : AV → AH → Prop) (H : AH) : Prop := (
    Pu Try.prog .len [a0] fun v4 =>
    Pu Try.prog (.bin .gtr 3) [v4, (.p (.int .i64 60))] fun v5 =>
    CdA v5
      (
      Rt Try.prog H.nx (.p (.int .i64 2)) Q
      ) (
      Rt Try.prog H.nx (.p (.int .i64 0)) Q
      )
    ) H
theorem eq_machine_symbols (a0 : AV) (Q : AV → AH → Prop) (H : AH) : FnA Try.prog 6 (regsF Try.f48) ac_machine_symbols [.tm 2] [a0] H Q = S_machine_symbols a0 Q H := by kernel_rfl
theorem tri_machine_symbols {a0 : AV} {H : AH} {Q : AV → AH → Prop} (h : S_machine_symbols a0 Q H) : Tri Try.prog 48 [a0] H Q :=
  tri_of (Ms := [#[], #[], #[], #[]]) mixed Try.func48 rfl (by kernel_rfl) (by kernel_rfl) rfl (of_decide_eq_true rfl : 1 ≤ 6) (by rw [eq_machine_symbols a0 Q H]; exact h : FnA Try.prog 6 (regsF Try.f48) ac_machine_symbols [.tm 2] [a0] H Q)

/-! wordhoard/machine.spoken$1 -/
def ac_machine_spoken_fn1 : AC := (.seq (.reg 0) (.seq (.reg 1) .ret))
def S_machine_spoken_fn1 (a0 : AV) (Q : AV → AH → Prop) (H : AH) : Prop := (
    Pu Try.prog (.bin .lss 3) [a0, (.p (.int .i64 1))] fun v4 =>
    Gd v4 false (fun k => k a0) fun v6 =>
    Gd v4 false (fun k_5 => Pu Try.prog (.bin .gtr 3) [v6, (.p (.int .i64 60))] k_5) fun v7 =>
    Pu Try.prog .pick [v4, (.p (.bool true)), v7] fun v8 =>
    Rt Try.prog H.nx v8 Q
    ) H
theorem eq_machine_spoken_fn1 (a0 : AV) (Q : AV → AH → Prop) (H : AH) : FnA Try.prog 9 (regsF Try.f55) ac_machine_spoken_fn1 [.tm 2] [a0] H Q = S_machine_spoken_fn1 a0 Q H := by kernel_rfl
theorem tri_machine_spoken_fn1 {a0 : AV} {H : AH} {Q : AV → AH → Prop} (h : S_machine_spoken_fn1 a0 Q H) : Tri Try.prog 55 [a0] H Q :=
  tri_of (Ms := [#[], #[]]) mixed Try.func55 rfl (by kernel_rfl) (by kernel_rfl) rfl (of_decide_eq_true rfl : 1 ≤ 9) (by rw [eq_machine_spoken_fn1 a0 Q H]; exact h : FnA Try.prog 9 (regsF Try.f55) ac_machine_spoken_fn1 [.tm 2] [a0] H Q)

/-! (*wordhoard/machine.outer).reads -/
def ac_outer_reads : AC := (.seq (.reg 0) (.seq (.seq (.reg 1) (.cond (.tmp 10) (.seq (.reg 2) .ret) .skip)) (.seq (.seq (.reg 3) (.cond (.tmp 36) (.seq (.reg 4) .ret) .skip)) (.seq (.reg 5) .ret))))
def S_outer_reads_C1 (a0 : AV) (Q : AV → AH → Prop) (H : AH) (v4 : AV) (v5 : AV) (v6 : AV) : AH → Prop :=
  Vw fun V =>
  Pu Try.prog (.addOff 1) [v4] fun v16 =>
  Rd Try.prog V (.ld 1 false) [v16] fun v17 =>
  Pu Try.prog .nilck [a0] fun v19 =>
  Pu Try.prog (.addOff 1) [v19] fun v20 =>
  Rd Try.prog V (.ld 1 false) [v20] fun v21 =>
  Pu Try.prog .len [v21] fun v22 =>
  Pu Try.prog (.bin .lss 3) [v17, v22] fun v23 =>
  GdV v23 true (fun k => k a0 V) V fun v25 V_26 =>
  GdV v23 true (fun k_28 => Pu Try.prog .nilck [v25] (fun a => k_28 a V_26)) V_26 fun v26 V_29 =>
  GdV v23 true (fun k_31 => Pu Try.prog (.addOff 1) [v26] (fun a => k_31 a V_29)) V_29 fun v27 V_32 =>
  GdV v23 true (fun k_34 => Rd Try.prog V_32 (.ld 1 false) [v27] (fun a => k_34 a V_32)) V_32 fun v28 V_35 =>
  GdV v23 true (fun k_37 => Pu Try.prog (.addOff 1) [v4] (fun a => k_37 a V_35)) V_35 fun v29 V_38 =>
  GdV v23 true (fun k_40 => Rd Try.prog V_38 (.ld 1 false) [v29] (fun a => k_40 a V_38)) V_38 fun v30 V_41 =>
  GdV v23 true (fun k_43 => Pu Try.prog (.idx 1) [v28, v30] (fun a => k_43 a V_41)) V_41 fun v31 V_44 =>
  GdV v23 true (fun k_46 => Rd Try.prog V_44 (.ld 1 false) [v31] (fun a => k_46 a V_44)) V_44 fun v32 V_47 =>
  GdV v23 true (fun k_49 => Pu Try.prog (.addOff 2) [v5] (fun a => k_49 a V_47)) V_47 fun v33 V_50 =>
  GdV v23 true (fun k_52 => Rd Try.prog V_50 (.ld 1 false) [v33] (fun a => k_52 a V_50)) V_50 fun v34 V_53 =>
  GdV v23 true (fun k_55 => Pu Try.prog (.bin .eql 3) [v32, v34] (fun a => k_55 a V_53)) V_53 fun v35 _ =>
  Pu Try.prog .pick [v23, v35, (.p (.bool false))] fun v36 =>
  CdA v36
    (
    Rg 8 fun b_58 =>
    Pu Try.prog (.addOff 1) [v5] fun v37 =>
    RdS Try.prog (.ld 1 false) [v37] fun v38 =>
    Pu Try.prog (.addOff 1) [v4] fun v39 =>
    RdS Try.prog (.ld 1 false) [v39] fun v40 =>
    Pu Try.prog (.bin .add 3) [v40, (.p (.int .i64 1))] fun v41 =>
    Pu Try.prog (.bld [.p (.int .i64 0), .p (.int .i64 0)] [(0, 1), (1, 1)]) [v38, v41] fun v42 =>
    WrS Try.prog (b_58 + 6) (.st 2) [v6, v42] fun _ =>
    RdS Try.prog (.ld 2 true) [v6] fun r6_66 =>
    Rt Try.prog H.nx (.tup [r6_66, (.p (.bool true))]) Q
    ) (
    Rg 3 fun b_67 =>
    Pu Try.prog (.bld [.p (.int .i64 0), .p (.int .i64 0)] []) [] fun v43 =>
    WrS Try.prog (b_67 + 1) (.st 2) [v6, v43] fun _ =>
    RdS Try.prog (.ld 2 true) [v6] fun r6_70 =>
    Rt Try.prog H.nx (.tup [r6_70, (.p (.bool false))]) Q
    )
def S_outer_reads (a0 a1 a2 : AV) (Q : AV → AH → Prop) (H : AH) : Prop := (
    Rg 4 fun b =>
    Al (b + 0) (.bx 91) [a1] fun v4 =>
    Al (b + 1) (.bx 53) [a2] fun v5 =>
    Al (b + 2) (.nw 91 [.p (.int .i64 0), .p (.int .i64 0)]) [] fun v6 =>
    Pu Try.prog (.addOff 2) [v5] fun v8 =>
    RdS Try.prog (.ld 1 false) [v8] fun v9 =>
    Pu Try.prog (.bin .eql 3) [v9, (.p (.int .i64 0))] fun v10 =>
    CdA v10
      (
      Rg 7 fun b_8 =>
      Pu Try.prog (.addOff 1) [v5] fun v11 =>
      RdS Try.prog (.ld 1 false) [v11] fun v12 =>
      Pu Try.prog (.addOff 1) [v4] fun v13 =>
      RdS Try.prog (.ld 1 false) [v13] fun v14 =>
      Pu Try.prog (.bld [.p (.int .i64 0), .p (.int .i64 0)] [(0, 1), (1, 1)]) [v12, v14] fun v15 =>
      WrS Try.prog (b_8 + 5) (.st 2) [v6, v15] fun _ =>
      RdS Try.prog (.ld 2 true) [v6] fun r6 =>
      Rt Try.prog H.nx (.tup [r6, (.p (.bool true))]) Q
      ) (S_outer_reads_C1 a0 Q H v4 v5 v6)
    ) H
theorem eq_outer_reads (a0 a1 a2 : AV) (Q : AV → AH → Prop) (H : AH) : FnA Try.prog 44 (regsF Try.f52) ac_outer_reads [.ce 6 91, .tm 7] [a0, a1, a2] H Q = S_outer_reads a0 a1 a2 Q H := by kernel_rfl
theorem tri_outer_reads {a0 a1 a2 : AV} {H : AH} {Q : AV → AH → Prop} (h : S_outer_reads a0 a1 a2 Q H) : Tri Try.prog 52 [a0, a1, a2] H Q :=
  tri_of (Ms := [#[], #[], #[], #[0, 1, 0, 4, 12, 28, 60, 127, 255, 511, 1023, 2047, 4095, 511, 8703, 32767, 65535, 511, 131583, 524287, 1048575], #[], #[]]) mixed Try.func52 rfl (by kernel_rfl) (by kernel_rfl) rfl (of_decide_eq_true rfl : 3 ≤ 44) (by rw [eq_outer_reads a0 a1 a2 Q H]; exact h : FnA Try.prog 44 (regsF Try.f52) ac_outer_reads [.ce 6 91, .tm 7] [a0, a1, a2] H Q)

/-! (*wordhoard/machine.outer).quiet -/
def ac_outer_quiet : AC := (.seq (.reg 0) (.seq (.reg 1) (.seq (.reg 2) (.seq (.seq (.reg 3) (.block 0 (.loop [6] [(7, 8), (16, 26)] (.seq (.reg 4) (.seq (.cond (.tmp 17) .skip (.exit 0)) (.block 1 (.seq (.reg 5) (.seq (.reg 6) (.reg 7))))))))) (.seq (.block 2 (.loop [6] [(8, 9), (10, 13), (26, 79)] (.seq (.seq (.reg 8) (.cond (.tmp 28) .skip (.exit 2))) (.block 3 (.seq (.reg 9) (.seq (.reg 10) (.seq (.reg 11) (.block 4 (.loop [6, 49] [(10, 13), (50, 79)] (.seq (.reg 12) (.seq (.cond (.tmp 50) .skip (.exit 4)) (.seq (.block 5 (.seq (.reg 13) (.seq (.reg 14) (.seq (.reg 15) (.cond (.tmp 71) (.seq (.reg 16) (.reg 17)) .skip))))) (.reg 18))))))))))))) (.seq (.reg 19) .ret))))))
def S_outer_quiet_C1 (a0 : AV) (v13 : AV) (v8 : AV) (v47 : AV) (k_45 : List AV → AH → Prop) (vs_46 : List AV) : AH → Prop :=
  Rg 4 fun b_48 =>
  Pu Try.prog (.idx 5) [v47, (vs_46.getD 1 .any)] fun v51 =>
  RdS Try.prog (.ld 5 true) [v51] fun v52 =>
  Al (b_48 + 2) (.nw 53 [.p (.int .i64 0), .p (.int .i64 0), .p (.int .i64 0), .p (.int .i64 0), .p (.int .i64 0)]) [] fun v10 =>
  WrS Try.prog (b_48 + 3) (.st 5) [v10, v52] fun _ =>
  Rg 10 fun b_53 =>
  RdS Try.prog (.ld 2 true) [v8] fun v55 =>
  RdS Try.prog (.ld 5 true) [v10] fun v56 =>
  Ca Try.prog (.fn (.func 52) [] []) [a0, v55, v56] fun v57 =>
  Pu Try.prog (.ext 0) [v57] fun v58 =>
  Pu Try.prog (.ext 1) [v57] fun v59 =>
  Al (b_53 + 7) (.nw 91 [.p (.int .i64 0), .p (.int .i64 0)]) [] fun v11 =>
  WrS Try.prog (b_53 + 8) (.st 2) [v11, v58] fun _ =>
  Gd v59 true (fun k_62 => Pu Try.prog (.addOff 3) [v10] k_62) fun v62 =>
  Gd v59 true (fun k_64 => RdS Try.prog (.ld 1 false) [v62] k_64) fun v63 =>
  Gd v59 true (fun k_66 => Pu Try.prog (.bin .eql 3) [v63, (.p (.int .i64 0))] k_66) fun v64 =>
  Pu Try.prog .pick [v59, v64, (.p (.bool false))] fun v65 =>
  Gd v65 true (fun k_69 => k_69 v13) fun v67 =>
  Gd v65 true (fun k_71 => RdS Try.prog (.ld 2 true) [v11] k_71) fun v68 =>
  Gd v65 true (fun k_73 => RdS Try.prog (.look 91 (.p (.int .i64 0)) false) [v67, v68] k_73) fun v69 =>
  Gd v65 true (fun k_75 => Pu Try.prog (.bin .eql 3) [v69, (.p (.int .i64 0))] k_75) fun v70 =>
  Pu Try.prog .pick [v65, v70, (.p (.bool false))] fun v71 =>
  CdA v71
    (
    Rg 3 fun b_77 =>
    RdS Try.prog (.ld 2 true) [v11] fun v73 =>
    WrS Try.prog (b_77 + 2) (.mset 91) [v13, v73, (.p (.int .i64 1))] fun _ =>
    Rg 5 fun b_80 =>
    RdS Try.prog (.ld 2 true) [v11] fun v75 =>
    Al (b_80 + 2) (.bs 91 2 1 [.p (.int .i64 0), .p (.int .i64 0)] [(0, 2)]) [v75] fun v76 =>
    WrS Try.prog (b_80 + 3) (.app 91 2 16) [(vs_46.getD 0 .any), v76] fun v77 =>
    Pu Try.prog (.bin .add 3) [(vs_46.getD 1 .any), (.p (.int .i64 1))] fun v78 =>
    k_45 [v77, v78]
    ) (
    Pu Try.prog (.bin .add 3) [(vs_46.getD 1 .any), (.p (.int .i64 1))] fun v78_85 =>
    k_45 [(vs_46.getD 0 .any), v78_85]
    )
def S_outer_quiet_L2 (a0 : AV) (v13 : AV) (k_22 : List AV → AH → Prop) (v8 : AV) (v47 : AV) (v48 : AV) (vs_46 : List AV) (k_45 : List AV → AH → Prop) : AH → Prop :=
  Pu Try.prog (.bin .lss 3) [(vs_46.getD 1 .any), v48] fun v50 =>
  CdA v50
    (S_outer_quiet_C1 a0 v13 v8 v47 k_45 vs_46) (
    k_22 [(vs_46.getD 0 .any)]
    )
def S_outer_quiet_L3 (a0 : AV) (Q : AV → AH → Prop) (H : AH) (v13 : AV) (vs_23 : List AV) (k_22 : List AV → AH → Prop) : AH → Prop :=
  Pu Try.prog .len [(vs_23.getD 0 .any)] fun v27 =>
  Pu Try.prog (.bin .gtr 3) [v27, (.p (.int .i64 0))] fun v28 =>
  CdA v28
    (
    Rg 8 fun b_26 =>
    Pu Try.prog .len [(vs_23.getD 0 .any)] fun v31 =>
    Pu Try.prog (.bin .sub 3) [v31, (.p (.int .i64 1))] fun v32 =>
    Pu Try.prog (.idx 2) [(vs_23.getD 0 .any), v32] fun v33 =>
    RdS Try.prog (.ld 2 true) [v33] fun v34 =>
    Al (b_26 + 6) (.nw 91 [.p (.int .i64 0), .p (.int .i64 0)]) [] fun v8 =>
    WrS Try.prog (b_26 + 7) (.st 2) [v8, v34] fun _ =>
    Pu Try.prog .len [(vs_23.getD 0 .any)] fun v37 =>
    Pu Try.prog (.bin .sub 3) [v37, (.p (.int .i64 1))] fun v38 =>
    Pu Try.prog (.slc 2 false true) [(vs_23.getD 0 .any), v38] fun v39 =>
    Vw fun V =>
    Pu Try.prog .nilck [a0] fun v41 =>
    Pu Try.prog (.addOff 0) [v41] fun v42 =>
    Rd Try.prog V (.ld 1 false) [v42] fun v43 =>
    Pu Try.prog (.addOff 0) [v8] fun v44 =>
    Rd Try.prog V (.ld 1 false) [v44] fun v45 =>
    Pu Try.prog (.idx 1) [v43, v45] fun v46 =>
    Rd Try.prog V (.ld 1 false) [v46] fun v47 =>
    Pu Try.prog .len [v47] fun v48 =>
    LoopA Try.prog 2 (S_outer_quiet_L2 a0 v13 k_22 v8 v47 v48) [v39, (.p (.int .i64 0))]
    ) (
    Rt Try.prog H.nx v13 Q
    )
def S_outer_quiet_L4 (a0 : AV) (Q : AV → AH → Prop) (H : AH) (v13 : AV) (v15 : AV) (vs : List AV) (k : List AV → AH → Prop) : AH → Prop :=
  Rg 2 fun b_7 =>
  Nd Try.prog (b_7 + 0) .nxt [v15] fun v16 =>
  Pu Try.prog (.ext 0) [v16] fun v17 =>
  CdA v17
    (
    Rg 4 fun b_10 =>
    Nd Try.prog (b_10 + 0) .ent [v15] fun v18 =>
    Pu Try.prog (.ext 0) [v18] fun v19 =>
    Al (b_10 + 2) (.nw 91 [.p (.int .i64 0), .p (.int .i64 0)]) [] fun v7 =>
    WrS Try.prog (b_10 + 3) (.st 2) [v7, v19] fun _ =>
    Rg 3 fun b_15 =>
    RdS Try.prog (.ld 2 true) [v7] fun v21 =>
    WrS Try.prog (b_15 + 2) (.mset 91) [v13, v21, (.p (.int .i64 1))] fun _ =>
    Rg 5 fun b_18 =>
    RdS Try.prog (.ld 2 true) [v7] fun v23 =>
    Al (b_18 + 2) (.bs 91 2 1 [.p (.int .i64 0), .p (.int .i64 0)] [(0, 2)]) [v23] fun v24 =>
    WrS Try.prog (b_18 + 3) (.app 91 2 16) [(vs.getD 0 .any), v24] fun v25 =>
    k [v25]
    ) (
    LoopA Try.prog 1 (S_outer_quiet_L3 a0 Q H v13) [(vs.getD 0 .any)]
    )
def S_outer_quiet (a0 a1 : AV) (Q : AV → AH → Prop) (H : AH) : Prop := (
    Rg 2 fun b =>
    Al (b + 0) (.mm 91) [] fun v13 =>
    Rg 2 fun b_3 =>
    Nd Try.prog (b_3 + 1) (.rng 91) [a1] fun v15 =>
    LoopA Try.prog 1 (S_outer_quiet_L4 a0 Q H v13 v15) [(.p (.slice none 0 0))]
    ) H
theorem eq_outer_quiet (a0 a1 : AV) (Q : AV → AH → Prop) (H : AH) : FnA Try.prog 80 (regsF Try.f53) ac_outer_quiet [.tm 4] [a0, a1] H Q = S_outer_quiet a0 a1 Q H := by kernel_rfl
theorem tri_outer_quiet {a0 a1 : AV} {H : AH} {Q : AV → AH → Prop} (h : S_outer_quiet a0 a1 Q H) : Tri Try.prog 53 [a0, a1] H Q :=
  tri_of (Ms := [#[], #[], #[], #[], #[], #[], #[], #[], #[], #[], #[], #[0, 1, 3, 7, 0, 16, 63, 127, 255, 0], #[], #[], #[], #[], #[], #[], #[], #[]]) mixed Try.func53 rfl (by kernel_rfl) (by kernel_rfl) rfl (of_decide_eq_true rfl : 2 ≤ 80) (by rw [eq_outer_quiet a0 a1 Q H]; exact h : FnA Try.prog 80 (regsF Try.f53) ac_outer_quiet [.tm 4] [a0, a1] H Q)

/-! (*wordhoard/machine.maker).arc -/
def ac_maker_arc : AC := (.seq (.reg 0) (.reg 1))
def S_maker_arc (a0 a1 a2 a3 a4 a5 : AV) (Q : AV → AH → Prop) (H : AH) : Prop := (
    Rg 18 fun b =>
    Pu Try.prog .nilck [a0] fun v14 =>
    Pu Try.prog (.addOff 0) [v14] fun v15 =>
    Pu Try.prog (.addOff 1) [v15] fun v16 =>
    RdS Try.prog (.ld 1 false) [v16] fun v17 =>
    Pu Try.prog (.bld [.p (.int .i64 0), .p (.int .i64 0), .p (.int .i64 0), .p (.int .i64 0), .p (.int .i64 0)] [(0, 1), (1, 1), (2, 1), (3, 1), (4, 1)]) [a1, a2, a3, a4, a5] fun v23 =>
    Al (b + 12) (.bs 53 5 1 [.p (.int .i64 0), .p (.int .i64 0), .p (.int .i64 0), .p (.int .i64 0), .p (.int .i64 0)] [(0, 5)]) [v23] fun v24 =>
    WrS Try.prog (b + 13) (.app 53 5 40) [v17, v24] fun v25 =>
    Pu Try.prog .nilck [a0] fun v26 =>
    Pu Try.prog (.addOff 0) [v26] fun v27 =>
    Pu Try.prog (.addOff 1) [v27] fun v28 =>
    WrS Try.prog (b + 17) (.st 1) [v28, v25] fun _ =>
    Rg 12 fun b_13 =>
    Pu Try.prog .nilck [a0] fun v31 =>
    Pu Try.prog (.addOff 3) [v31] fun v32 =>
    RdS Try.prog (.ld 1 false) [v32] fun v33 =>
    Gd v33 false (fun k => k a5) fun v35 =>
    Gd v33 false (fun k_20 => Pu Try.prog (.bin .gtr 3) [v35, (.p (.int .i64 1000000))] k_20) fun v36 =>
    Pu Try.prog .pick [v33, (.p (.bool true)), v36] fun v37 =>
    Pu Try.prog .nilck [a0] fun v38 =>
    Pu Try.prog (.addOff 3) [v38] fun v39 =>
    WrS Try.prog (b_13 + 11) (.st 1) [v39, v37] fun _ =>
    Rt Try.prog H.nx (.tup []) Q
    ) H
theorem eq_maker_arc (a0 a1 a2 a3 a4 a5 : AV) (Q : AV → AH → Prop) (H : AH) : FnA Try.prog 40 (regsF Try.f41) ac_maker_arc [] [a0, a1, a2, a3, a4, a5] H Q = S_maker_arc a0 a1 a2 a3 a4 a5 Q H := by kernel_rfl
theorem tri_maker_arc {a0 a1 a2 a3 a4 a5 : AV} {H : AH} {Q : AV → AH → Prop} (h : S_maker_arc a0 a1 a2 a3 a4 a5 Q H) : Tri Try.prog 41 [a0, a1, a2, a3, a4, a5] H Q :=
  tri_of (Ms := [#[], #[]]) mixed Try.func41 rfl (by kernel_rfl) (by kernel_rfl) rfl (of_decide_eq_true rfl : 6 ≤ 40) (by rw [eq_maker_arc a0 a1 a2 a3 a4 a5 Q H]; exact h : FnA Try.prog 40 (regsF Try.f41) ac_maker_arc [] [a0, a1, a2, a3, a4, a5] H Q)

/-! (*wordhoard/machine.maker).final -/
def ac_maker_final : AC := (.reg 0)
def S_maker_final (a0 a1 a2 : AV) (Q : AV → AH → Prop) (H : AH) : Prop := (
    Rg 15 fun b =>
    Pu Try.prog .nilck [a0] fun v8 =>
    Pu Try.prog (.addOff 0) [v8] fun v9 =>
    Pu Try.prog (.addOff 2) [v9] fun v10 =>
    RdS Try.prog (.ld 1 false) [v10] fun v11 =>
    Pu Try.prog (.bld [.p (.int .i64 0), .p (.int .i64 0)] [(0, 1), (1, 1)]) [a1, a2] fun v14 =>
    Al (b + 9) (.bs 56 2 1 [.p (.int .i64 0), .p (.int .i64 0)] [(0, 2)]) [v14] fun v15 =>
    WrS Try.prog (b + 10) (.app 56 2 16) [v11, v15] fun v16 =>
    Pu Try.prog .nilck [a0] fun v17 =>
    Pu Try.prog (.addOff 0) [v17] fun v18 =>
    Pu Try.prog (.addOff 2) [v18] fun v19 =>
    WrS Try.prog (b + 14) (.st 1) [v19, v16] fun _ =>
    Rt Try.prog H.nx (.tup []) Q
    ) H
theorem eq_maker_final (a0 a1 a2 : AV) (Q : AV → AH → Prop) (H : AH) : FnA Try.prog 20 (regsF Try.f42) ac_maker_final [] [a0, a1, a2] H Q = S_maker_final a0 a1 a2 Q H := by kernel_rfl
theorem tri_maker_final {a0 a1 a2 : AV} {H : AH} {Q : AV → AH → Prop} (h : S_maker_final a0 a1 a2 Q H) : Tri Try.prog 42 [a0, a1, a2] H Q :=
  tri_of (Ms := [#[]]) mixed Try.func42 rfl (by kernel_rfl) (by kernel_rfl) rfl (of_decide_eq_true rfl : 3 ≤ 20) (by rw [eq_maker_final a0 a1 a2 Q H]; exact h : FnA Try.prog 20 (regsF Try.f42) ac_maker_final [] [a0, a1, a2] H Q)

/-! (*wordhoard/machine.maker).done -/
def ac_maker_done : AC := (.seq (.reg 0) (.seq (.block 0 (.seq (.reg 1) (.cond (.tmp 4) (.seq (.reg 2) .ret) (.seq (.reg 3) (.cond (.tmp 21) (.seq (.reg 4) .ret) .skip))))) (.seq (.reg 5) .ret)))
def S_maker_done (a0 : AV) (Q : AV → AH → Prop) (H : AH) : Prop := (
    Rg 2 fun b =>
    Al (b + 0) (.nw 25 [.p (.int .i64 0), .p (.slice none 0 0), .p (.slice none 0 0)]) [] fun v2 =>
    Pu Try.prog .nilck [a0] fun v6 =>
    Pu Try.prog (.addOff 0) [v6] fun v7 =>
    Pu Try.prog (.addOff 0) [v7] fun v8 =>
    RdS Try.prog (.ld 1 false) [v8] fun v9 =>
    Pu Try.prog (.bin .gtr 3) [v9, (.p (.int .i64 3000))] fun v10 =>
    Gd v10 false (fun k => k a0) fun v12 =>
    Gd v10 false (fun k_11 => Pu Try.prog .nilck [v12] k_11) fun v13 =>
    Gd v10 false (fun k_13 => Pu Try.prog (.addOff 0) [v13] k_13) fun v14 =>
    Gd v10 false (fun k_15 => Pu Try.prog (.addOff 1) [v14] k_15) fun v15 =>
    Gd v10 false (fun k_17 => RdS Try.prog (.ld 1 false) [v15] k_17) fun v16 =>
    Gd v10 false (fun k_19 => Pu Try.prog .len [v16] k_19) fun v17 =>
    Gd v10 false (fun k_21 => Pu Try.prog (.bin .gtr 3) [v17, (.p (.int .i64 20000))] k_21) fun v18 =>
    Pu Try.prog .pick [v10, (.p (.bool true)), v18] fun v19 =>
    CdA v19
      (
      Rg 3 fun b_23 =>
      Pu Try.prog (.bld [.p (.int .i64 0), .p (.slice none 0 0), .p (.slice none 0 0)] []) [] fun v20 =>
      WrS Try.prog (b_23 + 1) (.st 3) [v2, v20] fun _ =>
      RdS Try.prog (.ld 3 true) [v2] fun r2 =>
      Rt Try.prog H.nx (.tup [r2, (.p (.int .i64 7))]) Q
      ) (
      Pu Try.prog .nilck [a0] fun v23 =>
      Pu Try.prog (.addOff 3) [v23] fun v24 =>
      RdS Try.prog (.ld 1 false) [v24] fun v25 =>
      CdA v25
        (
        Rg 3 fun b_30 =>
        Pu Try.prog (.bld [.p (.int .i64 0), .p (.slice none 0 0), .p (.slice none 0 0)] []) [] fun v26 =>
        WrS Try.prog (b_30 + 1) (.st 3) [v2, v26] fun _ =>
        RdS Try.prog (.ld 3 true) [v2] fun r2_33 =>
        Rt Try.prog H.nx (.tup [r2_33, (.p (.int .i64 3))]) Q
        ) (
        Rg 6 fun b_34 =>
        Pu Try.prog .nilck [a0] fun v28 =>
        Pu Try.prog (.addOff 0) [v28] fun v29 =>
        RdS Try.prog (.ld 3 true) [v29] fun v30 =>
        WrS Try.prog (b_34 + 4) (.st 3) [v2, v30] fun _ =>
        RdS Try.prog (.ld 3 true) [v2] fun r2_39 =>
        Rt Try.prog H.nx (.tup [r2_39, (.p (.int .i64 0))]) Q
        )
      )
    ) H
theorem eq_maker_done (a0 : AV) (Q : AV → AH → Prop) (H : AH) : FnA Try.prog 31 (regsF Try.f43) ac_maker_done [.ce 2 25, .tm 3] [a0] H Q = S_maker_done a0 Q H := by kernel_rfl
theorem tri_maker_done {a0 : AV} {H : AH} {Q : AV → AH → Prop} (h : S_maker_done a0 Q H) : Tri Try.prog 43 [a0] H Q :=
  tri_of (Ms := [#[], #[], #[], #[], #[], #[]]) mixed Try.func43 rfl (by kernel_rfl) (by kernel_rfl) rfl (of_decide_eq_true rfl : 1 ≤ 31) (by rw [eq_maker_done a0 Q H]; exact h : FnA Try.prog 31 (regsF Try.f43) ac_maker_done [.ce 2 25, .tm 3] [a0] H Q)

/-! (*wordhoard/machine.maker).lay -/
def ac_maker_lay : AC := (.seq (.reg 0) (.seq (.reg 1) (.seq (.reg 2) (.seq (.seq (.reg 3) (.block 0 (.loop [27] [(7, 8), (28, 48)] (.seq (.reg 4) (.seq (.cond (.tmp 28) .skip (.exit 0)) (.seq (.block 1 (.seq (.reg 5) (.reg 6))) (.reg 7))))))) (.seq (.reg 8) .ret)))))
def S_maker_lay_L1 (a0 : AV) (Q : AV → AH → Prop) (H : AH) (v12 : AV) (v25 : AV) (v26 : AV) (vs : List AV) (k : List AV → AH → Prop) : AH → Prop :=
  Pu Try.prog (.bin .lss 3) [(vs.getD 0 .any), v26] fun v28 =>
  CdA v28
    (
    Rg 4 fun b_27 =>
    Pu Try.prog (.idx 5) [v25, (vs.getD 0 .any)] fun v29 =>
    RdS Try.prog (.ld 5 true) [v29] fun v30 =>
    Al (b_27 + 2) (.nw 53 [.p (.int .i64 0), .p (.int .i64 0), .p (.int .i64 0), .p (.int .i64 0), .p (.int .i64 0)]) [] fun v7 =>
    WrS Try.prog (b_27 + 3) (.st 5) [v7, v30] fun _ =>
    Pu Try.prog (.addOff 0) [v7] fun v33 =>
    RdS Try.prog (.ld 1 false) [v33] fun v34 =>
    Pu Try.prog (.bin .add 3) [v12, v34] fun v35 =>
    Pu Try.prog (.addOff 1) [v7] fun v37 =>
    RdS Try.prog (.ld 1 false) [v37] fun v38 =>
    Pu Try.prog (.bin .add 3) [v12, v38] fun v39 =>
    Pu Try.prog (.addOff 2) [v7] fun v40 =>
    RdS Try.prog (.ld 1 false) [v40] fun v41 =>
    Pu Try.prog (.addOff 3) [v7] fun v42 =>
    RdS Try.prog (.ld 1 false) [v42] fun v43 =>
    Pu Try.prog (.addOff 4) [v7] fun v44 =>
    RdS Try.prog (.ld 1 false) [v44] fun v45 =>
    Ca Try.prog (.fn (.func 41) [] []) [a0, v35, v39, v41, v43, v45] fun _ =>
    Pu Try.prog (.bin .add 3) [(vs.getD 0 .any), (.p (.int .i64 1))] fun v47 =>
    k [v47]
    ) (
    Rt Try.prog H.nx v12 Q
    )
def S_maker_lay (a0 a1 : AV) (Q : AV → AH → Prop) (H : AH) : Prop := (
    Rg 2 fun b =>
    Al (b + 0) (.bx 25) [a1] fun v3 =>
    Pu Try.prog .nilck [a0] fun v9 =>
    Pu Try.prog (.addOff 0) [v9] fun v10 =>
    Pu Try.prog (.addOff 0) [v10] fun v11 =>
    RdS Try.prog (.ld 1 false) [v11] fun v12 =>
    Rg 12 fun b_7 =>
    Vw fun V =>
    Pu Try.prog .nilck [a0] fun v14 =>
    Pu Try.prog (.addOff 0) [v14] fun v15 =>
    Pu Try.prog (.addOff 0) [v15] fun v16 =>
    Rd Try.prog V (.ld 1 false) [v16] fun v17 =>
    Pu Try.prog (.addOff 0) [v3] fun v18 =>
    Rd Try.prog V (.ld 1 false) [v18] fun v19 =>
    Pu Try.prog (.bin .add 3) [v17, v19] fun v20 =>
    Pu Try.prog .nilck [a0] fun v21 =>
    Pu Try.prog (.addOff 0) [v21] fun v22 =>
    Pu Try.prog (.addOff 0) [v22] fun v23 =>
    Wr Try.prog (b_7 + 11) (.st 1) [v23, v20] fun _ _ =>
    Pu Try.prog (.addOff 1) [v3] fun v24 =>
    RdS Try.prog (.ld 1 false) [v24] fun v25 =>
    Pu Try.prog .len [v25] fun v26 =>
    LoopA Try.prog 1 (S_maker_lay_L1 a0 Q H v12 v25 v26) [(.p (.int .i64 0))]
    ) H
theorem eq_maker_lay (a0 a1 : AV) (Q : AV → AH → Prop) (H : AH) : FnA Try.prog 49 (regsF Try.f44) ac_maker_lay [.tm 4] [a0, a1] H Q = S_maker_lay a0 a1 Q H := by kernel_rfl
theorem tri_maker_lay {a0 a1 : AV} {H : AH} {Q : AV → AH → Prop} (h : S_maker_lay a0 a1 Q H) : Tri Try.prog 44 [a0, a1] H Q :=
  tri_of (Ms := [#[], #[], #[0, 1, 3, 7, 15, 0, 32, 127, 255, 511, 1023, 2047], #[], #[], #[], #[], #[], #[]]) mixed Try.func44 rfl (by kernel_rfl) (by kernel_rfl) rfl (of_decide_eq_true rfl : 2 ≤ 49) (by rw [eq_maker_lay a0 a1 Q H]; exact h : FnA Try.prog 49 (regsF Try.f44) ac_maker_lay [.tm 4] [a0, a1] H Q)

/-! wordhoard/machine.Through -/
def ac_machine_Through : AC := (.seq (.reg 0) (.seq (.seq (.reg 1) (.seq (.reg 2) (.cond (.tmp 32) (.seq (.reg 3) .ret) .skip))) (.seq (.reg 4) (.seq (.reg 5) (.seq (.reg 6) (.seq (.reg 7) (.seq (.reg 8) (.seq (.reg 9) (.seq (.seq (.reg 10) (.block 0 (.loop [13] [(5, 6), (14, 16), (17, 18), (19, 20), (21, 22), (51, 166)] (.seq (.seq (.reg 11) (.cond (.tmp 54) .skip (.exit 0))) (.seq (.block 1 (.seq (.reg 12) (.seq (.seq (.reg 13) (.block 2 (.loop [72] [(17, 18), (19, 20), (73, 125)] (.seq (.reg 14) (.seq (.cond (.tmp 73) .skip (.exit 2)) (.seq (.block 3 (.seq (.reg 15) (.seq (.seq (.reg 16) (.cond (.tmp 78) (.seq (.fk 17 (.mark 6 (.mark 11 (.leaf [0, 1, 2, 3, 4, 5, 7, 8, 9, 10, 6, 11] #[0, 0, 0, 0, 8, 0, 60, 0, 128, 0, 512, 2047])))) (.exit 3)) .skip)) (.seq (.reg 18) (.block 4 (.loop [96] [(19, 20), (97, 124)] (.seq (.reg 19) (.seq (.cond (.tmp 97) .skip (.exit 4)) (.seq (.block 5 (.seq (.reg 20) (.seq (.reg 21) (.cond (.tmp 104) (.fk 22 (.mark 7 (.mark 17 (.leaf [0, 1, 2, 3, 4, 5, 6, 8, 9, 10, 11, 12, 13, 14, 15, 16, 7, 17] #[0, 0, 0, 0, 8, 0, 32, 124, 0, 256, 0, 1024, 0, 4096, 0, 16384, 61440, 131071])))) .skip)))) (.reg 23)))))))))) (.reg 24))))))) (.seq (.seq (.reg 25) (.block 6 (.loop [130] [(21, 22), (131, 150)] (.seq (.reg 26) (.seq (.cond (.tmp 131) .skip (.exit 6)) (.seq (.block 7 (.seq (.reg 27) (.seq (.reg 28) (.cond (.tmp 136) (.fk 29 (.mark 6 (.mark 11 (.leaf [0, 1, 2, 3, 4, 5, 7, 8, 9, 10, 6, 11] #[0, 0, 0, 0, 0, 16, 60, 0, 128, 0, 512, 2047])))) .skip)))) (.reg 30))))))) (.seq (.reg 31) (.cond (.tmp 164) (.seq (.reg 32) .ret) .skip)))))) (.reg 33)))))) (.seq (.seq (.reg 34) (.block 8 (.loop [169] [(23, 24), (25, 28), (170, 216)] (.seq (.reg 35) (.seq (.cond (.tmp 170) .skip (.exit 8)) (.seq (.block 9 (.seq (.reg 36) (.seq (.reg 37) (.block 10 (.loop [176] [(25, 28), (177, 215)] (.seq (.reg 38) (.seq (.cond (.tmp 177) .skip (.exit 10)) (.seq (.block 11 (.seq (.reg 39) (.seq (.reg 40) (.seq (.reg 41) (.cond (.tmp 190) (.seq (.reg 42) (.reg 43)) .skip))))) (.reg 44))))))))) (.reg 45))))))) (.seq (.reg 46) .ret)))))))))))
def S_machine_Through_C1 (v7 : AV) (v46 : AV) (vs : List AV) (v17 : AV) (v94 : AV) (k_85 : List AV → AH → Prop) (vs_86 : List AV) : AH → Prop :=
  Rg 4 fun b_88 =>
  Pu Try.prog (.idx 5) [v94, (vs_86.getD 0 .any)] fun v98 =>
  RdS Try.prog (.ld 5 true) [v98] fun v99 =>
  Al (b_88 + 2) (.nw 53 [.p (.int .i64 0), .p (.int .i64 0), .p (.int .i64 0), .p (.int .i64 0), .p (.int .i64 0)]) [] fun v19 =>
  WrS Try.prog (b_88 + 3) (.st 5) [v19, v99] fun _ =>
  Pu Try.prog (.addOff 2) [v19] fun v100 =>
  RdS Try.prog (.ld 1 false) [v100] fun v101 =>
  Pu Try.prog (.addOff 3) [v17] fun v102 =>
  RdS Try.prog (.ld 1 false) [v102] fun v103 =>
  Pu Try.prog (.bin .eql 3) [v101, v103] fun v104 =>
  CdA v104
    (
    Rg 18 fun _ =>
    VwD fun V_99 =>
    Rd Try.prog V_99 (.ld 1 false) [v7] fun v105 =>
    Pu Try.prog (.addOff 1) [v17] fun v108 =>
    Rd Try.prog V_99 (.ld 1 false) [v108] fun v109 =>
    Pu Try.prog (.addOff 1) [v19] fun v110 =>
    Rd Try.prog V_99 (.ld 1 false) [v110] fun v111 =>
    Pu Try.prog (.addOff 2) [v17] fun v113 =>
    Rd Try.prog V_99 (.ld 1 false) [v113] fun v114 =>
    Pu Try.prog (.addOff 3) [v19] fun v115 =>
    Rd Try.prog V_99 (.ld 1 false) [v115] fun v116 =>
    Pu Try.prog (.addOff 4) [v17] fun v117 =>
    Rd Try.prog V_99 (.ld 1 false) [v117] fun v118 =>
    Pu Try.prog (.addOff 4) [v19] fun v119 =>
    Rd Try.prog V_99 (.ld 1 false) [v119] fun v120 =>
    Pu Try.prog (.bin .add 3) [v118, v120] fun v121 =>
    CaK Try.prog V_99 v46 [v109, v111] fun v112 =>
    Ca Try.prog (.fn (.func 41) [] []) [v105, (vs.getD 0 .any), v112, v114, v116, v121] fun _ =>
    Vw fun _ =>
    Pu Try.prog (.bin .add 3) [(vs_86.getD 0 .any), (.p (.int .i64 1))] fun v123 =>
    k_85 [v123]
    ) (
    Pu Try.prog (.bin .add 3) [(vs_86.getD 0 .any), (.p (.int .i64 1))] fun v123_118 =>
    k_85 [v123_118]
    )
def S_machine_Through_L2 (v7 : AV) (v46 : AV) (vs : List AV) (k_58 : List AV → AH → Prop) (vs_59 : List AV) (v17 : AV) (v94 : AV) (v95 : AV) (vs_86 : List AV) (k_85 : List AV → AH → Prop) : AH → Prop :=
  Pu Try.prog (.bin .lss 3) [(vs_86.getD 0 .any), v95] fun v97 =>
  CdA v97
    (S_machine_Through_C1 v7 v46 vs v17 v94 k_85 vs_86) (
    Pu Try.prog (.bin .add 3) [(vs_59.getD 0 .any), (.p (.int .i64 1))] fun v124_119 =>
    k_58 [v124_119]
    )
def S_machine_Through_C3 (v7 : AV) (v46 : AV) (v50 : AV) (vs : List AV) (v66 : AV) (v70 : AV) (k_58 : List AV → AH → Prop) (vs_59 : List AV) : AH → Prop :=
  Rg 4 fun b_61 =>
  Pu Try.prog (.idx 5) [v70, (vs_59.getD 0 .any)] fun v74 =>
  RdS Try.prog (.ld 5 true) [v74] fun v75 =>
  Al (b_61 + 2) (.nw 53 [.p (.int .i64 0), .p (.int .i64 0), .p (.int .i64 0), .p (.int .i64 0), .p (.int .i64 0)]) [] fun v17 =>
  WrS Try.prog (b_61 + 3) (.st 5) [v17, v75] fun _ =>
  Pu Try.prog (.addOff 3) [v17] fun v76 =>
  RdS Try.prog (.ld 1 false) [v76] fun v77 =>
  Pu Try.prog (.bin .eql 3) [v77, (.p (.int .i64 0))] fun v78 =>
  CdA v78
    (
    Rg 12 fun _ =>
    VwD fun V_70 =>
    Rd Try.prog V_70 (.ld 1 false) [v7] fun v79 =>
    Pu Try.prog (.addOff 1) [v17] fun v82 =>
    Rd Try.prog V_70 (.ld 1 false) [v82] fun v83 =>
    Pu Try.prog (.addOff 2) [v17] fun v86 =>
    Rd Try.prog V_70 (.ld 1 false) [v86] fun v87 =>
    Pu Try.prog (.addOff 4) [v17] fun v88 =>
    Rd Try.prog V_70 (.ld 1 false) [v88] fun v89 =>
    CaK Try.prog V_70 v46 [v83, v66] fun v85 =>
    Ca Try.prog (.fn (.func 41) [] []) [v79, (vs.getD 0 .any), v85, v87, (.p (.int .i64 0)), v89] fun _ =>
    Vw fun _ =>
    Pu Try.prog (.bin .add 3) [(vs_59.getD 0 .any), (.p (.int .i64 1))] fun v124 =>
    k_58 [v124]
    ) (
    Pu Try.prog (.idx 1) [v50, v66] fun v93 =>
    RdS Try.prog (.ld 1 false) [v93] fun v94 =>
    Pu Try.prog .len [v94] fun v95 =>
    LoopA Try.prog 1 (S_machine_Through_L2 v7 v46 vs k_58 vs_59 v17 v94 v95) [(.p (.int .i64 0))]
    )
def S_machine_Through_C4 (v7 : AV) (v46 : AV) (vs : List AV) (v61 : AV) (v128 : AV) (k_123 : List AV → AH → Prop) (vs_124 : List AV) : AH → Prop :=
  Rg 4 fun b_126 =>
  Pu Try.prog (.idx 5) [v128, (vs_124.getD 0 .any)] fun v132 =>
  RdS Try.prog (.ld 5 true) [v132] fun v133 =>
  Al (b_126 + 2) (.nw 53 [.p (.int .i64 0), .p (.int .i64 0), .p (.int .i64 0), .p (.int .i64 0), .p (.int .i64 0)]) [] fun v21 =>
  WrS Try.prog (b_126 + 3) (.st 5) [v21, v133] fun _ =>
  Pu Try.prog (.addOff 2) [v21] fun v134 =>
  RdS Try.prog (.ld 1 false) [v134] fun v135 =>
  Pu Try.prog (.bin .eql 3) [v135, (.p (.int .i64 0))] fun v136 =>
  CdA v136
    (
    Rg 12 fun _ =>
    VwD fun V_135 =>
    Rd Try.prog V_135 (.ld 1 false) [v7] fun v137 =>
    Pu Try.prog (.addOff 1) [v21] fun v141 =>
    Rd Try.prog V_135 (.ld 1 false) [v141] fun v142 =>
    Pu Try.prog (.addOff 3) [v21] fun v144 =>
    Rd Try.prog V_135 (.ld 1 false) [v144] fun v145 =>
    Pu Try.prog (.addOff 4) [v21] fun v146 =>
    Rd Try.prog V_135 (.ld 1 false) [v146] fun v147 =>
    CaK Try.prog V_135 v46 [v61, v142] fun v143 =>
    Ca Try.prog (.fn (.func 41) [] []) [v137, (vs.getD 0 .any), v143, (.p (.int .i64 0)), v145, v147] fun _ =>
    Vw fun _ =>
    Pu Try.prog (.bin .add 3) [(vs_124.getD 0 .any), (.p (.int .i64 1))] fun v149 =>
    k_123 [v149]
    ) (
    Pu Try.prog (.bin .add 3) [(vs_124.getD 0 .any), (.p (.int .i64 1))] fun v149_147 =>
    k_123 [v149_147]
    )
def S_machine_Through_C5 (Q : AV → AH → Prop) (H : AH) (v4 : AV) (v7 : AV) (k : List AV → AH → Prop) (vs : List AV) : AH → Prop :=
  RdS Try.prog (.ld 1 false) [v7] fun v150 =>
  Pu Try.prog .nilck [v150] fun v151 =>
  Pu Try.prog (.addOff 0) [v151] fun v152 =>
  Pu Try.prog (.addOff 0) [v152] fun v153 =>
  RdS Try.prog (.ld 1 false) [v153] fun v154 =>
  Pu Try.prog (.bin .gtr 3) [v154, (.p (.int .i64 3000))] fun v155 =>
  Gd v155 false (fun k_155 => RdS Try.prog (.ld 1 false) [v7] k_155) fun v157 =>
  Gd v155 false (fun k_157 => Pu Try.prog .nilck [v157] k_157) fun v158 =>
  Gd v155 false (fun k_159 => Pu Try.prog (.addOff 0) [v158] k_159) fun v159 =>
  Gd v155 false (fun k_161 => Pu Try.prog (.addOff 1) [v159] k_161) fun v160 =>
  Gd v155 false (fun k_163 => RdS Try.prog (.ld 1 false) [v160] k_163) fun v161 =>
  Gd v155 false (fun k_165 => Pu Try.prog .len [v161] k_165) fun v162 =>
  Gd v155 false (fun k_167 => Pu Try.prog (.bin .gtr 3) [v162, (.p (.int .i64 20000))] k_167) fun v163 =>
  Pu Try.prog .pick [v155, (.p (.bool true)), v163] fun v164 =>
  CdA v164
    (
    Rg 3 fun b_169 =>
    Pu Try.prog (.bld [.p (.int .i64 0), .p (.slice none 0 0), .p (.slice none 0 0)] []) [] fun v165 =>
    WrS Try.prog (b_169 + 1) (.st 3) [v4, v165] fun _ =>
    RdS Try.prog (.ld 3 true) [v4] fun r4_172 =>
    Rt Try.prog H.nx (.tup [r4_172, (.p (.int .i64 7))]) Q
    ) (
    Pu Try.prog (.bin .add 3) [(vs.getD 0 .any), (.p (.int .i64 1))] fun v56 =>
    k [v56]
    )
def S_machine_Through_L6 (Q : AV → AH → Prop) (H : AH) (v4 : AV) (v7 : AV) (v46 : AV) (k : List AV → AH → Prop) (vs : List AV) (v61 : AV) (v128 : AV) (v129 : AV) (vs_124 : List AV) (k_123 : List AV → AH → Prop) : AH → Prop :=
  Pu Try.prog (.bin .lss 3) [(vs_124.getD 0 .any), v129] fun v131 =>
  CdA v131
    (S_machine_Through_C4 v7 v46 vs v61 v128 k_123 vs_124) (S_machine_Through_C5 Q H v4 v7 k vs)
def S_machine_Through_L7 (Q : AV → AH → Prop) (H : AH) (v4 : AV) (v7 : AV) (v46 : AV) (v50 : AV) (k : List AV → AH → Prop) (vs : List AV) (v61 : AV) (v66 : AV) (v70 : AV) (v71 : AV) (vs_59 : List AV) (k_58 : List AV → AH → Prop) : AH → Prop :=
  Pu Try.prog (.bin .lss 3) [(vs_59.getD 0 .any), v71] fun v73 =>
  CdA v73
    (S_machine_Through_C3 v7 v46 v50 vs v66 v70 k_58 vs_59) (
    Pu Try.prog (.idx 1) [v50, v66] fun v127 =>
    RdS Try.prog (.ld 1 false) [v127] fun v128 =>
    Pu Try.prog .len [v128] fun v129 =>
    LoopA Try.prog 1 (S_machine_Through_L6 Q H v4 v7 v46 k vs v61 v128 v129) [(.p (.int .i64 0))]
    )
def S_machine_Through_C8 (v7 : AV) (v23 : AV) (k_188 : List AV → AH → Prop) (vs_189 : List AV) (v25 : AV) (v188 : AV) : AH → Prop :=
  RdS Try.prog (.ld 1 false) [v7] fun v191 =>
  Pu Try.prog (.addOff 1) [v23] fun v193 =>
  RdS Try.prog (.ld 1 false) [v193] fun v194 =>
  Pu Try.prog (.addOff 1) [v25] fun v195 =>
  RdS Try.prog (.ld 1 false) [v195] fun v196 =>
  Pu Try.prog (.bin .add 3) [v194, v196] fun v197 =>
  Ca Try.prog (.fn (.func 42) [] []) [v191, v188, v197] fun _ =>
  Rg 16 fun b_212 =>
  Vw fun V_213 =>
  Rd Try.prog V_213 (.ld 1 false) [v7] fun v199 =>
  Rd Try.prog V_213 (.ld 1 false) [v7] fun v200 =>
  Pu Try.prog .nilck [v200] fun v201 =>
  Pu Try.prog (.addOff 3) [v201] fun v202 =>
  Rd Try.prog V_213 (.ld 1 false) [v202] fun v203 =>
  GdV v203 false (fun k_220 => Pu Try.prog (.addOff 1) [v23] (fun a => k_220 a V_213)) V_213 fun v205 V_221 =>
  GdV v203 false (fun k_223 => Rd Try.prog V_221 (.ld 1 false) [v205] (fun a => k_223 a V_221)) V_221 fun v206 V_224 =>
  GdV v203 false (fun k_226 => Pu Try.prog (.addOff 1) [v25] (fun a => k_226 a V_224)) V_224 fun v207 V_227 =>
  GdV v203 false (fun k_229 => Rd Try.prog V_227 (.ld 1 false) [v207] (fun a => k_229 a V_227)) V_227 fun v208 V_230 =>
  GdV v203 false (fun k_232 => Pu Try.prog (.bin .add 3) [v206, v208] (fun a => k_232 a V_230)) V_230 fun v209 V_233 =>
  GdV v203 false (fun k_235 => Pu Try.prog (.bin .gtr 3) [v209, (.p (.int .i64 1000000))] (fun a => k_235 a V_233)) V_233 fun v210 _ =>
  Pu Try.prog .pick [v203, (.p (.bool true)), v210] fun v211 =>
  Pu Try.prog .nilck [v199] fun v212 =>
  Pu Try.prog (.addOff 3) [v212] fun v213 =>
  Wr Try.prog (b_212 + 15) (.st 1) [v213, v211] fun _ _ =>
  Pu Try.prog (.bin .add 3) [(vs_189.getD 0 .any), (.p (.int .i64 1))] fun v214 =>
  k_188 [v214]
def S_machine_Through_L9 (v7 : AV) (v8 : AV) (k_177 : List AV → AH → Prop) (vs_178 : List AV) (v23 : AV) (v174 : AV) (v175 : AV) (vs_189 : List AV) (k_188 : List AV → AH → Prop) : AH → Prop :=
  Pu Try.prog (.bin .lss 3) [(vs_189.getD 0 .any), v175] fun v177 =>
  CdA v177
    (
    Rg 4 fun b_191 =>
    Pu Try.prog (.idx 2) [v174, (vs_189.getD 0 .any)] fun v178 =>
    RdS Try.prog (.ld 2 true) [v178] fun v179 =>
    Al (b_191 + 2) (.nw 56 [.p (.int .i64 0), .p (.int .i64 0)]) [] fun v25 =>
    WrS Try.prog (b_191 + 3) (.st 2) [v25, v179] fun _ =>
    RdS Try.prog (.ld 1 false) [v8] fun v181 =>
    Pu Try.prog (.addOff 0) [v23] fun v182 =>
    RdS Try.prog (.ld 1 false) [v182] fun v183 =>
    Pu Try.prog (.addOff 0) [v25] fun v184 =>
    RdS Try.prog (.ld 1 false) [v184] fun v185 =>
    Pu Try.prog (.bld [.p (.int .i64 0), .p (.int .i64 0)] [(0, 1), (1, 1)]) [v183, v185] fun v186 =>
    RdS Try.prog (.look 72 (.p (.int .i64 0)) true) [v181, v186] fun v187 =>
    Pu Try.prog (.ext 0) [v187] fun v188 =>
    Pu Try.prog (.ext 1) [v187] fun v189 =>
    CdA v189
      (S_machine_Through_C8 v7 v23 k_188 vs_189 v25 v188) (
      Pu Try.prog (.bin .add 3) [(vs_189.getD 0 .any), (.p (.int .i64 1))] fun v214_243 =>
      k_188 [v214_243]
      )
    ) (
    Pu Try.prog (.bin .add 3) [(vs_178.getD 0 .any), (.p (.int .i64 1))] fun v215 =>
    k_177 [v215]
    )
def S_machine_Through_L10 (Q : AV → AH → Prop) (H : AH) (v3 : AV) (v4 : AV) (v7 : AV) (v8 : AV) (v167 : AV) (v168 : AV) (vs_178 : List AV) (k_177 : List AV → AH → Prop) : AH → Prop :=
  Pu Try.prog (.bin .lss 3) [(vs_178.getD 0 .any), v168] fun v170 =>
  CdA v170
    (
    Rg 4 fun b_180 =>
    Pu Try.prog (.idx 2) [v167, (vs_178.getD 0 .any)] fun v171 =>
    RdS Try.prog (.ld 2 true) [v171] fun v172 =>
    Al (b_180 + 2) (.nw 56 [.p (.int .i64 0), .p (.int .i64 0)]) [] fun v23 =>
    WrS Try.prog (b_180 + 3) (.st 2) [v23, v172] fun _ =>
    Pu Try.prog (.addOff 2) [v3] fun v173 =>
    RdS Try.prog (.ld 1 false) [v173] fun v174 =>
    Pu Try.prog .len [v174] fun v175 =>
    LoopA Try.prog 1 (S_machine_Through_L9 v7 v8 k_177 vs_178 v23 v174 v175) [(.p (.int .i64 0))]
    ) (
    Rg 6 fun b_245 =>
    RdS Try.prog (.ld 1 false) [v7] fun v216 =>
    Ca Try.prog (.fn (.func 43) [] []) [v216] fun v217 =>
    Pu Try.prog (.ext 0) [v217] fun v218 =>
    Pu Try.prog (.ext 1) [v217] fun v219 =>
    WrS Try.prog (b_245 + 4) (.st 3) [v4, v218] fun _ =>
    RdS Try.prog (.ld 3 true) [v4] fun r4_251 =>
    Rt Try.prog H.nx (.tup [r4_251, v219]) Q
    )
def S_machine_Through_L11 (Q : AV → AH → Prop) (H : AH) (v2 : AV) (v3 : AV) (v4 : AV) (v7 : AV) (v8 : AV) (v9 : AV) (v46 : AV) (v48 : AV) (v50 : AV) (vs : List AV) (k : List AV → AH → Prop) : AH → Prop :=
  RdS Try.prog (.ld 1 false) [v9] fun v52 =>
  Pu Try.prog .len [v52] fun v53 =>
  Pu Try.prog (.bin .lss 3) [(vs.getD 0 .any), v53] fun v54 =>
  CdA v54
    (
    Vw fun V_46 =>
    Rd Try.prog V_46 (.ld 1 false) [v9] fun v57 =>
    Pu Try.prog (.idx 2) [v57, (vs.getD 0 .any)] fun v59 =>
    Pu Try.prog (.aidx 2 1) [v59, (.p (.int .i64 0))] fun v60 =>
    Rd Try.prog V_46 (.ld 1 false) [v60] fun v61 =>
    Rd Try.prog V_46 (.ld 1 false) [v9] fun v62 =>
    Pu Try.prog (.idx 2) [v62, (vs.getD 0 .any)] fun v64 =>
    Pu Try.prog (.aidx 2 1) [v64, (.p (.int .i64 1))] fun v65 =>
    Rd Try.prog V_46 (.ld 1 false) [v65] fun v66 =>
    Pu Try.prog (.idx 1) [v48, v61] fun v69 =>
    RdS Try.prog (.ld 1 false) [v69] fun v70 =>
    Pu Try.prog .len [v70] fun v71 =>
    LoopA Try.prog 1 (S_machine_Through_L7 Q H v4 v7 v46 v50 k vs v61 v66 v70 v71) [(.p (.int .i64 0))]
    ) (
    Pu Try.prog (.addOff 2) [v2] fun v166 =>
    RdS Try.prog (.ld 1 false) [v166] fun v167 =>
    Pu Try.prog .len [v167] fun v168 =>
    LoopA Try.prog 1 (S_machine_Through_L10 Q H v3 v4 v7 v8 v167 v168) [(.p (.int .i64 0))]
    )
def S_machine_Through_C12 (Q : AV → AH → Prop) (H : AH) (v2 : AV) (v3 : AV) (v4 : AV) : AH → Prop :=
  Rg 4 fun b_13 =>
  Pu Try.prog (.bld [.p (.int .i64 0), .p (.slice none 0 0), .p (.slice none 0 0), .p (.bool false)] []) [] fun v35 =>
  Al (b_13 + 1) (.bx 71) [v35] fun v36 =>
  Al (b_13 + 2) (.nw 69 [.p (.pointer none)]) [] fun v7 =>
  WrS Try.prog (b_13 + 3) (.st 1) [v7, v36] fun _ =>
  Rg 6 fun b_18 =>
  Al (b_18 + 0) (.mm 72) [] fun v37 =>
  Pu Try.prog (.bld [.p (.int .i64 0), .p (.int .i64 0)] [(0, 1), (1, 1)]) [(.p (.int .i64 0)), (.p (.int .i64 0))] fun v38 =>
  WrS Try.prog (b_18 + 2) (.mset 72) [v37, v38, (.p (.int .i64 0))] fun _ =>
  Al (b_18 + 4) (.nw 73 [.p (.map none)]) [] fun v8 =>
  WrS Try.prog (b_18 + 5) (.st 1) [v8, v37] fun _ =>
  Rg 4 fun b_24 =>
  Pu Try.prog (.bld [.p (.int .i64 0), .p (.int .i64 0)] [(0, 1), (1, 1)]) [(.p (.int .i64 0)), (.p (.int .i64 0))] fun v40 =>
  Al (b_24 + 1) (.bs 72 2 1 [.p (.int .i64 0), .p (.int .i64 0)] [(0, 2)]) [v40] fun v41 =>
  Al (b_24 + 2) (.nw 74 [.p (.slice none 0 0)]) [] fun v9 =>
  WrS Try.prog (b_24 + 3) (.st 1) [v9, v41] fun _ =>
  Rg 5 fun b_29 =>
  RdS Try.prog (.ld 1 false) [v7] fun v42 =>
  Pu Try.prog .nilck [v42] fun v43 =>
  Pu Try.prog (.addOff 0) [v43] fun v44 =>
  Pu Try.prog (.addOff 0) [v44] fun v45 =>
  WrS Try.prog (b_29 + 4) (.st 1) [v45, (.p (.int .i64 1))] fun _ =>
  Pu Try.prog (.mkfn (.func 40) 0) [v8, v9, v7] fun v46 =>
  Vw fun V =>
  Rd Try.prog V (.ld 3 true) [v2] fun v47 =>
  CaV Try.prog V (.fn (.func 36) [] []) [v47] fun v48 =>
  Rd Try.prog V (.ld 3 true) [v3] fun v49 =>
  CaV Try.prog V (.fn (.func 36) [] []) [v49] fun v50 =>
  LoopA Try.prog 1 (S_machine_Through_L11 Q H v2 v3 v4 v7 v8 v9 v46 v48 v50) [(.p (.int .i64 0))]
def S_machine_Through (a0 a1 : AV) (Q : AV → AH → Prop) (H : AH) : Prop := (
    Rg 4 fun b =>
    Al (b + 0) (.bx 25) [a0] fun v2 =>
    Al (b + 1) (.bx 25) [a1] fun v3 =>
    Al (b + 2) (.nw 25 [.p (.int .i64 0), .p (.slice none 0 0), .p (.slice none 0 0)]) [] fun v4 =>
    RdS Try.prog (.ld 3 true) [v2] fun v28 =>
    RdS Try.prog (.ld 3 true) [v3] fun v29 =>
    Ca Try.prog (.fn (.func 39) [] []) [v28, v29] fun v30 =>
    Pu Try.prog (.bin .neq 28) [v30, (.p (.int .i64 0))] fun v32 =>
    CdA v32
      (
      Rg 4 fun b_9 =>
      Pu Try.prog (.bld [.p (.int .i64 0), .p (.slice none 0 0), .p (.slice none 0 0)] []) [] fun v33 =>
      WrS Try.prog (b_9 + 2) (.st 3) [v4, v33] fun _ =>
      RdS Try.prog (.ld 3 true) [v4] fun r4 =>
      Rt Try.prog H.nx (.tup [r4, v30]) Q
      ) (S_machine_Through_C12 Q H v2 v3 v4)
    ) H
theorem eq_machine_Through (a0 a1 : AV) (Q : AV → AH → Prop) (H : AH) : FnA Try.prog 220 (regsF Try.f15) ac_machine_Through [.ce 4 25, .tm 5] [a0, a1] H Q = S_machine_Through a0 a1 Q H := by kernel_rfl
theorem tri_machine_Through {a0 a1 : AV} {H : AH} {Q : AV → AH → Prop} (h : S_machine_Through a0 a1 Q H) : Tri Try.prog 15 [a0, a1] H Q :=
  tri_of (Ms := [#[], #[], #[], #[], #[], #[], #[], #[], #[], #[0, 1, 0, 7, 15, 31], #[], #[], #[0, 0, 3, 7, 15, 0, 0, 96, 224, 480, 31, 2047], #[], #[], #[], #[], #[0, 0, 0, 0, 8, 0, 60, 0, 128, 0, 512, 2047], #[], #[], #[], #[], #[0, 0, 0, 0, 8, 0, 32, 124, 0, 256, 0, 1024, 0, 4096, 0, 16384, 61440, 131071], #[], #[], #[], #[], #[], #[], #[0, 0, 0, 0, 0, 16, 60, 0, 128, 0, 512, 2047], #[], #[], #[], #[], #[], #[], #[], #[], #[], #[], #[], #[], #[], #[0, 0, 2, 6, 14, 30, 62, 126, 62, 318, 1022, 2046, 4094, 8191, 16383, 32767], #[], #[], #[]]) mixed Try.func15 rfl (by kernel_rfl) (by kernel_rfl) rfl (of_decide_eq_true rfl : 2 ≤ 220) (by rw [eq_machine_Through a0 a1 Q H]; exact h : FnA Try.prog 220 (regsF Try.f15) ac_machine_Through [.ce 4 25, .tm 5] [a0, a1] H Q)

/-! wordhoard/machine.Either -/
def ac_machine_Either : AC := (.seq (.reg 0) (.seq (.seq (.reg 1) (.seq (.reg 2) (.cond (.tmp 17) (.seq (.reg 3) .ret) .skip))) (.seq (.reg 4) (.seq (.reg 5) (.seq (.seq (.reg 6) (.block 0 (.loop [30] [(9, 11), (12, 13), (31, 57)] (.seq (.reg 7) (.seq (.cond (.tmp 31) .skip (.exit 0)) (.seq (.block 1 (.seq (.reg 8) (.seq (.reg 9) (.seq (.reg 10) (.seq (.reg 11) (.block 2 (.loop [43] [(12, 13), (44, 56)] (.seq (.reg 12) (.seq (.cond (.tmp 44) .skip (.exit 2)) (.seq (.block 3 (.seq (.reg 13) (.reg 14))) (.reg 15))))))))))) (.reg 16))))))) (.seq (.reg 17) .ret))))))
def S_machine_Either_L1 (v21 : AV) (k : List AV → AH → Prop) (vs : List AV) (v36 : AV) (v41 : AV) (v42 : AV) (vs_41 : List AV) (k_40 : List AV → AH → Prop) : AH → Prop :=
  Pu Try.prog (.bin .lss 3) [(vs_41.getD 0 .any), v42] fun v44 =>
  CdA v44
    (
    Rg 4 fun b_43 =>
    Pu Try.prog (.idx 2) [v41, (vs_41.getD 0 .any)] fun v45 =>
    RdS Try.prog (.ld 2 true) [v45] fun v46 =>
    Al (b_43 + 2) (.nw 56 [.p (.int .i64 0), .p (.int .i64 0)]) [] fun v12 =>
    WrS Try.prog (b_43 + 3) (.st 2) [v12, v46] fun _ =>
    Pu Try.prog (.addOff 0) [v12] fun v49 =>
    RdS Try.prog (.ld 1 false) [v49] fun v50 =>
    Pu Try.prog (.bin .add 3) [v36, v50] fun v51 =>
    Pu Try.prog (.addOff 1) [v12] fun v52 =>
    RdS Try.prog (.ld 1 false) [v52] fun v53 =>
    Ca Try.prog (.fn (.func 42) [] []) [v21, v51, v53] fun _ =>
    Pu Try.prog (.bin .add 3) [(vs_41.getD 0 .any), (.p (.int .i64 1))] fun v55 =>
    k_40 [v55]
    ) (
    Pu Try.prog (.bin .add 3) [(vs.getD 0 .any), (.p (.int .i64 1))] fun v56 =>
    k [v56]
    )
def S_machine_Either_L2 (Q : AV → AH → Prop) (H : AH) (v4 : AV) (v21 : AV) (v28 : AV) (v29 : AV) (vs : List AV) (k : List AV → AH → Prop) : AH → Prop :=
  Pu Try.prog (.bin .lss 3) [(vs.getD 0 .any), v29] fun v31 =>
  CdA v31
    (
    Rg 4 fun b_29 =>
    Pu Try.prog (.idx 3) [v28, (vs.getD 0 .any)] fun v32 =>
    RdS Try.prog (.ld 3 true) [v32] fun v33 =>
    Al (b_29 + 2) (.nw 25 [.p (.int .i64 0), .p (.slice none 0 0), .p (.slice none 0 0)]) [] fun v9 =>
    WrS Try.prog (b_29 + 3) (.st 3) [v9, v33] fun _ =>
    RdS Try.prog (.ld 3 true) [v9] fun v35 =>
    Ca Try.prog (.fn (.func 44) [] []) [v21, v35] fun v36 =>
    Ca Try.prog (.fn (.func 41) [] []) [v21, (.p (.int .i64 0)), v36, (.p (.int .i64 0)), (.p (.int .i64 0)), (.p (.int .i64 0))] fun _ =>
    Pu Try.prog (.addOff 2) [v9] fun v40 =>
    RdS Try.prog (.ld 1 false) [v40] fun v41 =>
    Pu Try.prog .len [v41] fun v42 =>
    LoopA Try.prog 1 (S_machine_Either_L1 v21 k vs v36 v41 v42) [(.p (.int .i64 0))]
    ) (
    Rg 6 fun b_56 =>
    Ca Try.prog (.fn (.func 43) [] []) [v21] fun v58 =>
    Pu Try.prog (.ext 0) [v58] fun v59 =>
    Pu Try.prog (.ext 1) [v58] fun v60 =>
    WrS Try.prog (b_56 + 4) (.st 3) [v4, v59] fun _ =>
    RdS Try.prog (.ld 3 true) [v4] fun r4_61 =>
    Rt Try.prog H.nx (.tup [r4_61, v60]) Q
    )
def S_machine_Either (a0 a1 : AV) (Q : AV → AH → Prop) (H : AH) : Prop := (
    Rg 4 fun b =>
    Al (b + 0) (.bx 25) [a0] fun v2 =>
    Al (b + 1) (.bx 25) [a1] fun v3 =>
    Al (b + 2) (.nw 25 [.p (.int .i64 0), .p (.slice none 0 0), .p (.slice none 0 0)]) [] fun v4 =>
    RdS Try.prog (.ld 3 true) [v2] fun v13 =>
    RdS Try.prog (.ld 3 true) [v3] fun v14 =>
    Ca Try.prog (.fn (.func 39) [] []) [v13, v14] fun v15 =>
    Pu Try.prog (.bin .neq 28) [v15, (.p (.int .i64 0))] fun v17 =>
    CdA v17
      (
      Rg 4 fun b_9 =>
      Pu Try.prog (.bld [.p (.int .i64 0), .p (.slice none 0 0), .p (.slice none 0 0)] []) [] fun v18 =>
      WrS Try.prog (b_9 + 2) (.st 3) [v4, v18] fun _ =>
      RdS Try.prog (.ld 3 true) [v4] fun r4 =>
      Rt Try.prog H.nx (.tup [r4, v15]) Q
      ) (
      Rg 3 fun b_13 =>
      Pu Try.prog (.bld [.p (.int .i64 0), .p (.slice none 0 0), .p (.slice none 0 0), .p (.bool false)] []) [] fun v20 =>
      Al (b_13 + 1) (.bx 71) [v20] fun v21 =>
      Rg 5 fun b_16 =>
      Pu Try.prog .nilck [v21] fun v23 =>
      Pu Try.prog (.addOff 0) [v23] fun v24 =>
      Pu Try.prog (.addOff 0) [v24] fun v25 =>
      WrS Try.prog (b_16 + 4) (.st 1) [v25, (.p (.int .i64 1))] fun _ =>
      Rg 5 fun b_21 =>
      RdS Try.prog (.ld 3 true) [v2] fun v26 =>
      RdS Try.prog (.ld 3 true) [v3] fun v27 =>
      Al (b_21 + 2) (.bs 25 3 2 [.p (.int .i64 0), .p (.slice none 0 0), .p (.slice none 0 0)] [(0, 3), (3, 3)]) [v26, v27] fun v28 =>
      Pu Try.prog .len [v28] fun v29 =>
      LoopA Try.prog 1 (S_machine_Either_L2 Q H v4 v21 v28 v29) [(.p (.int .i64 0))]
      )
    ) H
theorem eq_machine_Either (a0 a1 : AV) (Q : AV → AH → Prop) (H : AH) : FnA Try.prog 61 (regsF Try.f20) ac_machine_Either [.ce 4 25, .tm 5] [a0, a1] H Q = S_machine_Either a0 a1 Q H := by kernel_rfl
theorem tri_machine_Either {a0 a1 : AV} {H : AH} {Q : AV → AH → Prop} (h : S_machine_Either a0 a1 Q H) : Tri Try.prog 20 [a0, a1] H Q :=
  tri_of (Ms := [#[], #[], #[], #[], #[], #[], #[], #[], #[], #[], #[], #[], #[], #[], #[], #[], #[], #[]]) mixed Try.func20 rfl (by kernel_rfl) (by kernel_rfl) rfl (of_decide_eq_true rfl : 2 ≤ 61) (by rw [eq_machine_Either a0 a1 Q H]; exact h : FnA Try.prog 61 (regsF Try.f20) ac_machine_Either [.ce 4 25, .tm 5] [a0, a1] H Q)

/-! wordhoard/machine.Chain -/
def ac_machine_Chain : AC := (.seq (.reg 0) (.seq (.seq (.reg 1) (.seq (.reg 2) (.cond (.tmp 17) (.seq (.reg 3) .ret) .skip))) (.seq (.reg 4) (.seq (.reg 5) (.seq (.reg 6) (.seq (.seq (.reg 7) (.block 0 (.loop [31] [(10, 11), (32, 43)] (.seq (.reg 8) (.seq (.cond (.tmp 32) .skip (.exit 0)) (.seq (.block 1 (.seq (.reg 9) (.reg 10))) (.reg 11))))))) (.seq (.seq (.reg 12) (.block 2 (.loop [46] [(12, 13), (47, 59)] (.seq (.reg 13) (.seq (.cond (.tmp 47) .skip (.exit 2)) (.seq (.block 3 (.seq (.reg 14) (.reg 15))) (.reg 16))))))) (.seq (.reg 17) .ret))))))))
def S_machine_Chain_L1 (Q : AV → AH → Prop) (H : AH) (v4 : AV) (v21 : AV) (v27 : AV) (v44 : AV) (v45 : AV) (vs_41 : List AV) (k_40 : List AV → AH → Prop) : AH → Prop :=
  Pu Try.prog (.bin .lss 3) [(vs_41.getD 0 .any), v45] fun v47 =>
  CdA v47
    (
    Rg 4 fun b_43 =>
    Pu Try.prog (.idx 2) [v44, (vs_41.getD 0 .any)] fun v48 =>
    RdS Try.prog (.ld 2 true) [v48] fun v49 =>
    Al (b_43 + 2) (.nw 56 [.p (.int .i64 0), .p (.int .i64 0)]) [] fun v12 =>
    WrS Try.prog (b_43 + 3) (.st 2) [v12, v49] fun _ =>
    Pu Try.prog (.addOff 0) [v12] fun v52 =>
    RdS Try.prog (.ld 1 false) [v52] fun v53 =>
    Pu Try.prog (.bin .add 3) [v27, v53] fun v54 =>
    Pu Try.prog (.addOff 1) [v12] fun v55 =>
    RdS Try.prog (.ld 1 false) [v55] fun v56 =>
    Ca Try.prog (.fn (.func 42) [] []) [v21, v54, v56] fun _ =>
    Pu Try.prog (.bin .add 3) [(vs_41.getD 0 .any), (.p (.int .i64 1))] fun v58 =>
    k_40 [v58]
    ) (
    Rg 6 fun b_55 =>
    Ca Try.prog (.fn (.func 43) [] []) [v21] fun v60 =>
    Pu Try.prog (.ext 0) [v60] fun v61 =>
    Pu Try.prog (.ext 1) [v60] fun v62 =>
    WrS Try.prog (b_55 + 4) (.st 3) [v4, v61] fun _ =>
    RdS Try.prog (.ld 3 true) [v4] fun r4_60 =>
    Rt Try.prog H.nx (.tup [r4_60, v62]) Q
    )
def S_machine_Chain_L2 (Q : AV → AH → Prop) (H : AH) (v3 : AV) (v4 : AV) (v21 : AV) (v27 : AV) (v29 : AV) (v30 : AV) (vs : List AV) (k : List AV → AH → Prop) : AH → Prop :=
  Pu Try.prog (.bin .lss 3) [(vs.getD 0 .any), v30] fun v32 =>
  CdA v32
    (
    Rg 4 fun b_26 =>
    Pu Try.prog (.idx 2) [v29, (vs.getD 0 .any)] fun v33 =>
    RdS Try.prog (.ld 2 true) [v33] fun v34 =>
    Al (b_26 + 2) (.nw 56 [.p (.int .i64 0), .p (.int .i64 0)]) [] fun v10 =>
    WrS Try.prog (b_26 + 3) (.st 2) [v10, v34] fun _ =>
    Pu Try.prog (.addOff 0) [v10] fun v36 =>
    RdS Try.prog (.ld 1 false) [v36] fun v37 =>
    Pu Try.prog (.addOff 1) [v10] fun v39 =>
    RdS Try.prog (.ld 1 false) [v39] fun v40 =>
    Ca Try.prog (.fn (.func 41) [] []) [v21, v37, v27, (.p (.int .i64 0)), (.p (.int .i64 0)), v40] fun _ =>
    Pu Try.prog (.bin .add 3) [(vs.getD 0 .any), (.p (.int .i64 1))] fun v42 =>
    k [v42]
    ) (
    Pu Try.prog (.addOff 2) [v3] fun v43 =>
    RdS Try.prog (.ld 1 false) [v43] fun v44 =>
    Pu Try.prog .len [v44] fun v45 =>
    LoopA Try.prog 1 (S_machine_Chain_L1 Q H v4 v21 v27 v44 v45) [(.p (.int .i64 0))]
    )
def S_machine_Chain (a0 a1 : AV) (Q : AV → AH → Prop) (H : AH) : Prop := (
    Rg 4 fun b =>
    Al (b + 0) (.bx 25) [a0] fun v2 =>
    Al (b + 1) (.bx 25) [a1] fun v3 =>
    Al (b + 2) (.nw 25 [.p (.int .i64 0), .p (.slice none 0 0), .p (.slice none 0 0)]) [] fun v4 =>
    RdS Try.prog (.ld 3 true) [v2] fun v13 =>
    RdS Try.prog (.ld 3 true) [v3] fun v14 =>
    Ca Try.prog (.fn (.func 39) [] []) [v13, v14] fun v15 =>
    Pu Try.prog (.bin .neq 28) [v15, (.p (.int .i64 0))] fun v17 =>
    CdA v17
      (
      Rg 4 fun b_9 =>
      Pu Try.prog (.bld [.p (.int .i64 0), .p (.slice none 0 0), .p (.slice none 0 0)] []) [] fun v18 =>
      WrS Try.prog (b_9 + 2) (.st 3) [v4, v18] fun _ =>
      RdS Try.prog (.ld 3 true) [v4] fun r4 =>
      Rt Try.prog H.nx (.tup [r4, v15]) Q
      ) (
      Rg 3 fun b_13 =>
      Pu Try.prog (.bld [.p (.int .i64 0), .p (.slice none 0 0), .p (.slice none 0 0), .p (.bool false)] []) [] fun v20 =>
      Al (b_13 + 1) (.bx 71) [v20] fun v21 =>
      RdS Try.prog (.ld 3 true) [v2] fun v23 =>
      Ca Try.prog (.fn (.func 44) [] []) [v21, v23] fun _ =>
      RdS Try.prog (.ld 3 true) [v3] fun v26 =>
      Ca Try.prog (.fn (.func 44) [] []) [v21, v26] fun v27 =>
      Pu Try.prog (.addOff 2) [v2] fun v28 =>
      RdS Try.prog (.ld 1 false) [v28] fun v29 =>
      Pu Try.prog .len [v29] fun v30 =>
      LoopA Try.prog 1 (S_machine_Chain_L2 Q H v3 v4 v21 v27 v29 v30) [(.p (.int .i64 0))]
      )
    ) H
theorem eq_machine_Chain (a0 a1 : AV) (Q : AV → AH → Prop) (H : AH) : FnA Try.prog 63 (regsF Try.f21) ac_machine_Chain [.ce 4 25, .tm 5] [a0, a1] H Q = S_machine_Chain a0 a1 Q H := by kernel_rfl
theorem tri_machine_Chain {a0 a1 : AV} {H : AH} {Q : AV → AH → Prop} (h : S_machine_Chain a0 a1 Q H) : Tri Try.prog 21 [a0, a1] H Q :=
  tri_of (Ms := [#[], #[], #[], #[], #[], #[], #[], #[], #[], #[], #[], #[], #[], #[], #[], #[], #[], #[]]) mixed Try.func21 rfl (by kernel_rfl) (by kernel_rfl) rfl (of_decide_eq_true rfl : 2 ≤ 63) (by rw [eq_machine_Chain a0 a1 Q H]; exact h : FnA Try.prog 63 (regsF Try.f21) ac_machine_Chain [.ce 4 25, .tm 5] [a0, a1] H Q)

/-! wordhoard/machine.Repeat -/
def ac_machine_Repeat : AC := (.seq (.reg 0) (.seq (.seq (.reg 1) (.seq (.reg 2) (.cond (.tmp 12) (.seq (.reg 3) .ret) .skip))) (.seq (.reg 4) (.seq (.reg 5) (.seq (.reg 6) (.seq (.reg 7) (.seq (.reg 8) (.seq (.seq (.reg 9) (.block 0 (.loop [32] [(8, 9), (33, 45)] (.seq (.reg 10) (.seq (.cond (.tmp 33) .skip (.exit 0)) (.seq (.block 1 (.seq (.reg 11) (.reg 12))) (.reg 13))))))) (.seq (.reg 14) .ret)))))))))
def S_machine_Repeat_L1 (Q : AV → AH → Prop) (H : AH) (v2 : AV) (v16 : AV) (v23 : AV) (v30 : AV) (v31 : AV) (vs : List AV) (k : List AV → AH → Prop) : AH → Prop :=
  Pu Try.prog (.bin .lss 3) [(vs.getD 0 .any), v31] fun v33 =>
  CdA v33
    (
    Rg 4 fun b_29 =>
    Pu Try.prog (.idx 2) [v30, (vs.getD 0 .any)] fun v34 =>
    RdS Try.prog (.ld 2 true) [v34] fun v35 =>
    Al (b_29 + 2) (.nw 56 [.p (.int .i64 0), .p (.int .i64 0)]) [] fun v8 =>
    WrS Try.prog (b_29 + 3) (.st 2) [v8, v35] fun _ =>
    Pu Try.prog (.addOff 0) [v8] fun v38 =>
    RdS Try.prog (.ld 1 false) [v38] fun v39 =>
    Pu Try.prog (.bin .add 3) [v23, v39] fun v40 =>
    Pu Try.prog (.addOff 1) [v8] fun v41 =>
    RdS Try.prog (.ld 1 false) [v41] fun v42 =>
    Ca Try.prog (.fn (.func 41) [] []) [v16, v40, (.p (.int .i64 0)), (.p (.int .i64 0)), (.p (.int .i64 0)), v42] fun _ =>
    Pu Try.prog (.bin .add 3) [(vs.getD 0 .any), (.p (.int .i64 1))] fun v44 =>
    k [v44]
    ) (
    Rg 6 fun b_41 =>
    Ca Try.prog (.fn (.func 43) [] []) [v16] fun v46 =>
    Pu Try.prog (.ext 0) [v46] fun v47 =>
    Pu Try.prog (.ext 1) [v46] fun v48 =>
    WrS Try.prog (b_41 + 4) (.st 3) [v2, v47] fun _ =>
    RdS Try.prog (.ld 3 true) [v2] fun r2_46 =>
    Rt Try.prog H.nx (.tup [r2_46, v48]) Q
    )
def S_machine_Repeat (a0 : AV) (Q : AV → AH → Prop) (H : AH) : Prop := (
    Rg 3 fun b =>
    Al (b + 0) (.bx 25) [a0] fun v1 =>
    Al (b + 1) (.nw 25 [.p (.int .i64 0), .p (.slice none 0 0), .p (.slice none 0 0)]) [] fun v2 =>
    RdS Try.prog (.ld 3 true) [v1] fun v9 =>
    Ca Try.prog (.fn (.func 8) [] []) [v9] fun v10 =>
    Pu Try.prog (.bin .neq 28) [v10, (.p (.int .i64 0))] fun v12 =>
    CdA v12
      (
      Rg 4 fun b_7 =>
      Pu Try.prog (.bld [.p (.int .i64 0), .p (.slice none 0 0), .p (.slice none 0 0)] []) [] fun v13 =>
      WrS Try.prog (b_7 + 2) (.st 3) [v2, v13] fun _ =>
      RdS Try.prog (.ld 3 true) [v2] fun r2 =>
      Rt Try.prog H.nx (.tup [r2, v10]) Q
      ) (
      Rg 3 fun b_11 =>
      Pu Try.prog (.bld [.p (.int .i64 0), .p (.slice none 0 0), .p (.slice none 0 0), .p (.bool false)] []) [] fun v15 =>
      Al (b_11 + 1) (.bx 71) [v15] fun v16 =>
      Rg 5 fun b_14 =>
      Pu Try.prog .nilck [v16] fun v18 =>
      Pu Try.prog (.addOff 0) [v18] fun v19 =>
      Pu Try.prog (.addOff 0) [v19] fun v20 =>
      WrS Try.prog (b_14 + 4) (.st 1) [v20, (.p (.int .i64 1))] fun _ =>
      RdS Try.prog (.ld 3 true) [v1] fun v22 =>
      Ca Try.prog (.fn (.func 44) [] []) [v16, v22] fun v23 =>
      Ca Try.prog (.fn (.func 41) [] []) [v16, (.p (.int .i64 0)), v23, (.p (.int .i64 0)), (.p (.int .i64 0)), (.p (.int .i64 0))] fun _ =>
      Ca Try.prog (.fn (.func 42) [] []) [v16, (.p (.int .i64 0)), (.p (.int .i64 0))] fun _ =>
      Pu Try.prog (.addOff 2) [v1] fun v29 =>
      RdS Try.prog (.ld 1 false) [v29] fun v30 =>
      Pu Try.prog .len [v30] fun v31 =>
      LoopA Try.prog 1 (S_machine_Repeat_L1 Q H v2 v16 v23 v30 v31) [(.p (.int .i64 0))]
      )
    ) H
theorem eq_machine_Repeat (a0 : AV) (Q : AV → AH → Prop) (H : AH) : FnA Try.prog 49 (regsF Try.f24) ac_machine_Repeat [.ce 2 25, .tm 3] [a0] H Q = S_machine_Repeat a0 Q H := by kernel_rfl
theorem tri_machine_Repeat {a0 : AV} {H : AH} {Q : AV → AH → Prop} (h : S_machine_Repeat a0 Q H) : Tri Try.prog 24 [a0] H Q :=
  tri_of (Ms := [#[], #[], #[], #[], #[], #[], #[], #[], #[], #[], #[], #[], #[], #[], #[]]) mixed Try.func24 rfl (by kernel_rfl) (by kernel_rfl) rfl (of_decide_eq_true rfl : 1 ≤ 49) (by rw [eq_machine_Repeat a0 Q H]; exact h : FnA Try.prog 49 (regsF Try.f24) ac_machine_Repeat [.ce 2 25, .tm 3] [a0] H Q)

/-! wordhoard/machine.Turn -/
def ac_machine_Turn : AC := (.seq (.reg 0) (.seq (.reg 1) .ret))
def S_machine_Turn (a0 : AV) (Q : AV → AH → Prop) (H : AH) : Prop := (
    Rg 3 fun b =>
    Al (b + 0) (.bx 25) [a0] fun v1 =>
    Al (b + 1) (.nw 25 [.p (.int .i64 0), .p (.slice none 0 0), .p (.slice none 0 0)]) [] fun v2 =>
    Rg 6 fun b_4 =>
    RdS Try.prog (.ld 3 true) [v1] fun v4 =>
    Ca Try.prog (.fn (.func 45) [] []) [v4, (.fn (.func 46) [] [])] fun v5 =>
    Pu Try.prog (.ext 0) [v5] fun v6 =>
    Pu Try.prog (.ext 1) [v5] fun v7 =>
    WrS Try.prog (b_4 + 4) (.st 3) [v2, v6] fun _ =>
    RdS Try.prog (.ld 3 true) [v2] fun r2 =>
    Rt Try.prog H.nx (.tup [r2, v7]) Q
    ) H
theorem eq_machine_Turn (a0 : AV) (Q : AV → AH → Prop) (H : AH) : FnA Try.prog 8 (regsF Try.f25) ac_machine_Turn [.ce 2 25, .tm 3] [a0] H Q = S_machine_Turn a0 Q H := by kernel_rfl
theorem tri_machine_Turn {a0 : AV} {H : AH} {Q : AV → AH → Prop} (h : S_machine_Turn a0 Q H) : Tri Try.prog 25 [a0] H Q :=
  tri_of (Ms := [#[], #[]]) mixed Try.func25 rfl (by kernel_rfl) (by kernel_rfl) rfl (of_decide_eq_true rfl : 1 ≤ 8) (by rw [eq_machine_Turn a0 Q H]; exact h : FnA Try.prog 8 (regsF Try.f25) ac_machine_Turn [.ce 2 25, .tm 3] [a0] H Q)

/-! wordhoard/machine.Side -/
def ac_machine_Side : AC := (.seq (.reg 0) (.seq (.reg 1) .ret))
def S_machine_Side (a0 : AV) (Q : AV → AH → Prop) (H : AH) : Prop := (
    Rg 3 fun b =>
    Al (b + 0) (.bx 25) [a0] fun v1 =>
    Al (b + 1) (.nw 25 [.p (.int .i64 0), .p (.slice none 0 0), .p (.slice none 0 0)]) [] fun v2 =>
    Rg 6 fun b_4 =>
    RdS Try.prog (.ld 3 true) [v1] fun v4 =>
    Ca Try.prog (.fn (.func 45) [] []) [v4, (.fn (.func 47) [] [])] fun v5 =>
    Pu Try.prog (.ext 0) [v5] fun v6 =>
    Pu Try.prog (.ext 1) [v5] fun v7 =>
    WrS Try.prog (b_4 + 4) (.st 3) [v2, v6] fun _ =>
    RdS Try.prog (.ld 3 true) [v2] fun r2 =>
    Rt Try.prog H.nx (.tup [r2, v7]) Q
    ) H
theorem eq_machine_Side (a0 : AV) (Q : AV → AH → Prop) (H : AH) : FnA Try.prog 8 (regsF Try.f26) ac_machine_Side [.ce 2 25, .tm 3] [a0] H Q = S_machine_Side a0 Q H := by kernel_rfl
theorem tri_machine_Side {a0 : AV} {H : AH} {Q : AV → AH → Prop} (h : S_machine_Side a0 Q H) : Tri Try.prog 26 [a0] H Q :=
  tri_of (Ms := [#[], #[]]) mixed Try.func26 rfl (by kernel_rfl) (by kernel_rfl) rfl (of_decide_eq_true rfl : 1 ≤ 8) (by rw [eq_machine_Side a0 Q H]; exact h : FnA Try.prog 8 (regsF Try.f26) ac_machine_Side [.ce 2 25, .tm 3] [a0] H Q)

/-! wordhoard/machine.Through$1 -/
def ac_machine_Through_fn1 : AC := (.seq (.reg 0) (.seq (.reg 1) (.seq (.reg 2) (.seq (.seq (.reg 3) (.cond (.tmp 21) (.seq (.reg 4) (.seq (.reg 5) (.seq (.reg 6) (.reg 7)))) .skip)) (.seq (.reg 8) .ret)))))
def S_machine_Through_fn1 (a0 a1 a2 a3 a4 : AV) (Q : AV → AH → Prop) (H : AH) : Prop := (
    Rg 5 fun b =>
    Pu Try.prog (.bld [.p (.int .i64 0), .p (.int .i64 0)] [(0, 1), (1, 1)]) [a0, a1] fun v13 =>
    Al (b + 3) (.nw 72 [.p (.int .i64 0), .p (.int .i64 0)]) [] fun v8 =>
    WrS Try.prog (b + 4) (.st 2) [v8, v13] fun _ =>
    RdS Try.prog (.ld 1 false) [a2] fun v15 =>
    RdS Try.prog (.ld 2 true) [v8] fun v16 =>
    RdS Try.prog (.look 72 (.p (.int .i64 0)) true) [v15, v16] fun v17 =>
    Pu Try.prog (.ext 0) [v17] fun v18 =>
    Pu Try.prog (.ext 1) [v17] fun v19 =>
    Pu Try.prog (.un .not) [v19] fun v21 =>
    CdA v21
      (
      RdS Try.prog (.ld 1 false) [a3] fun v22 =>
      Pu Try.prog .len [v22] fun v23 =>
      Rg 4 fun b_13 =>
      RdS Try.prog (.ld 1 false) [a2] fun v24 =>
      RdS Try.prog (.ld 2 true) [v8] fun v25 =>
      WrS Try.prog (b_13 + 3) (.mset 72) [v24, v25, v23] fun _ =>
      Rg 5 fun b_17 =>
      RdS Try.prog (.ld 1 false) [a3] fun v27 =>
      RdS Try.prog (.ld 2 true) [v8] fun v28 =>
      Al (b_17 + 2) (.bs 72 2 1 [.p (.int .i64 0), .p (.int .i64 0)] [(0, 2)]) [v28] fun v29 =>
      WrS Try.prog (b_17 + 3) (.app 72 2 16) [v27, v29] fun v30 =>
      WrS Try.prog (b_17 + 4) (.st 1) [a3, v30] fun _ =>
      Rg 10 fun b_23 =>
      RdS Try.prog (.ld 1 false) [a4] fun v31 =>
      Pu Try.prog .nilck [v31] fun v32 =>
      Pu Try.prog (.addOff 0) [v32] fun v33 =>
      Pu Try.prog (.addOff 0) [v33] fun v34 =>
      RdS Try.prog (.ld 1 false) [v34] fun v35 =>
      Pu Try.prog (.bin .add 3) [v35, (.p (.int .i64 1))] fun v36 =>
      Pu Try.prog .nilck [v31] fun v37 =>
      Pu Try.prog (.addOff 0) [v37] fun v38 =>
      Pu Try.prog (.addOff 0) [v38] fun v39 =>
      WrS Try.prog (b_23 + 9) (.st 1) [v39, v36] fun _ =>
      Rt Try.prog H.nx v23 Q
      ) (
      Rt Try.prog H.nx v18 Q
      )
    ) H
theorem eq_machine_Through_fn1 (a0 a1 a2 a3 a4 : AV) (Q : AV → AH → Prop) (H : AH) : FnA Try.prog 41 (regsF Try.f40) ac_machine_Through_fn1 [.tm 7] [a0, a1, a2, a3, a4] H Q = S_machine_Through_fn1 a0 a1 a2 a3 a4 Q H := by kernel_rfl
theorem tri_machine_Through_fn1 {a0 a1 a2 a3 a4 : AV} {H : AH} {Q : AV → AH → Prop} (h : S_machine_Through_fn1 a0 a1 a2 a3 a4 Q H) : Tri Try.prog 40 [a0, a1, a2, a3, a4] H Q :=
  tri_of (Ms := [#[], #[], #[], #[], #[], #[], #[], #[], #[]]) mixed Try.func40 rfl (by kernel_rfl) (by kernel_rfl) rfl (of_decide_eq_true rfl : 5 ≤ 41) (by rw [eq_machine_Through_fn1 a0 a1 a2 a3 a4 Q H]; exact h : FnA Try.prog 41 (regsF Try.f40) ac_machine_Through_fn1 [.tm 7] [a0, a1, a2, a3, a4] H Q)

/-! wordhoard/machine.turned -/
def ac_machine_turned : AC := (.seq (.reg 0) (.seq (.seq (.reg 1) (.seq (.reg 2) (.cond (.tmp 13) (.seq (.reg 3) .ret) .skip))) (.seq (.reg 4) (.seq (.seq (.reg 5) (.block 0 (.loop [25] [(9, 10), (26, 38)] (.seq (.reg 6) (.seq (.cond (.tmp 26) .skip (.exit 0)) (.seq (.block 1 (.seq (.reg 7) (.reg 8))) (.reg 9))))))) (.seq (.reg 10) .ret)))))
def S_machine_turned_L1 (a1 : AV) (Q : AV → AH → Prop) (H : AH) (v4 : AV) (v7 : AV) (v23 : AV) (v24 : AV) (vs : List AV) (k : List AV → AH → Prop) : AH → Prop :=
  Pu Try.prog (.bin .lss 3) [(vs.getD 0 .any), v24] fun v26 =>
  CdA v26
    (
    Rg 4 fun b_27 =>
    Pu Try.prog (.idx 5) [v23, (vs.getD 0 .any)] fun v27 =>
    RdS Try.prog (.ld 5 true) [v27] fun v28 =>
    Al (b_27 + 2) (.nw 53 [.p (.int .i64 0), .p (.int .i64 0), .p (.int .i64 0), .p (.int .i64 0), .p (.int .i64 0)]) [] fun v9 =>
    WrS Try.prog (b_27 + 3) (.st 5) [v9, v28] fun _ =>
    Rg 9 fun b_32 =>
    Vw fun V_33 =>
    Pu Try.prog (.addOff 1) [v7] fun v29 =>
    Rd Try.prog V_33 (.ld 1 false) [v29] fun v30 =>
    Rd Try.prog V_33 (.ld 5 true) [v9] fun v32 =>
    CaV Try.prog V_33 a1 [v32] fun v33 =>
    Al (b_32 + 5) (.bs 53 5 1 [.p (.int .i64 0), .p (.int .i64 0), .p (.int .i64 0), .p (.int .i64 0), .p (.int .i64 0)] [(0, 5)]) [v33] fun v34 =>
    Wr Try.prog (b_32 + 6) (.app 53 5 40) [v30, v34] fun v35 _ =>
    Pu Try.prog (.addOff 1) [v7] fun v36 =>
    Wr Try.prog (b_32 + 8) (.st 1) [v36, v35] fun _ _ =>
    Pu Try.prog (.bin .add 3) [(vs.getD 0 .any), (.p (.int .i64 1))] fun v37 =>
    k [v37]
    ) (
    Rg 3 fun b_45 =>
    RdS Try.prog (.ld 3 true) [v7] fun v38 =>
    WrS Try.prog (b_45 + 1) (.st 3) [v4, v38] fun _ =>
    RdS Try.prog (.ld 3 true) [v4] fun r4_48 =>
    Rt Try.prog H.nx (.tup [r4_48, (.p (.int .i64 0))]) Q
    )
def S_machine_turned (a0 a1 : AV) (Q : AV → AH → Prop) (H : AH) : Prop := (
    Rg 3 fun b =>
    Al (b + 0) (.bx 25) [a0] fun v2 =>
    Al (b + 1) (.nw 25 [.p (.int .i64 0), .p (.slice none 0 0), .p (.slice none 0 0)]) [] fun v4 =>
    RdS Try.prog (.ld 3 true) [v2] fun v10 =>
    Ca Try.prog (.fn (.func 8) [] []) [v10] fun v11 =>
    Pu Try.prog (.bin .neq 28) [v11, (.p (.int .i64 0))] fun v13 =>
    CdA v13
      (
      Rg 4 fun b_7 =>
      Pu Try.prog (.bld [.p (.int .i64 0), .p (.slice none 0 0), .p (.slice none 0 0)] []) [] fun v14 =>
      WrS Try.prog (b_7 + 2) (.st 3) [v4, v14] fun _ =>
      RdS Try.prog (.ld 3 true) [v4] fun r4 =>
      Rt Try.prog H.nx (.tup [r4, v11]) Q
      ) (
      Rg 8 fun b_11 =>
      Vw fun V =>
      Pu Try.prog (.addOff 0) [v2] fun v16 =>
      Rd Try.prog V (.ld 1 false) [v16] fun v17 =>
      Pu Try.prog (.addOff 2) [v2] fun v18 =>
      Rd Try.prog V (.ld 1 false) [v18] fun v19 =>
      CaV Try.prog V (.fn (.func 56) [] []) [v19] fun v20 =>
      Pu Try.prog (.bld [.p (.int .i64 0), .p (.slice none 0 0), .p (.slice none 0 0)] [(0, 1), (2, 1)]) [v17, v20] fun v21 =>
      Al (b_11 + 6) (.nw 25 [.p (.int .i64 0), .p (.slice none 0 0), .p (.slice none 0 0)]) [] fun v7 =>
      WrF V (some (b_11 + 6)) none (b_11 + 7) (.st 3) [v7, v21] fun _ =>
      Pu Try.prog (.addOff 1) [v2] fun v22 =>
      RdS Try.prog (.ld 1 false) [v22] fun v23 =>
      Pu Try.prog .len [v23] fun v24 =>
      LoopA Try.prog 1 (S_machine_turned_L1 a1 Q H v4 v7 v23 v24) [(.p (.int .i64 0))]
      )
    ) H
theorem eq_machine_turned (a0 a1 : AV) (Q : AV → AH → Prop) (H : AH) : FnA Try.prog 39 (regsF Try.f45) ac_machine_turned [.ce 4 25, .tm 5] [a0, a1] H Q = S_machine_turned a0 a1 Q H := by kernel_rfl
theorem tri_machine_turned {a0 a1 : AV} {H : AH} {Q : AV → AH → Prop} (h : S_machine_turned a0 a1 Q H) : Tri Try.prog 45 [a0, a1] H Q :=
  tri_of (Ms := [#[], #[], #[], #[], #[0, 1, 0, 4, 12, 31, 0, 127], #[], #[], #[], #[0, 1, 0, 0, 12, 28, 63, 127, 255], #[], #[]]) mixed Try.func45 rfl (by kernel_rfl) (by kernel_rfl) rfl (of_decide_eq_true rfl : 2 ≤ 39) (by rw [eq_machine_turned a0 a1 Q H]; exact h : FnA Try.prog 39 (regsF Try.f45) ac_machine_turned [.ce 4 25, .tm 5] [a0, a1] H Q)

/-! wordhoard/machine.Turn$1 -/
def ac_machine_Turn_fn1 : AC := (.seq (.reg 0) (.seq (.reg 1) (.seq (.reg 2) .ret)))
def S_machine_Turn_fn1 (a0 : AV) (Q : AV → AH → Prop) (H : AH) : Prop := (
    Rg 2 fun b =>
    Al (b + 0) (.bx 53) [a0] fun v1 =>
    Al (b + 1) (.nw 53 [.p (.int .i64 0), .p (.int .i64 0), .p (.int .i64 0), .p (.int .i64 0), .p (.int .i64 0)]) [] fun v2 =>
    Rg 8 fun b_4 =>
    Pu Try.prog (.addOff 3) [v1] fun v3 =>
    RdS Try.prog (.ld 1 false) [v3] fun v4 =>
    Pu Try.prog (.addOff 2) [v1] fun v5 =>
    RdS Try.prog (.ld 1 false) [v5] fun v6 =>
    Pu Try.prog (.addOff 2) [v1] fun v7 =>
    WrS Try.prog (b_4 + 5) (.st 1) [v7, v4] fun _ =>
    Pu Try.prog (.addOff 3) [v1] fun v8 =>
    WrS Try.prog (b_4 + 7) (.st 1) [v8, v6] fun _ =>
    Rg 2 fun b_13 =>
    RdS Try.prog (.ld 5 true) [v1] fun v9 =>
    WrS Try.prog (b_13 + 1) (.st 5) [v2, v9] fun _ =>
    RdS Try.prog (.ld 5 true) [v2] fun r2 =>
    Rt Try.prog H.nx r2 Q
    ) H
theorem eq_machine_Turn_fn1 (a0 : AV) (Q : AV → AH → Prop) (H : AH) : FnA Try.prog 10 (regsF Try.f46) ac_machine_Turn_fn1 [.ce 2 53] [a0] H Q = S_machine_Turn_fn1 a0 Q H := by kernel_rfl
theorem tri_machine_Turn_fn1 {a0 : AV} {H : AH} {Q : AV → AH → Prop} (h : S_machine_Turn_fn1 a0 Q H) : Tri Try.prog 46 [a0] H Q :=
  tri_of (Ms := [#[], #[], #[]]) mixed Try.func46 rfl (by kernel_rfl) (by kernel_rfl) rfl (of_decide_eq_true rfl : 1 ≤ 10) (by rw [eq_machine_Turn_fn1 a0 Q H]; exact h : FnA Try.prog 10 (regsF Try.f46) ac_machine_Turn_fn1 [.ce 2 53] [a0] H Q)

/-! wordhoard/machine.Side$1 -/
def ac_machine_Side_fn1 : AC := (.seq (.reg 0) (.seq (.reg 1) (.seq (.reg 2) .ret)))
def S_machine_Side_fn1 (a0 : AV) (Q : AV → AH → Prop) (H : AH) : Prop := (
    Rg 2 fun b =>
    Al (b + 0) (.bx 53) [a0] fun v1 =>
    Al (b + 1) (.nw 53 [.p (.int .i64 0), .p (.int .i64 0), .p (.int .i64 0), .p (.int .i64 0), .p (.int .i64 0)]) [] fun v2 =>
    Rg 4 fun b_4 =>
    Pu Try.prog (.addOff 2) [v1] fun v3 =>
    RdS Try.prog (.ld 1 false) [v3] fun v4 =>
    Pu Try.prog (.addOff 3) [v1] fun v5 =>
    WrS Try.prog (b_4 + 3) (.st 1) [v5, v4] fun _ =>
    Rg 2 fun b_9 =>
    RdS Try.prog (.ld 5 true) [v1] fun v6 =>
    WrS Try.prog (b_9 + 1) (.st 5) [v2, v6] fun _ =>
    RdS Try.prog (.ld 5 true) [v2] fun r2 =>
    Rt Try.prog H.nx r2 Q
    ) H
theorem eq_machine_Side_fn1 (a0 : AV) (Q : AV → AH → Prop) (H : AH) : FnA Try.prog 7 (regsF Try.f47) ac_machine_Side_fn1 [.ce 2 53] [a0] H Q = S_machine_Side_fn1 a0 Q H := by kernel_rfl
theorem tri_machine_Side_fn1 {a0 : AV} {H : AH} {Q : AV → AH → Prop} (h : S_machine_Side_fn1 a0 Q H) : Tri Try.prog 47 [a0] H Q :=
  tri_of (Ms := [#[], #[], #[]]) mixed Try.func47 rfl (by kernel_rfl) (by kernel_rfl) rfl (of_decide_eq_true rfl : 1 ≤ 7) (by rw [eq_machine_Side_fn1 a0 Q H]; exact h : FnA Try.prog 7 (regsF Try.f47) ac_machine_Side_fn1 [.ce 2 53] [a0] H Q)
end Go.Proofs.Ytgkkilbeingleaa
