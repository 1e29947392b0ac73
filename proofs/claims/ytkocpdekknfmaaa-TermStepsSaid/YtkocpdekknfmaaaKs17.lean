/- Texts that the proof rests on, part 17: what each holds stands at its head. -/
import Derived.Test.YtkocpdekknfmaaaKs16

/- Abstract walks of functions, written by a program (wip/aw/aw.py): each equation is checked by the kernel. -/
namespace Go.Proofs.Ytkocpdekknfmaaa
open Go.RowKit

/-! wordhoard/term.TypeOf -/
def ac_term_TypeOf : AC := (.seq (.reg 0) (.seq (.seq (.reg 1) (.cond (.tmp 14) (.seq (.reg 2) .ret) .skip)) (.seq (.seq (.reg 3) (.block 0 (.loop [18] [(5, 6), (7, 9), (19, 29)] (.seq (.reg 4) (.seq (.cond (.tmp 19) .skip (.exit 0)) (.seq (.block 1 (.seq (.reg 5) (.seq (.reg 6) (.seq (.reg 7) (.cond (.tmp 25) (.seq (.reg 8) .ret) .skip))))) (.reg 9))))))) (.seq (.seq (.reg 10) (.seq (.reg 11) (.cond (.tmp 32) (.seq (.reg 12) .ret) .skip))) (.seq (.reg 13) (.seq (.seq (.reg 14) (.cond (.tmp 42) (.seq (.reg 15) .ret) .skip)) (.seq (.reg 16) .ret)))))))
def S_term_TypeOf_C1 (a1 : AV) (Q : AV → AH → Prop) (H : AH) (v2 : AV) (v4 : AV) : AH → Prop :=
  RdS Try.prog (.ld 6 true) [v2] fun v29 =>
  Ca Try.prog (.fn (.func 19) [] []) [v29] fun v30 =>
  Pu Try.prog (.bin .neq 28) [v30, (.p (.int .i64 0))] fun v32 =>
  CdA v32
    (
    Rg 4 fun b_30 =>
    Pu Try.prog (.bld [.p (.int .i64 0), .p (.int .i64 0), .p (.slice none 0 0)] []) [] fun v33 =>
    WrS Try.prog (b_30 + 2) (.st 3) [v4, v33] fun _ =>
    RdS Try.prog (.ld 3 true) [v4] fun r4_33 =>
    Rt Try.prog H.nx (.tup [r4_33, v30]) Q
    ) (
    Rg 9 fun b_34 =>
    RdS Try.prog (.ld 6 true) [v2] fun v36 =>
    Ca Try.prog (.fn (.func 35) [] []) [v36, a1, (.p (.slice none 0 0))] fun v38 =>
    Pu Try.prog (.ext 0) [v38] fun v39 =>
    Pu Try.prog (.ext 1) [v38] fun v40 =>
    Al (b_34 + 6) (.nw 24 [.p (.int .i64 0), .p (.int .i64 0), .p (.slice none 0 0)]) [] fun v10 =>
    WrS Try.prog (b_34 + 7) (.st 3) [v10, v39] fun _ =>
    Pu Try.prog (.bin .neq 28) [v40, (.p (.int .i64 0))] fun v42 =>
    CdA v42
      (
      Rg 4 fun b_42 =>
      Pu Try.prog (.bld [.p (.int .i64 0), .p (.int .i64 0), .p (.slice none 0 0)] []) [] fun v43 =>
      WrS Try.prog (b_42 + 2) (.st 3) [v4, v43] fun _ =>
      RdS Try.prog (.ld 3 true) [v4] fun r4_45 =>
      Rt Try.prog H.nx (.tup [r4_45, v40]) Q
      ) (
      Rg 4 fun b_46 =>
      RdS Try.prog (.ld 3 true) [v10] fun v45 =>
      Ca Try.prog (.fn (.func 36) [] []) [v45] fun v46 =>
      WrS Try.prog (b_46 + 2) (.st 3) [v4, v46] fun _ =>
      RdS Try.prog (.ld 3 true) [v4] fun r4_50 =>
      Rt Try.prog H.nx (.tup [r4_50, (.p (.int .i64 0))]) Q
      )
    )
def S_term_TypeOf_L2 (a1 : AV) (Q : AV → AH → Prop) (H : AH) (v2 : AV) (v4 : AV) (v17 : AV) (vs : List AV) (k : List AV → AH → Prop) : AH → Prop :=
  Pu Try.prog (.bin .lss 3) [(vs.getD 0 .any), v17] fun v19 =>
  CdA v19
    (
    Rg 4 fun b_14 =>
    Pu Try.prog (.idx 3) [a1, (vs.getD 0 .any)] fun v20 =>
    RdS Try.prog (.ld 3 true) [v20] fun v21 =>
    Al (b_14 + 2) (.nw 24 [.p (.int .i64 0), .p (.int .i64 0), .p (.slice none 0 0)]) [] fun v7 =>
    WrS Try.prog (b_14 + 3) (.st 3) [v7, v21] fun _ =>
    RdS Try.prog (.ld 3 true) [v7] fun v22 =>
    Ca Try.prog (.fn (.func 21) [] []) [v22] fun v23 =>
    Pu Try.prog (.bin .neq 28) [v23, (.p (.int .i64 0))] fun v25 =>
    CdA v25
      (
      Rg 4 fun b_22 =>
      Pu Try.prog (.bld [.p (.int .i64 0), .p (.int .i64 0), .p (.slice none 0 0)] []) [] fun v26 =>
      WrS Try.prog (b_22 + 2) (.st 3) [v4, v26] fun _ =>
      RdS Try.prog (.ld 3 true) [v4] fun r4_25 =>
      Rt Try.prog H.nx (.tup [r4_25, v23]) Q
      ) (
      Pu Try.prog (.bin .add 3) [(vs.getD 0 .any), (.p (.int .i64 1))] fun v28 =>
      k [v28]
      )
    ) (S_term_TypeOf_C1 a1 Q H v2 v4)
def S_term_TypeOf (a0 a1 : AV) (Q : AV → AH → Prop) (H : AH) : Prop := (
    Rg 3 fun b =>
    Al (b + 0) (.bx 27) [a0] fun v2 =>
    Al (b + 1) (.nw 24 [.p (.int .i64 0), .p (.int .i64 0), .p (.slice none 0 0)]) [] fun v4 =>
    Pu Try.prog .len [a1] fun v13 =>
    Pu Try.prog (.bin .gtr 3) [v13, (.p (.int .i64 20))] fun v14 =>
    CdA v14
      (
      Rg 3 fun b_6 =>
      Pu Try.prog (.bld [.p (.int .i64 0), .p (.int .i64 0), .p (.slice none 0 0)] []) [] fun v15 =>
      WrS Try.prog (b_6 + 1) (.st 3) [v4, v15] fun _ =>
      RdS Try.prog (.ld 3 true) [v4] fun r4 =>
      Rt Try.prog H.nx (.tup [r4, (.p (.int .i64 7))]) Q
      ) (
      Pu Try.prog .len [a1] fun v17 =>
      LoopA Try.prog 1 (S_term_TypeOf_L2 a1 Q H v2 v4 v17) [(.p (.int .i64 0))]
      )
    ) H
theorem eq_term_TypeOf (a0 a1 : AV) (Q : AV → AH → Prop) (H : AH) : FnA Try.prog 47 (regsF Try.f17) ac_term_TypeOf [.ce 4 24, .tm 5] [a0, a1] H Q = S_term_TypeOf a0 a1 Q H := by kernel_rfl
theorem tri_term_TypeOf {a0 a1 : AV} {H : AH} {Q : AV → AH → Prop} (h : S_term_TypeOf a0 a1 Q H) : Tri Try.prog 17 [a0, a1] H Q :=
  tri_of (Ms := [#[], #[], #[], #[], #[], #[], #[], #[], #[], #[], #[], #[], #[], #[], #[], #[], #[]]) mixed Try.func17 rfl (by kernel_rfl) (by kernel_rfl) rfl (of_decide_eq_true rfl : 2 ≤ 47) ((eq_term_TypeOf a0 a1 Q H).symm ▸ h : FnA Try.prog 47 (regsF Try.f17) ac_term_TypeOf [.ce 4 24, .tm 5] [a0, a1] H Q)

/-! wordhoard/term.typeOf -/
def ac_term_typeOf : AC := (.seq (.reg 0) (.seq (.reg 1) (.seq (.seq (.reg 2) (.block 0 (.loop [8, 18] [(7, 8), (10, 14), (19, 48)] (.seq (.reg 3) (.seq (.cond (.tmp 19) .skip (.exit 0)) (.seq (.block 1 (.seq (.reg 4) (.seq (.reg 5) (.cut [11] [(23, 32)] (.seq (.reg 6) (.cond (.tmp 25) (.reg 7) .skip)) (.seq (.reg 8) (.seq (.seq (.reg 9) (.cond (.tmp 40) (.seq (.reg 10) .ret) .skip)) (.reg 11))))))) (.reg 12))))))) (.seq (.seq (.reg 13) (.block 2 (.seq (.reg 14) (.cond (.tmp 50) (.seq (.seq (.reg 15) (.cond (.tmp 56) (.seq (.reg 16) .ret) .skip)) (.seq (.reg 17) .ret)) (.seq (.reg 18) (.cond (.tmp 67) (.seq (.seq (.reg 19) (.cond (.tmp 73) (.seq (.reg 20) .ret) .skip)) (.seq (.reg 21) .ret)) (.seq (.reg 22) (.cond (.tmp 80) (.seq (.reg 23) (.seq (.seq (.reg 24) (.cond (.tmp 91) (.seq (.reg 25) .ret) .skip)) (.seq (.reg 26) .ret))) .skip)))))))) (.seq (.seq (.reg 27) (.cond (.tmp 111) (.seq (.reg 28) .ret) .skip)) (.seq (.reg 29) .ret))))))
def S_term_typeOf_K1 (a1 : AV) (Q : AV → AH → Prop) (H : AH) (v6 : AV) (k : List AV → AH → Prop) (vs : List AV) (v10 : AV) (vs_16 : List AV) : AH → Prop :=
  Rg 10 fun b_17 =>
  RdS Try.prog (.ld 6 true) [v10] fun v33 =>
  Ca Try.prog (.fn (.func 35) [] []) [v33, a1, (vs_16.getD 0 .any)] fun v36 =>
  Pu Try.prog (.ext 0) [v36] fun v37 =>
  Pu Try.prog (.ext 1) [v36] fun v38 =>
  Al (b_17 + 7) (.nw 24 [.p (.int .i64 0), .p (.int .i64 0), .p (.slice none 0 0)]) [] fun v12 =>
  WrS Try.prog (b_17 + 8) (.st 3) [v12, v37] fun _ =>
  Pu Try.prog (.bin .neq 28) [v38, (.p (.int .i64 0))] fun v40 =>
  CdA v40
    (
    Rg 4 fun b_25 =>
    RdS Try.prog (.ld 3 true) [v12] fun v41 =>
    WrS Try.prog (b_25 + 2) (.st 3) [v6, v41] fun _ =>
    RdS Try.prog (.ld 3 true) [v6] fun r6 =>
    Rt Try.prog H.nx (.tup [r6, v38]) Q
    ) (
    Rg 5 fun b_29 =>
    RdS Try.prog (.ld 3 true) [v12] fun v44 =>
    Al (b_29 + 2) (.bs 24 3 1 [.p (.int .i64 0), .p (.int .i64 0), .p (.slice none 0 0)] [(0, 3)]) [v44] fun v45 =>
    WrS Try.prog (b_29 + 3) (.app 24 3 40) [(vs.getD 0 .any), v45] fun v46 =>
    Pu Try.prog (.bin .add 3) [(vs.getD 1 .any), (.p (.int .i64 1))] fun v47 =>
    k [v46, v47]
    )
def S_term_typeOf_C2 (Q : AV → AH → Prop) (H : AH) (v3 : AV) (v6 : AV) (vs : List AV) : AH → Prop :=
  Rg 9 fun b_82 =>
  Vw fun V_83 =>
  Pu Try.prog (.addOff 2) [v3] fun v82 =>
  Rd Try.prog V_83 (.ld 3 true) [v82] fun v83 =>
  Pu Try.prog (.idx 3) [(vs.getD 0 .any), (.p (.int .i64 0))] fun v85 =>
  Rd Try.prog V_83 (.ld 3 true) [v85] fun v86 =>
  Al (b_82 + 5) (.bs 24 3 2 [.p (.int .i64 0), .p (.int .i64 0), .p (.slice none 0 0)] [(0, 3), (3, 3)]) [v83, v86] fun v87 =>
  Pu Try.prog (.bld [.p (.int .i64 0), .p (.int .i64 0), .p (.slice none 0 0)] [(0, 1), (2, 1)]) [(.p (.int .i64 2)), v87] fun v88 =>
  Al (b_82 + 7) (.nw 24 [.p (.int .i64 0), .p (.int .i64 0), .p (.slice none 0 0)]) [] fun v14 =>
  WrF V_83 (some (b_82 + 7)) none (b_82 + 8) (.st 3) [v14, v88] fun _ =>
  RdS Try.prog (.ld 3 true) [v14] fun v89 =>
  Ca Try.prog (.fn (.func 40) [] []) [v89, (.p (.int .i64 60))] fun v90 =>
  Pu Try.prog (.bin .gtr 3) [v90, (.p (.int .i64 60))] fun v91 =>
  CdA v91
    (
    Rg 3 fun b_95 =>
    Pu Try.prog (.bld [.p (.int .i64 0), .p (.int .i64 0), .p (.slice none 0 0)] []) [] fun v92 =>
    WrS Try.prog (b_95 + 1) (.st 3) [v6, v92] fun _ =>
    RdS Try.prog (.ld 3 true) [v6] fun r6_98 =>
    Rt Try.prog H.nx (.tup [r6_98, (.p (.int .i64 7))]) Q
    ) (
    Rg 3 fun b_99 =>
    RdS Try.prog (.ld 3 true) [v14] fun v93 =>
    WrS Try.prog (b_99 + 1) (.st 3) [v6, v93] fun _ =>
    RdS Try.prog (.ld 3 true) [v6] fun r6_102 =>
    Rt Try.prog H.nx (.tup [r6_102, (.p (.int .i64 0))]) Q
    )
def S_term_typeOf_C3 (Q : AV → AH → Prop) (H : AH) (v6 : AV) (vs : List AV) : AH → Prop :=
  Vw fun V_103 =>
  Pu Try.prog (.idx 3) [(vs.getD 0 .any), (.p (.int .i64 0))] fun v95 =>
  Pu Try.prog (.addOff 0) [v95] fun v96 =>
  Rd Try.prog V_103 (.ld 1 false) [v96] fun v97 =>
  Pu Try.prog (.bin .neq 3) [v97, (.p (.int .i64 2))] fun v98 =>
  GdV v98 false (fun k_109 => k_109 (vs.getD 0 .any) V_103) V_103 fun v100 V_110 =>
  GdV v98 false (fun k_112 => Pu Try.prog (.idx 3) [v100, (.p (.int .i64 0))] (fun a => k_112 a V_110)) V_110 fun v101 V_113 =>
  GdV v98 false (fun k_115 => Pu Try.prog (.addOff 2) [v101] (fun a => k_115 a V_113)) V_113 fun v102 V_116 =>
  GdV v98 false (fun k_118 => Rd Try.prog V_116 (.ld 1 false) [v102] (fun a => k_118 a V_116)) V_116 fun v103 V_119 =>
  GdV v98 false (fun k_121 => Pu Try.prog (.idx 3) [v103, (.p (.int .i64 0))] (fun a => k_121 a V_119)) V_119 fun v104 V_122 =>
  GdV v98 false (fun k_124 => Rd Try.prog V_122 (.ld 3 true) [v104] (fun a => k_124 a V_122)) V_122 fun v105 V_125 =>
  GdV v98 false (fun k_127 => k_127 (vs.getD 0 .any) V_125) V_125 fun v106 V_128 =>
  GdV v98 false (fun k_130 => Pu Try.prog (.idx 3) [v106, (.p (.int .i64 1))] (fun a => k_130 a V_128)) V_128 fun v107 V_131 =>
  GdV v98 false (fun k_133 => Rd Try.prog V_131 (.ld 3 true) [v107] (fun a => k_133 a V_131)) V_131 fun v108 V_134 =>
  GdV v98 false (fun k_136 => CaV Try.prog V_134 (.fn (.func 49) [] []) [v105, v108] (fun a => k_136 a V_134)) V_134 fun v109 V_137 =>
  GdV v98 false (fun k_139 => Pu Try.prog (.un .not) [v109] (fun a => k_139 a V_137)) V_137 fun v110 _ =>
  Pu Try.prog .pick [v98, (.p (.bool true)), v110] fun v111 =>
  CdA v111
    (
    Rg 3 fun b_142 =>
    Pu Try.prog (.bld [.p (.int .i64 0), .p (.int .i64 0), .p (.slice none 0 0)] []) [] fun v112 =>
    WrS Try.prog (b_142 + 1) (.st 3) [v6, v112] fun _ =>
    RdS Try.prog (.ld 3 true) [v6] fun r6_145 =>
    Rt Try.prog H.nx (.tup [r6_145, (.p (.int .i64 9))]) Q
    ) (
    Rg 8 fun b_146 =>
    Pu Try.prog (.idx 3) [(vs.getD 0 .any), (.p (.int .i64 0))] fun v114 =>
    Pu Try.prog (.addOff 2) [v114] fun v115 =>
    RdS Try.prog (.ld 1 false) [v115] fun v116 =>
    Pu Try.prog (.idx 3) [v116, (.p (.int .i64 1))] fun v117 =>
    RdS Try.prog (.ld 3 true) [v117] fun v118 =>
    WrS Try.prog (b_146 + 6) (.st 3) [v6, v118] fun _ =>
    RdS Try.prog (.ld 3 true) [v6] fun r6_153 =>
    Rt Try.prog H.nx (.tup [r6_153, (.p (.int .i64 0))]) Q
    )
def S_term_typeOf_C4 (a1 : AV) (a2 : AV) (Q : AV → AH → Prop) (H : AH) (v3 : AV) (v6 : AV) (vs : List AV) : AH → Prop :=
  Pu Try.prog (.addOff 0) [v3] fun v48 =>
  RdS Try.prog (.ld 1 false) [v48] fun v49 =>
  Pu Try.prog (.bin .eql 3) [v49, (.p (.int .i64 1))] fun v51 =>
  CdA v51
    (
    Pu Try.prog (.addOff 1) [v3] fun v52 =>
    RdS Try.prog (.ld 1 false) [v52] fun v53 =>
    Pu Try.prog .len [a2] fun v55 =>
    Pu Try.prog (.bin .geq 3) [v53, v55] fun v56 =>
    CdA v56
      (
      Rg 3 fun b_51 =>
      Pu Try.prog (.bld [.p (.int .i64 0), .p (.int .i64 0), .p (.slice none 0 0)] []) [] fun v57 =>
      WrS Try.prog (b_51 + 1) (.st 3) [v6, v57] fun _ =>
      RdS Try.prog (.ld 3 true) [v6] fun r6_54 =>
      Rt Try.prog H.nx (.tup [r6_54, (.p (.int .i64 8))]) Q
      ) (
      Rg 11 fun b_55 =>
      Pu Try.prog .len [a2] fun v60 =>
      Pu Try.prog (.bin .sub 3) [v60, (.p (.int .i64 1))] fun v61 =>
      Pu Try.prog (.addOff 1) [v3] fun v62 =>
      RdS Try.prog (.ld 1 false) [v62] fun v63 =>
      Pu Try.prog (.bin .sub 3) [v61, v63] fun v64 =>
      Pu Try.prog (.idx 3) [a2, v64] fun v65 =>
      RdS Try.prog (.ld 3 true) [v65] fun v66 =>
      WrS Try.prog (b_55 + 9) (.st 3) [v6, v66] fun _ =>
      RdS Try.prog (.ld 3 true) [v6] fun r6_64 =>
      Rt Try.prog H.nx (.tup [r6_64, (.p (.int .i64 0))]) Q
      )
    ) (
    Pu Try.prog (.bin .eql 3) [v49, (.p (.int .i64 2))] fun v68 =>
    CdA v68
      (
      Pu Try.prog (.addOff 1) [v3] fun v69 =>
      RdS Try.prog (.ld 1 false) [v69] fun v70 =>
      Pu Try.prog .len [a1] fun v72 =>
      Pu Try.prog (.bin .geq 3) [v70, v72] fun v73 =>
      CdA v73
        (
        Rg 3 fun b_70 =>
        Pu Try.prog (.bld [.p (.int .i64 0), .p (.int .i64 0), .p (.slice none 0 0)] []) [] fun v74 =>
        WrS Try.prog (b_70 + 1) (.st 3) [v6, v74] fun _ =>
        RdS Try.prog (.ld 3 true) [v6] fun r6_73 =>
        Rt Try.prog H.nx (.tup [r6_73, (.p (.int .i64 8))]) Q
        ) (
        Rg 7 fun b_74 =>
        Pu Try.prog (.addOff 1) [v3] fun v76 =>
        RdS Try.prog (.ld 1 false) [v76] fun v77 =>
        Pu Try.prog (.idx 3) [a1, v77] fun v78 =>
        RdS Try.prog (.ld 3 true) [v78] fun v79 =>
        WrS Try.prog (b_74 + 5) (.st 3) [v6, v79] fun _ =>
        RdS Try.prog (.ld 3 true) [v6] fun r6_80 =>
        Rt Try.prog H.nx (.tup [r6_80, (.p (.int .i64 0))]) Q
        )
      ) (
      Pu Try.prog (.bin .eql 3) [v49, (.p (.int .i64 3))] fun v81 =>
      CdA v81
        (S_term_typeOf_C2 Q H v3 v6 vs) (S_term_typeOf_C3 Q H v6 vs)
      )
    )
def S_term_typeOf_L5 (a1 : AV) (a2 : AV) (Q : AV → AH → Prop) (H : AH) (v3 : AV) (v6 : AV) (v16 : AV) (v17 : AV) (vs : List AV) (k : List AV → AH → Prop) : AH → Prop :=
  Pu Try.prog (.bin .lss 3) [(vs.getD 1 .any), v17] fun v19 =>
  CdA v19
    (
    Rg 4 fun b_10 =>
    Pu Try.prog (.idx 6) [v16, (vs.getD 1 .any)] fun v20 =>
    RdS Try.prog (.ld 6 true) [v20] fun v21 =>
    Al (b_10 + 2) (.nw 27 [.p (.int .i64 0), .p (.int .i64 0), .p (.int .i64 0), .p (.int .i64 0), .p (.slice none 0 0), .p (.slice none 0 0)]) [] fun v10 =>
    WrS Try.prog (b_10 + 3) (.st 6) [v10, v21] fun _ =>
    CutA Try.prog 1 (fun k_15 =>
      Pu Try.prog (.addOff 0) [v3] fun v23 =>
      RdS Try.prog (.ld 1 false) [v23] fun v24 =>
      Pu Try.prog (.bin .eql 3) [v24, (.p (.int .i64 3))] fun v25 =>
      CdA v25
        (
        Rg 7 fun b_37 =>
        Vw fun V =>
        CaR Try.prog V (b_37 + 1) [] (.fn (.func 48) [] []) [a2] fun v27 =>
        Pu Try.prog (.addOff 2) [v3] fun v28 =>
        Rd Try.prog V (.ld 3 true) [v28] fun v29 =>
        Al (b_37 + 4) (.bs 24 3 1 [.p (.int .i64 0), .p (.int .i64 0), .p (.slice none 0 0)] [(0, 3)]) [v29] fun v30 =>
        WrF V (some (b_37 + 1)) (some (b_37 + 4)) (b_37 + 5) (.app 24 3 40) [v27, v30] fun v31 =>
        k_15 [v31]
        ) (
        k_15 [a2]
        )
      ) (S_term_typeOf_K1 a1 Q H v6 k vs v10)
    ) (S_term_typeOf_C4 a1 a2 Q H v3 v6 vs)
def S_term_typeOf (a0 a1 a2 : AV) (Q : AV → AH → Prop) (H : AH) : Prop := (
    Rg 3 fun b =>
    Al (b + 0) (.bx 27) [a0] fun v3 =>
    Al (b + 1) (.nw 24 [.p (.int .i64 0), .p (.int .i64 0), .p (.slice none 0 0)]) [] fun v6 =>
    Pu Try.prog (.addOff 5) [v3] fun v15 =>
    RdS Try.prog (.ld 1 false) [v15] fun v16 =>
    Pu Try.prog .len [v16] fun v17 =>
    LoopA Try.prog 2 (S_term_typeOf_L5 a1 a2 Q H v3 v6 v16 v17) [(.p (.slice none 0 0)), (.p (.int .i64 0))]
    ) H
theorem eq_term_typeOf (a0 a1 a2 : AV) (Q : AV → AH → Prop) (H : AH) : FnA Try.prog 119 (regsF Try.f35) ac_term_typeOf [.ce 6 24, .tm 7] [a0, a1, a2] H Q = S_term_typeOf a0 a1 a2 Q H := by kernel_rfl
theorem tri_term_typeOf {a0 a1 a2 : AV} {H : AH} {Q : AV → AH → Prop} (h : S_term_typeOf a0 a1 a2 Q H) : Tri Try.prog 35 [a0, a1, a2] H Q :=
  tri_of (Ms := [#[], #[], #[], #[], #[], #[], #[], #[0, 1, 0, 4, 12, 31, 63], #[], #[], #[], #[], #[], #[], #[], #[], #[], #[], #[], #[], #[], #[], #[], #[0, 1, 0, 4, 12, 31, 63, 0, 255], #[], #[], #[], #[0, 1, 3, 7, 15, 31, 63, 127, 255, 511, 1023, 2047, 63, 4159, 12351, 32767, 65535, 131071], #[], #[]]) mixed Try.func35 rfl (by kernel_rfl) (by kernel_rfl) rfl (of_decide_eq_true rfl : 3 ≤ 119) ((eq_term_typeOf a0 a1 a2 Q H).symm ▸ h : FnA Try.prog 119 (regsF Try.f35) ac_term_typeOf [.ce 6 24, .tm 7] [a0, a1, a2] H Q)

/-! wordhoard/wordhoardref.TypeOf -/
def ac_wordhoardref_TypeOf : AC := (.seq (.reg 0) (.seq (.seq (.reg 1) (.cond (.tmp 11) (.seq (.reg 2) .ret) .skip)) (.seq (.seq (.reg 3) (.block 0 (.loop [6] [(5, 6), (7, 8), (13, 28)] (.seq (.seq (.reg 4) (.cond (.tmp 16) .skip (.exit 0))) (.seq (.block 1 (.seq (.reg 5) (.seq (.reg 6) (.cond (.tmp 25) (.seq (.reg 7) .ret) .skip)))) (.reg 8)))))) (.seq (.reg 9) (.seq (.seq (.reg 10) (.cond (.tmp 31) (.seq (.reg 11) .ret) .skip)) (.seq (.reg 12) .ret))))))
def S_wordhoardref_TypeOf_L1 (a1 : AV) (Q : AV → AH → Prop) (H : AH) (v2 : AV) (v4 : AV) (vs : List AV) (k : List AV → AH → Prop) : AH → Prop :=
  Pu Try.prog .len [a1] fun v15 =>
  Pu Try.prog (.bin .lss 3) [(vs.getD 0 .any), v15] fun v16 =>
  CdA v16
    (
    Pu Try.prog (.idx 3) [a1, (vs.getD 0 .any)] fun v21 =>
    RdS Try.prog (.ld 3 true) [v21] fun v22 =>
    Ca Try.prog (.fn (.func 22) [] []) [v22] fun v23 =>
    Pu Try.prog (.bin .neq 28) [v23, (.p (.int .i64 0))] fun v25 =>
    CdA v25
      (
      Rg 4 fun b_18 =>
      Pu Try.prog (.bld [.p (.int .i64 0), .p (.int .i64 0), .p (.slice none 0 0)] []) [] fun v26 =>
      WrS Try.prog (b_18 + 2) (.st 3) [v4, v26] fun _ =>
      RdS Try.prog (.ld 3 true) [v4] fun r4_21 =>
      Rt Try.prog H.nx (.tup [r4_21, v23]) Q
      ) (
      Pu Try.prog (.bin .add 3) [(vs.getD 0 .any), (.p (.int .i64 1))] fun v18 =>
      k [v18]
      )
    ) (
    RdS Try.prog (.ld 6 true) [v2] fun v28 =>
    Ca Try.prog (.fn (.func 8) [] []) [v28] fun v29 =>
    Pu Try.prog (.bin .neq 28) [v29, (.p (.int .i64 0))] fun v31 =>
    CdA v31
      (
      Rg 4 fun b_26 =>
      Pu Try.prog (.bld [.p (.int .i64 0), .p (.int .i64 0), .p (.slice none 0 0)] []) [] fun v32 =>
      WrS Try.prog (b_26 + 2) (.st 3) [v4, v32] fun _ =>
      RdS Try.prog (.ld 3 true) [v4] fun r4_29 =>
      Rt Try.prog H.nx (.tup [r4_29, v29]) Q
      ) (
      Rg 7 fun b_30 =>
      RdS Try.prog (.ld 6 true) [v2] fun v34 =>
      Ca Try.prog (.fn (.func 37) [] []) [v34, a1, (.p (.slice none 0 0))] fun v36 =>
      Pu Try.prog (.ext 0) [v36] fun v37 =>
      Pu Try.prog (.ext 1) [v36] fun v38 =>
      WrS Try.prog (b_30 + 5) (.st 3) [v4, v37] fun _ =>
      RdS Try.prog (.ld 3 true) [v4] fun r4_36 =>
      Rt Try.prog H.nx (.tup [r4_36, v38]) Q
      )
    )
def S_wordhoardref_TypeOf (a0 a1 : AV) (Q : AV → AH → Prop) (H : AH) : Prop := (
    Rg 3 fun b =>
    Al (b + 0) (.bx 27) [a0] fun v2 =>
    Al (b + 1) (.nw 24 [.p (.int .i64 0), .p (.int .i64 0), .p (.slice none 0 0)]) [] fun v4 =>
    Pu Try.prog .len [a1] fun v10 =>
    Pu Try.prog (.bin .gtr 3) [v10, (.p (.int .i64 20))] fun v11 =>
    CdA v11
      (
      Rg 3 fun b_6 =>
      Pu Try.prog (.bld [.p (.int .i64 0), .p (.int .i64 0), .p (.slice none 0 0)] []) [] fun v12 =>
      WrS Try.prog (b_6 + 1) (.st 3) [v4, v12] fun _ =>
      RdS Try.prog (.ld 3 true) [v4] fun r4 =>
      Rt Try.prog H.nx (.tup [r4, (.p (.int .i64 7))]) Q
      ) (
      LoopA Try.prog 1 (S_wordhoardref_TypeOf_L1 a1 Q H v2 v4) [(.p (.int .i64 0))]
      )
    ) H
theorem eq_wordhoardref_TypeOf (a0 a1 : AV) (Q : AV → AH → Prop) (H : AH) : FnA Try.prog 39 (regsF Try.f18) ac_wordhoardref_TypeOf [.ce 4 24, .tm 5] [a0, a1] H Q = S_wordhoardref_TypeOf a0 a1 Q H := by kernel_rfl
theorem tri_wordhoardref_TypeOf {a0 a1 : AV} {H : AH} {Q : AV → AH → Prop} (h : S_wordhoardref_TypeOf a0 a1 Q H) : Tri Try.prog 18 [a0, a1] H Q :=
  tri_of (Ms := [#[], #[], #[], #[], #[], #[], #[], #[], #[], #[], #[], #[], #[]]) mixed Try.func18 rfl (by kernel_rfl) (by kernel_rfl) rfl (of_decide_eq_true rfl : 2 ≤ 39) ((eq_wordhoardref_TypeOf a0 a1 Q H).symm ▸ h : FnA Try.prog 39 (regsF Try.f18) ac_wordhoardref_TypeOf [.ce 4 24, .tm 5] [a0, a1] H Q)

/-! wordhoard/wordhoardref.typed -/
def ac_wordhoardref_typed : AC := (.seq (.reg 0) (.seq (.reg 1) (.seq (.seq (.reg 2) (.block 0 (.seq (.reg 3) (.cond (.tmp 16) (.seq (.seq (.reg 4) (.cond (.tmp 22) (.seq (.reg 5) .ret) .skip)) (.seq (.reg 6) .ret)) (.seq (.reg 7) (.cond (.tmp 29) (.seq (.seq (.reg 8) (.cond (.tmp 35) (.seq (.reg 9) .ret) .skip)) (.seq (.reg 10) .ret)) (.seq (.reg 11) (.cond (.tmp 42) (.seq (.reg 12) (.seq (.seq (.reg 13) (.cond (.tmp 59) (.seq (.reg 14) .ret) .skip)) (.seq (.reg 15) (.seq (.seq (.reg 16) (.cond (.tmp 69) (.seq (.reg 17) .ret) .skip)) (.seq (.reg 18) .ret))))) .skip)))))))) (.seq (.reg 19) (.seq (.seq (.reg 20) (.cond (.tmp 83) (.seq (.reg 21) .ret) .skip)) (.seq (.reg 22) (.seq (.seq (.reg 23) (.cond (.tmp 97) (.seq (.reg 24) .ret) .skip)) (.seq (.seq (.reg 25) (.cond (.tmp 111) (.seq (.reg 26) .ret) .skip)) (.seq (.reg 27) .ret)))))))))
def S_wordhoardref_typed_C1 (a1 : AV) (a2 : AV) (Q : AV → AH → Prop) (H : AH) (v3 : AV) (v6 : AV) (v8 : AV) : AH → Prop :=
  Rg 17 fun b_41 =>
  Vw fun V =>
  Pu Try.prog (.addOff 5) [v3] fun v45 =>
  Rd Try.prog V (.ld 1 false) [v45] fun v46 =>
  Pu Try.prog (.idx 6) [v46, (.p (.int .i64 0))] fun v47 =>
  Rd Try.prog V (.ld 6 true) [v47] fun v48 =>
  Pu Try.prog (.addOff 2) [v3] fun v50 =>
  Rd Try.prog V (.ld 3 true) [v50] fun v51 =>
  Al (b_41 + 7) (.bs 24 3 1 [.p (.int .i64 0), .p (.int .i64 0), .p (.slice none 0 0)] [(0, 3)]) [v51] fun v52 =>
  WrF V (some (b_41 + 7)) none (b_41 + 9) (.app 24 3 40) [v52, a2] fun v54 =>
  CaN Try.prog V [(b_41 + 9)] (.fn (.func 37) [] []) [v48, a1, v54] fun v55 =>
  Pu Try.prog (.ext 0) [v55] fun v56 =>
  Pu Try.prog (.ext 1) [v55] fun v57 =>
  Al (b_41 + 14) (.nw 24 [.p (.int .i64 0), .p (.int .i64 0), .p (.slice none 0 0)]) [] fun v9 =>
  WrF V (some (b_41 + 14)) none (b_41 + 15) (.st 3) [v9, v56] fun _ =>
  Pu Try.prog (.bin .neq 28) [v57, (.p (.int .i64 0))] fun v59 =>
  CdA v59
    (
    Rg 4 fun b_57 =>
    RdS Try.prog (.ld 3 true) [v8] fun v60 =>
    WrS Try.prog (b_57 + 2) (.st 3) [v6, v60] fun _ =>
    RdS Try.prog (.ld 3 true) [v6] fun r6_60 =>
    Rt Try.prog H.nx (.tup [r6_60, v57]) Q
    ) (
    Rg 6 fun b_61 =>
    Pu Try.prog (.addOff 2) [v3] fun v62 =>
    RdS Try.prog (.ld 3 true) [v62] fun v63 =>
    RdS Try.prog (.ld 3 true) [v9] fun v64 =>
    Al (b_61 + 3) (.bs 24 3 2 [.p (.int .i64 0), .p (.int .i64 0), .p (.slice none 0 0)] [(0, 3), (3, 3)]) [v63, v64] fun v65 =>
    Pu Try.prog (.bld [.p (.int .i64 0), .p (.int .i64 0), .p (.slice none 0 0)] [(0, 1), (2, 1)]) [(.p (.int .i64 2)), v65] fun v66 =>
    WrS Try.prog (b_61 + 5) (.st 3) [v9, v66] fun _ =>
    RdS Try.prog (.ld 3 true) [v9] fun v67 =>
    Ca Try.prog (.fn (.func 42) [] []) [v67, (.p (.int .i64 60))] fun v68 =>
    Pu Try.prog (.bin .gtr 3) [v68, (.p (.int .i64 60))] fun v69 =>
    CdA v69
      (
      Rg 3 fun b_71 =>
      RdS Try.prog (.ld 3 true) [v8] fun v70 =>
      WrS Try.prog (b_71 + 1) (.st 3) [v6, v70] fun _ =>
      RdS Try.prog (.ld 3 true) [v6] fun r6_74 =>
      Rt Try.prog H.nx (.tup [r6_74, (.p (.int .i64 7))]) Q
      ) (
      Rg 3 fun b_75 =>
      RdS Try.prog (.ld 3 true) [v9] fun v71 =>
      WrS Try.prog (b_75 + 1) (.st 3) [v6, v71] fun _ =>
      RdS Try.prog (.ld 3 true) [v6] fun r6_78 =>
      Rt Try.prog H.nx (.tup [r6_78, (.p (.int .i64 0))]) Q
      )
    )
def S_wordhoardref_typed_C2 (Q : AV → AH → Prop) (H : AH) (v6 : AV) (v8 : AV) (v11 : AV) (v13 : AV) : AH → Prop :=
  Vw fun V_109 =>
  Pu Try.prog (.addOff 0) [v11] fun v100 =>
  Rd Try.prog V_109 (.ld 1 false) [v100] fun v101 =>
  Pu Try.prog (.bin .neq 3) [v101, (.p (.int .i64 2))] fun v102 =>
  GdV v102 false (fun k => Pu Try.prog (.addOff 2) [v11] (fun a => k a V_109)) V_109 fun v104 V_115 =>
  GdV v102 false (fun k_117 => Rd Try.prog V_115 (.ld 1 false) [v104] (fun a => k_117 a V_115)) V_115 fun v105 V_118 =>
  GdV v102 false (fun k_120 => Pu Try.prog (.idx 3) [v105, (.p (.int .i64 0))] (fun a => k_120 a V_118)) V_118 fun v106 V_121 =>
  GdV v102 false (fun k_123 => Rd Try.prog V_121 (.ld 3 true) [v106] (fun a => k_123 a V_121)) V_121 fun v107 V_124 =>
  GdV v102 false (fun k_126 => Rd Try.prog V_124 (.ld 3 true) [v13] (fun a => k_126 a V_124)) V_124 fun v108 V_127 =>
  GdV v102 false (fun k_129 => CaV Try.prog V_127 (.fn (.func 20) [] []) [v107, v108] (fun a => k_129 a V_127)) V_127 fun v109 V_130 =>
  GdV v102 false (fun k_132 => Pu Try.prog (.un .not) [v109] (fun a => k_132 a V_130)) V_130 fun v110 _ =>
  Pu Try.prog .pick [v102, (.p (.bool true)), v110] fun v111 =>
  CdA v111
    (
    Rg 3 fun b_135 =>
    RdS Try.prog (.ld 3 true) [v8] fun v112 =>
    WrS Try.prog (b_135 + 1) (.st 3) [v6, v112] fun _ =>
    RdS Try.prog (.ld 3 true) [v6] fun r6_138 =>
    Rt Try.prog H.nx (.tup [r6_138, (.p (.int .i64 9))]) Q
    ) (
    Rg 6 fun b_139 =>
    Pu Try.prog (.addOff 2) [v11] fun v113 =>
    RdS Try.prog (.ld 1 false) [v113] fun v114 =>
    Pu Try.prog (.idx 3) [v114, (.p (.int .i64 1))] fun v115 =>
    RdS Try.prog (.ld 3 true) [v115] fun v116 =>
    WrS Try.prog (b_139 + 4) (.st 3) [v6, v116] fun _ =>
    RdS Try.prog (.ld 3 true) [v6] fun r6_145 =>
    Rt Try.prog H.nx (.tup [r6_145, (.p (.int .i64 0))]) Q
    )
def S_wordhoardref_typed_C3 (a1 : AV) (a2 : AV) (Q : AV → AH → Prop) (H : AH) (v3 : AV) (v6 : AV) (v8 : AV) : AH → Prop :=
  Rg 13 fun b_79 =>
  Pu Try.prog (.addOff 5) [v3] fun v73 =>
  RdS Try.prog (.ld 1 false) [v73] fun v74 =>
  Pu Try.prog (.idx 6) [v74, (.p (.int .i64 0))] fun v75 =>
  RdS Try.prog (.ld 6 true) [v75] fun v76 =>
  Ca Try.prog (.fn (.func 37) [] []) [v76, a1, a2] fun v79 =>
  Pu Try.prog (.ext 0) [v79] fun v80 =>
  Pu Try.prog (.ext 1) [v79] fun v81 =>
  Al (b_79 + 10) (.nw 24 [.p (.int .i64 0), .p (.int .i64 0), .p (.slice none 0 0)]) [] fun v11 =>
  WrS Try.prog (b_79 + 11) (.st 3) [v11, v80] fun _ =>
  Pu Try.prog (.bin .neq 28) [v81, (.p (.int .i64 0))] fun v83 =>
  CdA v83
    (
    Rg 4 fun b_90 =>
    RdS Try.prog (.ld 3 true) [v8] fun v84 =>
    WrS Try.prog (b_90 + 2) (.st 3) [v6, v84] fun _ =>
    RdS Try.prog (.ld 3 true) [v6] fun r6_93 =>
    Rt Try.prog H.nx (.tup [r6_93, v81]) Q
    ) (
    Rg 13 fun b_94 =>
    Pu Try.prog (.addOff 5) [v3] fun v87 =>
    RdS Try.prog (.ld 1 false) [v87] fun v88 =>
    Pu Try.prog (.idx 6) [v88, (.p (.int .i64 1))] fun v89 =>
    RdS Try.prog (.ld 6 true) [v89] fun v90 =>
    Ca Try.prog (.fn (.func 37) [] []) [v90, a1, a2] fun v93 =>
    Pu Try.prog (.ext 0) [v93] fun v94 =>
    Pu Try.prog (.ext 1) [v93] fun v95 =>
    Al (b_94 + 10) (.nw 24 [.p (.int .i64 0), .p (.int .i64 0), .p (.slice none 0 0)]) [] fun v13 =>
    WrS Try.prog (b_94 + 11) (.st 3) [v13, v94] fun _ =>
    Pu Try.prog (.bin .neq 28) [v95, (.p (.int .i64 0))] fun v97 =>
    CdA v97
      (
      Rg 4 fun b_105 =>
      RdS Try.prog (.ld 3 true) [v8] fun v98 =>
      WrS Try.prog (b_105 + 2) (.st 3) [v6, v98] fun _ =>
      RdS Try.prog (.ld 3 true) [v6] fun r6_108 =>
      Rt Try.prog H.nx (.tup [r6_108, v95]) Q
      ) (S_wordhoardref_typed_C2 Q H v6 v8 v11 v13)
    )
def S_wordhoardref_typed (a0 a1 a2 : AV) (Q : AV → AH → Prop) (H : AH) : Prop := (
    Rg 3 fun b =>
    Al (b + 0) (.bx 27) [a0] fun v3 =>
    Al (b + 1) (.nw 24 [.p (.int .i64 0), .p (.int .i64 0), .p (.slice none 0 0)]) [] fun v6 =>
    Rg 1 fun b_4 =>
    Al (b_4 + 0) (.nw 24 [.p (.int .i64 0), .p (.int .i64 0), .p (.slice none 0 0)]) [] fun v8 =>
    Pu Try.prog (.addOff 0) [v3] fun v14 =>
    RdS Try.prog (.ld 1 false) [v14] fun v15 =>
    Pu Try.prog (.bin .eql 3) [v15, (.p (.int .i64 1))] fun v17 =>
    CdA v17
      (
      Pu Try.prog (.addOff 1) [v3] fun v18 =>
      RdS Try.prog (.ld 1 false) [v18] fun v19 =>
      Pu Try.prog .len [a2] fun v21 =>
      Pu Try.prog (.bin .geq 3) [v19, v21] fun v22 =>
      CdA v22
        (
        Rg 3 fun b_13 =>
        RdS Try.prog (.ld 3 true) [v8] fun v23 =>
        WrS Try.prog (b_13 + 1) (.st 3) [v6, v23] fun _ =>
        RdS Try.prog (.ld 3 true) [v6] fun r6 =>
        Rt Try.prog H.nx (.tup [r6, (.p (.int .i64 8))]) Q
        ) (
        Rg 7 fun b_17 =>
        Pu Try.prog (.addOff 1) [v3] fun v25 =>
        RdS Try.prog (.ld 1 false) [v25] fun v26 =>
        Pu Try.prog (.idx 3) [a2, v26] fun v27 =>
        RdS Try.prog (.ld 3 true) [v27] fun v28 =>
        WrS Try.prog (b_17 + 5) (.st 3) [v6, v28] fun _ =>
        RdS Try.prog (.ld 3 true) [v6] fun r6_23 =>
        Rt Try.prog H.nx (.tup [r6_23, (.p (.int .i64 0))]) Q
        )
      ) (
      Pu Try.prog (.bin .eql 3) [v15, (.p (.int .i64 2))] fun v30 =>
      CdA v30
        (
        Pu Try.prog (.addOff 1) [v3] fun v31 =>
        RdS Try.prog (.ld 1 false) [v31] fun v32 =>
        Pu Try.prog .len [a1] fun v34 =>
        Pu Try.prog (.bin .geq 3) [v32, v34] fun v35 =>
        CdA v35
          (
          Rg 3 fun b_29 =>
          RdS Try.prog (.ld 3 true) [v8] fun v36 =>
          WrS Try.prog (b_29 + 1) (.st 3) [v6, v36] fun _ =>
          RdS Try.prog (.ld 3 true) [v6] fun r6_32 =>
          Rt Try.prog H.nx (.tup [r6_32, (.p (.int .i64 8))]) Q
          ) (
          Rg 7 fun b_33 =>
          Pu Try.prog (.addOff 1) [v3] fun v38 =>
          RdS Try.prog (.ld 1 false) [v38] fun v39 =>
          Pu Try.prog (.idx 3) [a1, v39] fun v40 =>
          RdS Try.prog (.ld 3 true) [v40] fun v41 =>
          WrS Try.prog (b_33 + 5) (.st 3) [v6, v41] fun _ =>
          RdS Try.prog (.ld 3 true) [v6] fun r6_39 =>
          Rt Try.prog H.nx (.tup [r6_39, (.p (.int .i64 0))]) Q
          )
        ) (
        Pu Try.prog (.bin .eql 3) [v15, (.p (.int .i64 3))] fun v43 =>
        CdA v43
          (S_wordhoardref_typed_C1 a1 a2 Q H v3 v6 v8) (S_wordhoardref_typed_C3 a1 a2 Q H v3 v6 v8)
        )
      )
    ) H
theorem eq_wordhoardref_typed (a0 a1 a2 : AV) (Q : AV → AH → Prop) (H : AH) : FnA Try.prog 117 (regsF Try.f37) ac_wordhoardref_typed [.ce 6 24, .tm 7] [a0, a1, a2] H Q = S_wordhoardref_typed a0 a1 a2 Q H := by kernel_rfl
theorem tri_wordhoardref_typed {a0 a1 a2 : AV} {H : AH} {Q : AV → AH → Prop} (h : S_wordhoardref_typed a0 a1 a2 Q H) : Tri Try.prog 37 [a0, a1, a2] H Q :=
  tri_of (Ms := [#[], #[], #[], #[], #[], #[], #[], #[], #[], #[], #[], #[], #[0, 1, 3, 7, 0, 0, 32, 96, 0, 480, 1023, 2047, 4095, 4095, 0, 24575, 65535], #[], #[], #[], #[], #[], #[], #[], #[], #[], #[], #[], #[], #[0, 1, 3, 7, 15, 31, 63, 127, 15, 511, 1023, 2047], #[], #[]]) mixed Try.func37 rfl (by kernel_rfl) (by kernel_rfl) rfl (of_decide_eq_true rfl : 3 ≤ 117) ((eq_wordhoardref_typed a0 a1 a2 Q H).symm ▸ h : FnA Try.prog 117 (regsF Try.f37) ac_wordhoardref_typed [.ce 6 24, .tm 7] [a0, a1, a2] H Q)

/-! wordhoard/wordhoardlaw.TermNormal -/
def ac_wordhoardlaw_TermNormal : AC := (.seq (.reg 0) (.seq (.reg 1) (.seq (.reg 2) (.seq (.seq (.reg 3) (.cond (.tmp 18) (.seq (.reg 4) .ret) .skip)) (.seq (.seq (.reg 5) (.cond (.tmp 20) (.seq (.reg 6) .ret) .skip)) (.seq (.reg 7) (.seq (.reg 8) .ret)))))))
def S_wordhoardlaw_TermNormal_C1 (Q : AV → AH → Prop) (H : AH) (v1 : AV) (v13 : AV) (v14 : AV) (v3 : AV) (v16 : AV) : AH → Prop :=
  Pu Try.prog (.bin .neq 28) [v16, (.p (.int .i64 0))] fun v20 =>
  CdA v20
    (
    Pu Try.prog (.bin .eql 28) [v14, v16] fun v23 =>
    Gd v23 true (fun k => k v13) fun v25 =>
    Gd v23 true (fun k_20 => Pu Try.prog (.bin .eql 3) [v25, (.p (.int .i64 0))] k_20) fun v26 =>
    Pu Try.prog .pick [v23, v26, (.p (.bool false))] fun v27 =>
    Gd v27 true (fun k_23 => RdS Try.prog (.ld 6 true) [v3] k_23) fun v29 =>
    Gd v27 true (fun k_25 => Pu Try.prog (.bld [.p (.int .i64 0), .p (.int .i64 0), .p (.int .i64 0), .p (.int .i64 0), .p (.slice none 0 0), .p (.slice none 0 0)] []) [] k_25) fun v30 =>
    Gd v27 true (fun k_27 => Ca Try.prog (.fn (.func 10) [] []) [v29, v30] k_27) fun v31 =>
    Pu Try.prog .pick [v27, v31, (.p (.bool false))] fun v32 =>
    Rt Try.prog H.nx v32 Q
    ) (
    Rg 10 fun b_29 =>
    RdS Try.prog (.ld 6 true) [v1] fun v34 =>
    Ca Try.prog (.fn (.func 11) [] []) [v34] fun v35 =>
    Pu Try.prog (.ext 0) [v35] fun v36 =>
    Pu Try.prog (.ext 1) [v35] fun v37 =>
    Pu Try.prog (.ext 2) [v35] fun v38 =>
    Al (b_29 + 6) (.nw 27 [.p (.int .i64 0), .p (.int .i64 0), .p (.int .i64 0), .p (.int .i64 0), .p (.slice none 0 0), .p (.slice none 0 0)]) [] fun v7 =>
    WrS Try.prog (b_29 + 7) (.st 6) [v7, v36] fun _ =>
    Pu Try.prog (.bin .eql 28) [v14, v38] fun v41 =>
    Gd v41 true (fun k_39 => k_39 v13) fun v43 =>
    Gd v41 true (fun k_41 => k_41 v37) fun v44 =>
    Gd v41 true (fun k_43 => Pu Try.prog (.bin .eql 3) [v43, v44] k_43) fun v45 =>
    Pu Try.prog .pick [v41, v45, (.p (.bool false))] fun v46 =>
    Gd v46 true (fun k_46 => RdS Try.prog (.ld 6 true) [v3] k_46) fun v48 =>
    Gd v46 true (fun k_48 => RdS Try.prog (.ld 6 true) [v7] k_48) fun v49 =>
    Gd v46 true (fun k_50 => Ca Try.prog (.fn (.func 10) [] []) [v48, v49] k_50) fun v50 =>
    Pu Try.prog .pick [v46, v50, (.p (.bool false))] fun v51 =>
    Rt Try.prog H.nx v51 Q
    )
def S_wordhoardlaw_TermNormal (a0 : AV) (Q : AV → AH → Prop) (H : AH) : Prop := (
    Rg 2 fun b =>
    Al (b + 0) (.bx 27) [a0] fun v1 =>
    Rg 10 fun b_3 =>
    RdS Try.prog (.ld 6 true) [v1] fun v10 =>
    Ca Try.prog (.fn (.func 7) [] []) [v10] fun v11 =>
    Pu Try.prog (.ext 0) [v11] fun v12 =>
    Pu Try.prog (.ext 1) [v11] fun v13 =>
    Pu Try.prog (.ext 2) [v11] fun v14 =>
    Al (b_3 + 6) (.nw 27 [.p (.int .i64 0), .p (.int .i64 0), .p (.int .i64 0), .p (.int .i64 0), .p (.slice none 0 0), .p (.slice none 0 0)]) [] fun v3 =>
    WrS Try.prog (b_3 + 7) (.st 6) [v3, v12] fun _ =>
    RdS Try.prog (.ld 6 true) [v1] fun v15 =>
    Ca Try.prog (.fn (.func 8) [] []) [v15] fun v16 =>
    Ca Try.prog (.fn (.func 9) [] []) [] fun v17 =>
    Pu Try.prog (.un .not) [v17] fun v18 =>
    CdA v18
      (
      Rt Try.prog H.nx (.p (.bool false)) Q
      ) (S_wordhoardlaw_TermNormal_C1 Q H v1 v13 v14 v3 v16)
    ) H
theorem eq_wordhoardlaw_TermNormal (a0 : AV) (Q : AV → AH → Prop) (H : AH) : FnA Try.prog 52 (regsF Try.f3) ac_wordhoardlaw_TermNormal [.tm 2] [a0] H Q = S_wordhoardlaw_TermNormal a0 Q H := by kernel_rfl
theorem tri_wordhoardlaw_TermNormal {a0 : AV} {H : AH} {Q : AV → AH → Prop} (h : S_wordhoardlaw_TermNormal a0 Q H) : Tri Try.prog 3 [a0] H Q :=
  tri_of (Ms := [#[], #[], #[], #[], #[], #[], #[], #[], #[]]) mixed Try.func3 rfl (by kernel_rfl) (by kernel_rfl) rfl (of_decide_eq_true rfl : 1 ≤ 52) ((eq_wordhoardlaw_TermNormal a0 Q H).symm ▸ h : FnA Try.prog 52 (regsF Try.f3) ac_wordhoardlaw_TermNormal [.tm 2] [a0] H Q)

/-! wordhoard/wordhoardlaw.TermSteps -/
def ac_wordhoardlaw_TermSteps : AC := (.seq (.reg 0) (.seq (.reg 1) (.seq (.reg 2) (.seq (.reg 3) (.seq (.seq (.reg 4) (.cond (.tmp 32) (.seq (.reg 5) .ret) .skip)) (.seq (.seq (.reg 6) (.cond (.tmp 34) (.seq (.reg 7) .ret) .skip)) (.seq (.reg 8) (.seq (.seq (.reg 9) (.cond (.tmp 54) (.seq (.reg 10) .ret) .skip)) (.seq (.seq (.reg 11) (.block 0 (.loop [11] [(4, 5), (55, 71)] (.seq (.seq (.reg 12) (.cond (.tmp 58) .skip (.exit 0))) (.seq (.block 1 (.seq (.reg 13) (.cond (.tmp 70) (.seq (.reg 14) .ret) .skip))) (.reg 15)))))) (.seq (.reg 16) (.seq (.reg 17) .ret)))))))))))
def S_wordhoardlaw_TermSteps_L1 (a1 : AV) (Q : AV → AH → Prop) (H : AH) (v2 : AV) (v16 : AV) (v23 : AV) (v7 : AV) (v49 : AV) (vs : List AV) (k_46 : List AV → AH → Prop) : AH → Prop :=
  Pu Try.prog .len [v16] fun v57 =>
  Pu Try.prog (.bin .lss 3) [(vs.getD 0 .any), v57] fun v58 =>
  CdA v58
    (
    Vw fun V =>
    Pu Try.prog (.idx 1) [v16, (vs.getD 0 .any)] fun v63 =>
    Rd Try.prog V (.ld 1 false) [v63] fun v64 =>
    Pu Try.prog (.idx 1) [v49, (vs.getD 0 .any)] fun v67 =>
    Rd Try.prog V (.ld 1 false) [v67] fun v68 =>
    CaV Try.prog V (.fn (.func 15) [] []) [v64, v68] fun v69 =>
    Pu Try.prog (.un .not) [v69] fun v70 =>
    CdA v70
      (
      Rt Try.prog H.nx (.p (.bool false)) Q
      ) (
      Pu Try.prog (.bin .add 3) [(vs.getD 0 .any), (.p (.int .i64 1))] fun v60 =>
      k_46 [v60]
      )
    ) (
    Rg 9 fun b_58 =>
    RdS Try.prog (.ld 6 true) [v2] fun v72 =>
    Ca Try.prog (.fn (.func 16) [] []) [v72, a1] fun v74 =>
    Pu Try.prog (.ext 0) [v74] fun v75 =>
    Pu Try.prog (.ext 1) [v74] fun v76 =>
    Al (b_58 + 6) (.nw 27 [.p (.int .i64 0), .p (.int .i64 0), .p (.int .i64 0), .p (.int .i64 0), .p (.slice none 0 0), .p (.slice none 0 0)]) [] fun v12 =>
    WrS Try.prog (b_58 + 7) (.st 6) [v12, v75] fun _ =>
    Pu Try.prog (.bin .eql 28) [v23, v76] fun v79 =>
    Gd v79 true (fun k_67 => RdS Try.prog (.ld 6 true) [v7] k_67) fun v81 =>
    Gd v79 true (fun k_69 => RdS Try.prog (.ld 6 true) [v12] k_69) fun v82 =>
    Gd v79 true (fun k_71 => Ca Try.prog (.fn (.func 10) [] []) [v81, v82] k_71) fun v83 =>
    Pu Try.prog .pick [v79, v83, (.p (.bool false))] fun v84 =>
    Rt Try.prog H.nx v84 Q
    )
def S_wordhoardlaw_TermSteps_C2 (a1 : AV) (Q : AV → AH → Prop) (H : AH) (v2 : AV) (v16 : AV) (v23 : AV) (v7 : AV) (v25 : AV) : AH → Prop :=
  Pu Try.prog (.bin .neq 28) [v25, (.p (.int .i64 0))] fun v34 =>
  CdA v34
    (
    Pu Try.prog (.bin .eql 28) [v23, v25] fun v37 =>
    Gd v37 true (fun k_28 => k_28 v16) fun v39 =>
    Gd v37 true (fun k_30 => Pu Try.prog .len [v39] k_30) fun v40 =>
    Gd v37 true (fun k_32 => Pu Try.prog (.bin .eql 3) [v40, (.p (.int .i64 0))] k_32) fun v41 =>
    Pu Try.prog .pick [v37, v41, (.p (.bool false))] fun v42 =>
    Gd v42 true (fun k_35 => RdS Try.prog (.ld 6 true) [v7] k_35) fun v44 =>
    Gd v42 true (fun k_37 => Pu Try.prog (.bld [.p (.int .i64 0), .p (.int .i64 0), .p (.int .i64 0), .p (.int .i64 0), .p (.slice none 0 0), .p (.slice none 0 0)] []) [] k_37) fun v45 =>
    Gd v42 true (fun k_39 => Ca Try.prog (.fn (.func 10) [] []) [v44, v45] k_39) fun v46 =>
    Pu Try.prog .pick [v42, v46, (.p (.bool false))] fun v47 =>
    Rt Try.prog H.nx v47 Q
    ) (
    RdS Try.prog (.ld 6 true) [v2] fun v48 =>
    Ca Try.prog (.fn (.func 14) [] []) [v48] fun v49 =>
    Pu Try.prog .len [v16] fun v51 =>
    Pu Try.prog .len [v49] fun v53 =>
    Pu Try.prog (.bin .neq 3) [v51, v53] fun v54 =>
    CdA v54
      (
      Rt Try.prog H.nx (.p (.bool false)) Q
      ) (
      LoopA Try.prog 1 (S_wordhoardlaw_TermSteps_L1 a1 Q H v2 v16 v23 v7 v49) [(.p (.int .i64 0))]
      )
    )
def S_wordhoardlaw_TermSteps (a0 a1 : AV) (Q : AV → AH → Prop) (H : AH) : Prop := (
    Rg 2 fun b =>
    Al (b + 0) (.bx 27) [a0] fun v2 =>
    RdS Try.prog (.ld 6 true) [v2] fun v14 =>
    Ca Try.prog (.fn (.func 12) [] []) [v14] fun v15 =>
    Pu Try.prog (.ext 0) [v15] fun v16 =>
    Pu Try.prog (.ext 1) [v15] fun v17 =>
    Rg 9 fun b_7 =>
    RdS Try.prog (.ld 6 true) [v2] fun v19 =>
    Ca Try.prog (.fn (.func 13) [] []) [v19, a1] fun v21 =>
    Pu Try.prog (.ext 0) [v21] fun v22 =>
    Pu Try.prog (.ext 1) [v21] fun v23 =>
    Al (b_7 + 6) (.nw 27 [.p (.int .i64 0), .p (.int .i64 0), .p (.int .i64 0), .p (.int .i64 0), .p (.slice none 0 0), .p (.slice none 0 0)]) [] fun v7 =>
    WrS Try.prog (b_7 + 7) (.st 6) [v7, v22] fun _ =>
    RdS Try.prog (.ld 6 true) [v2] fun v24 =>
    Ca Try.prog (.fn (.func 8) [] []) [v24] fun v25 =>
    Ca Try.prog (.fn (.func 9) [] []) [] fun v26 =>
    Pu Try.prog (.un .not) [v26] fun v27 =>
    Gd v27 false (fun k => k v17) fun v29 =>
    Gd v27 false (fun k_21 => k_21 v25) fun v30 =>
    Gd v27 false (fun k_23 => Pu Try.prog (.bin .neq 28) [v29, v30] k_23) fun v31 =>
    Pu Try.prog .pick [v27, (.p (.bool true)), v31] fun v32 =>
    CdA v32
      (
      Rt Try.prog H.nx (.p (.bool false)) Q
      ) (S_wordhoardlaw_TermSteps_C2 a1 Q H v2 v16 v23 v7 v25)
    ) H
theorem eq_wordhoardlaw_TermSteps (a0 a1 : AV) (Q : AV → AH → Prop) (H : AH) : FnA Try.prog 85 (regsF Try.f4) ac_wordhoardlaw_TermSteps [.tm 4] [a0, a1] H Q = S_wordhoardlaw_TermSteps a0 a1 Q H := by kernel_rfl
theorem tri_wordhoardlaw_TermSteps {a0 a1 : AV} {H : AH} {Q : AV → AH → Prop} (h : S_wordhoardlaw_TermSteps a0 a1 Q H) : Tri Try.prog 4 [a0, a1] H Q :=
  tri_of (Ms := [#[], #[], #[], #[], #[], #[], #[], #[], #[], #[], #[], #[], #[], #[0, 0, 3, 7, 0, 0, 48, 112, 255, 511], #[], #[], #[], #[]]) mixed Try.func4 rfl (by kernel_rfl) (by kernel_rfl) rfl (of_decide_eq_true rfl : 2 ≤ 85) ((eq_wordhoardlaw_TermSteps a0 a1 Q H).symm ▸ h : FnA Try.prog 85 (regsF Try.f4) ac_wordhoardlaw_TermSteps [.tm 4] [a0, a1] H Q)

/-! wordhoard/wordhoardlaw.TermTypes -/
def ac_wordhoardlaw_TermTypes : AC := (.seq (.reg 0) (.seq (.reg 1) (.seq (.reg 2) (.seq (.seq (.reg 3) (.cond (.tmp 41) (.seq (.reg 4) .ret) .skip)) (.seq (.seq (.reg 5) (.block 0 (.loop [9] [(4, 5), (42, 59)] (.seq (.seq (.reg 6) (.cond (.tmp 45) .skip (.exit 0))) (.seq (.block 1 (.seq (.reg 7) (.cond (.tmp 58) (.seq (.reg 8) .ret) .skip))) (.reg 9)))))) (.seq (.reg 10) .ret))))))
def S_wordhoardlaw_TermTypes_L1 (a1 : AV) (Q : AV → AH → Prop) (H : AH) (vs : List AV) (k_59 : List AV → AH → Prop) : AH → Prop :=
  Pu Try.prog .len [a1] fun v44 =>
  Pu Try.prog (.bin .lss 3) [(vs.getD 0 .any), v44] fun v45 =>
  CdA v45
    (
    Vw fun V_63 =>
    Pu Try.prog (.idx 3) [a1, (vs.getD 0 .any)] fun v50 =>
    Rd Try.prog V_63 (.ld 3 true) [v50] fun v51 =>
    CaV Try.prog V_63 (.fn (.func 21) [] []) [v51] fun v52 =>
    Pu Try.prog (.idx 3) [a1, (vs.getD 0 .any)] fun v55 =>
    Rd Try.prog V_63 (.ld 3 true) [v55] fun v56 =>
    CaV Try.prog V_63 (.fn (.func 22) [] []) [v56] fun v57 =>
    Pu Try.prog (.bin .neq 28) [v52, v57] fun v58 =>
    CdA v58
      (
      Rt Try.prog H.nx (.p (.bool false)) Q
      ) (
      Pu Try.prog (.bin .add 3) [(vs.getD 0 .any), (.p (.int .i64 1))] fun v47 =>
      k_59 [v47]
      )
    ) (
    Rt Try.prog H.nx (.p (.bool true)) Q
    )
def S_wordhoardlaw_TermTypes (a0 a1 : AV) (Q : AV → AH → Prop) (H : AH) : Prop := (
    Rg 2 fun b =>
    Al (b + 0) (.bx 27) [a0] fun v2 =>
    Rg 9 fun b_3 =>
    RdS Try.prog (.ld 6 true) [v2] fun v11 =>
    Ca Try.prog (.fn (.func 17) [] []) [v11, a1] fun v13 =>
    Pu Try.prog (.ext 0) [v13] fun v14 =>
    Pu Try.prog (.ext 1) [v13] fun v15 =>
    Al (b_3 + 6) (.nw 24 [.p (.int .i64 0), .p (.int .i64 0), .p (.slice none 0 0)]) [] fun v5 =>
    WrS Try.prog (b_3 + 7) (.st 3) [v5, v14] fun _ =>
    Rg 9 fun b_10 =>
    RdS Try.prog (.ld 6 true) [v2] fun v17 =>
    Ca Try.prog (.fn (.func 18) [] []) [v17, a1] fun v19 =>
    Pu Try.prog (.ext 0) [v19] fun v20 =>
    Pu Try.prog (.ext 1) [v19] fun v21 =>
    Al (b_10 + 6) (.nw 24 [.p (.int .i64 0), .p (.int .i64 0), .p (.slice none 0 0)]) [] fun v7 =>
    WrS Try.prog (b_10 + 7) (.st 3) [v7, v20] fun _ =>
    Vw fun V =>
    CaV Try.prog V (.fn (.func 9) [] []) [] fun v22 =>
    Pu Try.prog (.un .not) [v22] fun v23 =>
    GdV v23 false (fun k => Rd Try.prog V (.ld 6 true) [v2] (fun a => k a V)) V fun v25 V_22 =>
    GdV v23 false (fun k_24 => CaV Try.prog V_22 (.fn (.func 19) [] []) [v25] (fun a => k_24 a V_22)) V_22 fun v26 V_25 =>
    GdV v23 false (fun k_27 => Rd Try.prog V_25 (.ld 6 true) [v2] (fun a => k_27 a V_25)) V_25 fun v27 V_28 =>
    GdV v23 false (fun k_30 => CaV Try.prog V_28 (.fn (.func 8) [] []) [v27] (fun a => k_30 a V_28)) V_28 fun v28 V_31 =>
    GdV v23 false (fun k_33 => Pu Try.prog (.bin .neq 28) [v26, v28] (fun a => k_33 a V_31)) V_31 fun v29 V_34 =>
    Pu Try.prog .pick [v23, (.p (.bool true)), v29] fun v30 =>
    GdV v30 false (fun k_37 => k_37 v15 V_34) V_34 fun v32 V_38 =>
    GdV v30 false (fun k_40 => k_40 v21 V_38) V_38 fun v33 V_41 =>
    GdV v30 false (fun k_43 => Pu Try.prog (.bin .neq 28) [v32, v33] (fun a => k_43 a V_41)) V_41 fun v34 V_44 =>
    Pu Try.prog .pick [v30, (.p (.bool true)), v34] fun v35 =>
    GdV v35 false (fun k_47 => Rd Try.prog V_44 (.ld 3 true) [v5] (fun a => k_47 a V_44)) V_44 fun v37 V_48 =>
    GdV v35 false (fun k_50 => Rd Try.prog V_48 (.ld 3 true) [v7] (fun a => k_50 a V_48)) V_48 fun v38 V_51 =>
    GdV v35 false (fun k_53 => CaV Try.prog V_51 (.fn (.func 20) [] []) [v37, v38] (fun a => k_53 a V_51)) V_51 fun v39 V_54 =>
    GdV v35 false (fun k_56 => Pu Try.prog (.un .not) [v39] (fun a => k_56 a V_54)) V_54 fun v40 _ =>
    Pu Try.prog .pick [v35, (.p (.bool true)), v40] fun v41 =>
    CdA v41
      (
      Rt Try.prog H.nx (.p (.bool false)) Q
      ) (
      LoopA Try.prog 1 (S_wordhoardlaw_TermTypes_L1 a1 Q H) [(.p (.int .i64 0))]
      )
    ) H
theorem eq_wordhoardlaw_TermTypes (a0 a1 : AV) (Q : AV → AH → Prop) (H : AH) : FnA Try.prog 59 (regsF Try.f5) ac_wordhoardlaw_TermTypes [.tm 4] [a0, a1] H Q = S_wordhoardlaw_TermTypes a0 a1 Q H := by kernel_rfl
theorem tri_wordhoardlaw_TermTypes {a0 a1 : AV} {H : AH} {Q : AV → AH → Prop} (h : S_wordhoardlaw_TermTypes a0 a1 Q H) : Tri Try.prog 5 [a0, a1] H Q :=
  tri_of (Ms := [#[], #[], #[], #[0, 1, 3, 7, 15, 7, 63, 127, 255, 511, 1023, 1023, 4095, 8191, 16383, 32767, 32767, 131071, 262143, 524287], #[], #[], #[], #[0, 0, 3, 7, 15, 0, 0, 96, 224, 511, 1023], #[], #[], #[]]) mixed Try.func5 rfl (by kernel_rfl) (by kernel_rfl) rfl (of_decide_eq_true rfl : 2 ≤ 59) ((eq_wordhoardlaw_TermTypes a0 a1 Q H).symm ▸ h : FnA Try.prog 59 (regsF Try.f5) ac_wordhoardlaw_TermTypes [.tm 4] [a0, a1] H Q)

/-! wordhoard/wordhoardlaw.termBegun -/
def ac_wordhoardlaw_termBegun : AC := (.seq (.reg 0) (.seq (.reg 1) (.seq (.reg 2) .ret)))
def S_wordhoardlaw_termBegun (Q : AV → AH → Prop) (H : AH) : Prop := (
    Rg 10 fun b =>
    Ca Try.prog (.fn (.func 29) [] []) [] fun v5 =>
    Ca Try.prog (.fn (.func 7) [] []) [v5] fun v6 =>
    Pu Try.prog (.ext 0) [v6] fun v7 =>
    Pu Try.prog (.ext 1) [v6] fun v8 =>
    Pu Try.prog (.ext 2) [v6] fun v9 =>
    Al (b + 6) (.nw 27 [.p (.int .i64 0), .p (.int .i64 0), .p (.int .i64 0), .p (.int .i64 0), .p (.slice none 0 0), .p (.slice none 0 0)]) [] fun v1 =>
    WrS Try.prog (b + 7) (.st 6) [v1, v7] fun _ =>
    Pu Try.prog (.bin .eql 28) [v9, (.p (.int .i64 0))] fun v11 =>
    Gd v11 true (fun k => k v8) fun v13 =>
    Gd v11 true (fun k_13 => Pu Try.prog (.bin .eql 3) [v13, (.p (.int .i64 1))] k_13) fun v14 =>
    Pu Try.prog .pick [v11, v14, (.p (.bool false))] fun v15 =>
    Gd v15 true (fun k_16 => Pu Try.prog (.addOff 0) [v1] k_16) fun v17 =>
    Gd v15 true (fun k_18 => RdS Try.prog (.ld 1 false) [v17] k_18) fun v18 =>
    Gd v15 true (fun k_20 => Pu Try.prog (.bin .eql 3) [v18, (.p (.int .i64 2))] k_20) fun v19 =>
    Pu Try.prog .pick [v15, v19, (.p (.bool false))] fun v20 =>
    Gd v20 true (fun k_23 => Pu Try.prog (.addOff 1) [v1] k_23) fun v22 =>
    Gd v20 true (fun k_25 => RdS Try.prog (.ld 1 false) [v22] k_25) fun v23 =>
    Gd v20 true (fun k_27 => Pu Try.prog (.bin .eql 3) [v23, (.p (.int .i64 3))] k_27) fun v24 =>
    Pu Try.prog .pick [v20, v24, (.p (.bool false))] fun v25 =>
    Rt Try.prog H.nx v25 Q
    ) H
theorem eq_wordhoardlaw_termBegun (Q : AV → AH → Prop) (H : AH) : FnA Try.prog 26 (regsF Try.f9) ac_wordhoardlaw_termBegun [.tm 0] [] H Q = S_wordhoardlaw_termBegun Q H := by kernel_rfl
theorem tri_wordhoardlaw_termBegun {H : AH} {Q : AV → AH → Prop} (h : S_wordhoardlaw_termBegun Q H) : Tri Try.prog 9 [] H Q :=
  tri_of (Ms := [#[], #[], #[]]) mixed Try.func9 rfl (by kernel_rfl) (by kernel_rfl) rfl (of_decide_eq_true rfl : 0 ≤ 26) ((eq_wordhoardlaw_termBegun Q H).symm ▸ h : FnA Try.prog 26 (regsF Try.f9) ac_wordhoardlaw_termBegun [.tm 0] [] H Q)

/-! wordhoard/wordhoardlaw.selfSame -/
def ac_wordhoardlaw_selfSame : AC := (.seq (.reg 0) (.seq (.reg 1) (.seq (.reg 2) .ret)))
def S_wordhoardlaw_selfSame (Q : AV → AH → Prop) (H : AH) : Prop := (
    Rg 1 fun b =>
    Al (b + 0) (.nw 27 [.p (.int .i64 0), .p (.int .i64 0), .p (.int .i64 0), .p (.int .i64 0), .p (.slice none 0 0), .p (.slice none 0 0)]) [] fun v0 =>
    Rg 3 fun b_3 =>
    Pu Try.prog (.bld [.p (.int .i64 0), .p (.int .i64 0), .p (.slice none 0 0)] [(0, 1)]) [(.p (.int .i64 1))] fun v2 =>
    Al (b_3 + 1) (.nw 24 [.p (.int .i64 0), .p (.int .i64 0), .p (.slice none 0 0)]) [] fun v1 =>
    WrS Try.prog (b_3 + 2) (.st 3) [v1, v2] fun _ =>
    Rg 8 fun b_7 =>
    RdS Try.prog (.ld 3 true) [v1] fun v3 =>
    Pu Try.prog (.bld [.p (.int .i64 0), .p (.int .i64 0), .p (.int .i64 0), .p (.int .i64 0), .p (.slice none 0 0), .p (.slice none 0 0)] [(0, 1)]) [(.p (.int .i64 1))] fun v4 =>
    Al (b_7 + 2) (.bs 27 6 1 [.p (.int .i64 0), .p (.int .i64 0), .p (.int .i64 0), .p (.int .i64 0), .p (.slice none 0 0), .p (.slice none 0 0)] [(0, 6)]) [v4] fun v5 =>
    Pu Try.prog (.bld [.p (.int .i64 0), .p (.int .i64 0), .p (.int .i64 0), .p (.int .i64 0), .p (.slice none 0 0), .p (.slice none 0 0)] [(0, 1), (2, 3), (5, 1)]) [(.p (.int .i64 3)), v3, v5] fun v6 =>
    Pu Try.prog (.bld [.p (.int .i64 0), .p (.int .i64 0), .p (.int .i64 0), .p (.int .i64 0), .p (.slice none 0 0), .p (.slice none 0 0)] [(0, 1), (1, 1)]) [(.p (.int .i64 2)), (.p (.int .i64 3))] fun v7 =>
    Al (b_7 + 5) (.bs 27 6 2 [.p (.int .i64 0), .p (.int .i64 0), .p (.int .i64 0), .p (.int .i64 0), .p (.slice none 0 0), .p (.slice none 0 0)] [(0, 6), (6, 6)]) [v6, v7] fun v8 =>
    Pu Try.prog (.bld [.p (.int .i64 0), .p (.int .i64 0), .p (.int .i64 0), .p (.int .i64 0), .p (.slice none 0 0), .p (.slice none 0 0)] [(0, 1), (5, 1)]) [(.p (.int .i64 4)), v8] fun v9 =>
    WrS Try.prog (b_7 + 7) (.st 6) [v0, v9] fun _ =>
    RdS Try.prog (.ld 6 true) [v0] fun r0 =>
    Rt Try.prog H.nx r0 Q
    ) H
theorem eq_wordhoardlaw_selfSame (Q : AV → AH → Prop) (H : AH) : FnA Try.prog 10 (regsF Try.f29) ac_wordhoardlaw_selfSame [.ce 0 27] [] H Q = S_wordhoardlaw_selfSame Q H := by kernel_rfl
theorem tri_wordhoardlaw_selfSame {H : AH} {Q : AV → AH → Prop} (h : S_wordhoardlaw_selfSame Q H) : Tri Try.prog 29 [] H Q :=
  tri_of (Ms := [#[], #[], #[]]) mixed Try.func29 rfl (by kernel_rfl) (by kernel_rfl) rfl (of_decide_eq_true rfl : 0 ≤ 10) ((eq_wordhoardlaw_selfSame Q H).symm ▸ h : FnA Try.prog 10 (regsF Try.f29) ac_wordhoardlaw_selfSame [.ce 0 27] [] H Q)
end Go.Proofs.Ytkocpdekknfmaaa

/- A type in new memory; the type of a term: both programs. -/
namespace Go.Proofs.Ytkocpdekknfmaaa
open Go.RowKit Go.Maps
theorem Ty.cl (t : Ty) (B : Nat) : Clo B t.cs := by
  rw [Ty.cs_eq]; exact (by repeat (first | exact Cl.p _ | exact Cl.dsl _ _ | exact Cl.any | refine Cl.tup ?_ | refine Cl.agg ?_ | exact Clo.nil | refine Clo.cons ?_ ?_))
theorem Tm.cl (t : Tm) (B : Nat) : Clo B t.cs := by
  rw [Tm.cs_eq]; exact (by repeat (first | exact Cl.p _ | exact Cl.dsl _ _ | exact Cl.any | refine Cl.tup ?_ | refine Cl.agg ?_ | exact Clo.nil | refine Clo.cons ?_ ?_))
theorem Ty.av_eq (k n : Int) (ks : List Ty) : Ty.av ⟨k, n, ks⟩ = .agg [iv k, iv n, .dsl 3 (ks.map Ty.cs)] := by unfold Ty.av; rw [Ty.cs_eq]
set_option maxHeartbeats 1000000 in
theorem c_copiedType (N : Nat) : ∀ t : Ty, t.size ≤ N → N ≤ 1000000 → ∀ H : AH, Tri Try.prog 36 [t.av] H (fun r H' => H' = H ∧ r = t.av) := by
  induction N with
  | zero => intro t ht; have := t.size_pos; omega
  | succ N ih =>
    intro t ht hN H
    refine tri_wf fun hw => tri_term_copiedType ?_
    have hml : maxLen = 9223372036854775807 := by decide
    have hsz := t.size_eq
    have hlk : t.kids.length ≤ Ty.sizes t.kids := by
      have : ∀ ks : List Ty, ks.length ≤ Ty.sizes ks := fun ks => by
        induction ks with
        | nil => simp
        | cons a r ih => rw [Ty.sizes, List.length_cons]; have := a.size_pos; omega
      exact this _
    unfold S_term_copiedType
    simp (disch := first | omega | simp) [Ty.av, Ty.cs_len, Ty.cs_g0, Ty.cs_g1, Ty.cs_g2, Ty.cs_take, put_get_ne]
    generalize hM : ((H.up 2).put H.nx (.box 24 t.cs)).put (H.nx + 1) (.box 24 [.p (.int .i64 0), .p (.int .i64 0), .p (.slice none 0 0)]) = M
    have hw0 := hw
    have hMb : M.get H.nx = some (.box 24 t.cs) := by rw [← hM]; simp (disch := first | omega | simp) [put_get_ne]
    have hMc : M.get (H.nx + 1) = some (.box 24 [.p (.int .i64 0), .p (.int .i64 0), .p (.slice none 0 0)]) := by rw [← hM]; simp (disch := first | omega | simp) [put_get_ne]
    have hMl : H.le M := by rw [← hM]; exact (by repeat (first | with_reducible assumption | with_reducible exact AH.le.refl _ | with_reducible apply AH.le.up | (with_reducible refine AH.le.put hw ?_ ?_; · first | omega | (simp only [up_nx, put_nx, kill_nx]; done) | (simp only [up_nx, put_nx, kill_nx]; omega)) | (with_reducible refine AH.le.kill hw ?_ ?_; · first | omega | (simp only [up_nx, put_nx, kill_nx]; done) | (simp only [up_nx, put_nx, kill_nx]; omega))))
    have hMn : M.nx = H.nx + 2 := by rw [← hM]; rfl
    have hw : WF M := by rw [← hM]; exact ((hw0.up 2).box (by first | omega | (simp only [up_nx, put_nx, kill_nx]; done) | (simp only [up_nx, put_nx, kill_nx]; omega)) (t.cl _)).box (by first | omega | (simp only [up_nx, put_nx, kill_nx]; done) | (simp only [up_nx, put_nx, kill_nx]; omega)) (by repeat (first | exact Cl.p _ | exact Cl.dsl _ _ | exact Cl.any | refine Cl.tup ?_ | refine Cl.agg ?_ | exact Clo.nil | refine Clo.cons ?_ ?_))
    refine loop_st (fun s : AV × Nat => [s.1, iv s.2]) (fun s H' => M.le H' ∧ M.nx ≤ H'.nx ∧ s.2 ≤ t.kids.length ∧ Grows 24 3 M H' s.1 ((t.kids.take s.2).map Ty.cs)) (fun s => t.kids.length - s.2) (.p (.slice none 0 0), 0) (.refl (Nat.le_refl _)) ⟨.refl _, Nat.le_refl _, Nat.zero_le _, .nil _ _ _ _⟩ ?_
    rintro ⟨v, i⟩ H1 hn1 ⟨hle, hn, hi, hg⟩ k hk
    dsimp only at hi hg hk
    unfold S_term_copiedType_L1
    by_cases hil : i < t.kids.length
    · obtain ⟨x, hx⟩ : ∃ x, t.kids[i]? = some x := ⟨_, List.getElem?_eq_getElem hil⟩
      have hxg : ∀ h, t.kids[i]'h = x := fun h => (List.getElem?_eq_some_iff.1 hx).2
      have hiv := ivn (i := i) (by omega)
      have hxs : x.size ≤ N := by have := Ty.sizes_mem (List.mem_of_getElem? hx); omega
      simp (disch := first | omega | simp) [iv, hil, hxg, hiv, Ty.av, Ty.cs_len, Ty.cs_g0, Ty.cs_g1, Ty.cs_g2, Ty.cs_take, put_get_ne]
      refine ca_pure (by kernel_rfl) (ih x hxs (by omega) _) ?_
      simp (disch := first | omega | simp) [Ty.av, Ty.cs_len, Ty.cs_g0, Ty.cs_g1, Ty.cs_g2, Ty.cs_take]
      refine Grows.app (ys := [x.cs]) hw (hg.kp (by repeat (first | with_reducible assumption | with_reducible exact Kp.refl _ | with_reducible apply Kp.up | (with_reducible refine Kp.put ?_ ?_; · first | omega | (simp only [up_nx, put_nx, kill_nx]; done) | (simp only [up_nx, put_nx, kill_nx]; omega)) | (with_reducible refine Kp.kill ?_ ?_; · first | omega | (simp only [up_nx, put_nx, kill_nx]; done) | (simp only [up_nx, put_nx, kill_nx]; omega))))) (by repeat (first | with_reducible assumption | with_reducible exact AH.le.refl _ | with_reducible apply AH.le.up | (with_reducible refine AH.le.put hw ?_ ?_; · first | omega | (simp only [up_nx, put_nx, kill_nx]; done) | (simp only [up_nx, put_nx, kill_nx]; omega)) | (with_reducible refine AH.le.kill hw ?_ ?_; · first | omega | (simp only [up_nx, put_nx, kill_nx]; done) | (simp only [up_nx, put_nx, kill_nx]; omega)))) (by first | omega | (simp only [up_nx, put_nx, kill_nx]; done) | (simp only [up_nx, put_nx, kill_nx]; omega)) (by first | omega | (simp only [up_nx, put_nx, kill_nx]; done) | (simp only [up_nx, put_nx, kill_nx]; omega)) ?_ (dt_ty [x]) ?_ ?_ fun v' H3 g3 l3 n3 k3 _ => ?_
      · simp (disch := first | omega | simp) [put_get_ne]
      · rw [List.length_map, List.length_take]; simp only [List.length_singleton]; omega
      · rw [List.length_map, List.length_take]; simp only [List.length_singleton]; omega
      · rw [q_add_i, hiv]
        refine hk (v', i + 1) _ _ _ (.refl (by simp only [up_nx, put_nx] at n3; omega)) ⟨l3, by simp only [up_nx, put_nx] at n3; omega, hil, ?_⟩ (by dsimp only; omega)
        dsimp only
        rw [List.take_add_one, hx, Option.toList_some, List.map_append]; exact g3
    · have hie : i = t.kids.length := by omega
      subst hie
      rw [List.take_length] at hg
      have hb1 := hle _ _ hMb
      have hc1 := hle _ _ hMc
      obtain ⟨hp1, hp2⟩ := hg.part
      simp (disch := first | omega | simp) [iv, Ty.av, Ty.cs_len, Ty.cs_g0, Ty.cs_g1, Ty.cs_g2, Ty.cs_take, put_get_ne, hb1, hc1, hp1, hp2]
      refine Grows.rt_in (M := H) (v' := t.av) (u := v) (t := 24) (sz := 3) (es := t.kids.map Ty.cs) ?_ hw0 ?_ (by first | omega | (simp only [up_nx, put_nx, kill_nx]; done) | (simp only [up_nx, put_nx, kill_nx]; omega)) hw0 (.refl _) (Nat.le_refl _) ?_ (.agg (t.cl _)) ⟨rfl, rfl⟩
      · refine (hg.base (H0 := H) (by omega)).same (by first | omega | (simp only [up_nx, put_nx, kill_nx]; done) | (simp only [up_nx, put_nx, kill_nx]; omega)) fun j hj ⟨n, hv⟩ => ?_
        have := hg.ge hv
        simp (disch := first | omega | simp) [put_get_ne]
      · exact AH.le.put hw0 (by first | omega | (simp only [up_nx, put_nx, kill_nx]; done) | (simp only [up_nx, put_nx, kill_nx]; omega)) (AH.le.up (AH.le.put hw0 (by first | omega | (simp only [up_nx, put_nx, kill_nx]; done) | (simp only [up_nx, put_nx, kill_nx]; omega)) (AH.le.up (hMl.trans hle))))
      · intro H2 hs
        rw [show List.take 3 (List.take 3 (List.take 2 t.cs ++ v :: List.drop 3 t.cs)) = [iv t.kind, iv t.num, v] by rw [Ty.cs_eq]; rfl]
        rw [Ty.av, Ty.cs_eq]
        exact .agg (.cons (.refl _) (.cons (.refl _) (.cons hs .nil)))
theorem c_copiedType' (t : Ty) (h : t.size ≤ 1000000) : PF Try.prog 36 [t.av] t.av := fun H => c_copiedType t.size t (Nat.le_refl _) h H
end Go.Proofs.Ytkocpdekknfmaaa

/- The type of a term, told plainly. -/
namespace Go.Proofs.Ytkocpdekknfmaaa
open Go.RowKit Go.Maps
section
variable {P : Program} {H0 H1 : AH}
/-- a row of one's own is told as data, and all that was laid since is let go -/
theorem gw_row {r t sz n : Nat} {es : List (List AV)} (hw : WF H0) (hle : H0.le H1) (hn : H0.nx ≤ H1.nx) (hr : H0.nx ≤ r) (hg : H1.get r = some (.row t sz es)) (hd : DtR es) (hnn : n = es.length) : GW P H0.nx [.osl r sz 0 n] H1 [.dsl sz es] H0 := by
  subst hnn
  have hs := Sub.frz (P := P) (H := H1.put r (.frz sz es)) (r := r) (off := 0) (n := es.length) (put_get _ _) (by simp)
  rw [List.drop_zero, List.take_length] at hs
  exact (GW.st (.freeze hg hd) hn).trans ((GW.sub (.cons hs .nil) hn).trans (GW.back hw (AH.le.put hw hr hle) (.one (.dsl _ _))))
end
def tyNone : Ty := ⟨0, 0, []⟩
theorem tyNone_av : tyNone.av = .agg [iv 0, iv 0, .dsl 3 []] := Ty.av_eq 0 0 []
def Tm.typ (cons : List Ty) : Tm → List Ty → Ty × Int
  | ⟨k, n, ty, ks⟩, ar =>
    if k = 1 then (match ar[n.toNat]? with
      | some x => (x, 0)
      | none => (tyNone, 8))
    else if k = 2 then (match cons[n.toNat]? with
      | some x => (x, 0)
      | none => (tyNone, 8))
    else match ks with
      | [b] => if (Tm.typ cons b (ty :: ar)).2 = 0 then (if (Ty.size ⟨2, 0, [ty, (Tm.typ cons b (ty :: ar)).1]⟩) ≤ 60 then (⟨2, 0, [ty, (Tm.typ cons b (ty :: ar)).1]⟩, 0) else (tyNone, 7)) else (tyNone, (Tm.typ cons b (ty :: ar)).2)
      | [f, x] => if (Tm.typ cons f ar).2 = 0 then (if (Tm.typ cons x ar).2 = 0 then (match (Tm.typ cons f ar).1.kids with
          | [a, b] => if (Tm.typ cons f ar).1.kind = 2 ∧ a.same (Tm.typ cons x ar).1 = true then (b, 0) else (tyNone, 9)
          | _ => (tyNone, 9)) else (tyNone, (Tm.typ cons x ar).2)) else (tyNone, (Tm.typ cons f ar).2)
      | _ => (tyNone, 0)
/-- a type that is right -/
def Ty.okk (t : Ty) : Prop := t.wrong = 0 ∧ t.size ≤ 60
theorem Ty.check_ok {t : Ty} (h : t.check = 0) : t.okk := by
  unfold Ty.check at h
  split at h
  · cases h
  · exact ⟨h, by omega⟩
theorem Ty.wrongs_zero : ∀ {ks : List Ty}, Ty.wrongs ks = 0 → ∀ t ∈ ks, t.wrong = 0
  | [], _, t, h => by cases h
  | k :: r, h, t, ht => by
    rw [Ty.wrongs] at h
    split at h
    · rename_i h0
      rcases List.mem_cons.1 ht with rfl | ht
      · exact h0
      · exact Ty.wrongs_zero h t ht
    · rename_i h0; exact absurd h h0
theorem Ty.wrongs_of : ∀ {ks : List Ty}, (∀ t ∈ ks, t.wrong = 0) → Ty.wrongs ks = 0
  | [], _ => by rw [Ty.wrongs]
  | k :: r, h => by rw [Ty.wrongs, if_pos (h k (by simp))]; exact Ty.wrongs_of fun t ht => h t (by simp [ht])
theorem Ty.head_zero {k n : Int} {l : Nat} (h : Ty.head k n l = 0) : (k = 1 ∧ l = 0) ∨ (k = 2 ∧ l = 2) := by
  unfold Ty.head at h
  by_cases h1 : k ≠ 1 ∧ k ≠ 2
  · rw [if_pos h1] at h; cases h
  · rw [if_neg h1] at h
    by_cases h2 : (l : Int) ≠ 2 * (k - 1)
    · rw [if_pos h2] at h; cases h
    · omega
theorem Ty.ok_inv {t : Ty} (h : t.wrong = 0) : (t.kind = 1 ∧ t.kids = []) ∨ (t.kind = 2 ∧ ∃ a b, t.kids = [a, b] ∧ a.wrong = 0 ∧ b.wrong = 0) := by
  rw [Ty.wrong_eq] at h
  by_cases hh : Ty.head t.kind t.num t.kids.length = 0
  · rw [if_pos hh] at h
    rcases Ty.head_zero hh with ⟨hk, hl⟩ | ⟨hk, hl⟩
    · left; exact ⟨hk, List.eq_nil_of_length_eq_zero hl⟩
    · right
      have hz := Ty.wrongs_zero h
      match hks : t.kids, hl with
      | [a, b], _ => rw [hks] at hz; exact ⟨hk, a, b, rfl, hz a (by simp), hz b (by simp)⟩
  · rw [if_neg hh] at h; exact absurd h hh
theorem Tm.wrongs_zero : ∀ {ks : List Tm}, Tm.wrongs ks = 0 → ∀ t ∈ ks, t.wrong = 0
  | [], _, t, h => by cases h
  | k :: r, h, t, ht => by
    rw [Tm.wrongs] at h
    split at h
    · rename_i h0
      rcases List.mem_cons.1 ht with rfl | ht
      · exact h0
      · exact Tm.wrongs_zero h t ht
    · rename_i h0; exact absurd h h0
theorem Tm.head_zero {k n : Int} {b : Bool} {l : Nat} (h : Tm.head k n b l = 0) : 1 ≤ k ∧ k ≤ 4 ∧ ((k ≤ 2 ∧ l = 0) ∨ (3 ≤ k ∧ (l : Int) = k - 2)) ∧ 0 ≤ n ∧ (3 ≤ k → n = 0) ∧ (k ≠ 3 → b = true) := by
  unfold Tm.head at h
  by_cases h1 : k < 1 ∨ 4 < k
  · rw [if_pos h1] at h; cases h
  · rw [if_neg h1] at h
    by_cases h2 : (l : Int) ≠ (if 2 < k then k - 2 else 0)
    · rw [if_pos h2] at h; cases h
    · rw [if_neg h2] at h
      by_cases h3 : n < 0 ∨ (0 < n ∧ 3 ≤ k) ∨ (b = false ∧ k ≠ 3)
      · rw [if_pos h3] at h; cases h
      · have h4 : (l : Int) = (if 2 < k then k - 2 else 0) := Decidable.byContradiction h2
        have hb : k ≠ 3 → b = true := fun hk3 => by
          cases b with
          | true => rfl
          | false => exact absurd (Or.inr (Or.inr ⟨rfl, hk3⟩)) h3
        refine ⟨by omega, by omega, ?_, by omega, by omega, hb⟩
        by_cases hk : 2 < k
        · rw [if_pos hk] at h4; right; omega
        · rw [if_neg hk] at h4; left; omega
theorem Tm.ok_inv {t : Tm} (h : t.wrong = 0) : 0 ≤ t.num ∧ ((t.kind = 1 ∧ t.kids = []) ∨ (t.kind = 2 ∧ t.kids = []) ∨ (t.kind = 3 ∧ t.num = 0 ∧ t.type.okk ∧ ∃ b, t.kids = [b] ∧ b.wrong = 0) ∨ (t.kind = 4 ∧ t.num = 0 ∧ ∃ f x, t.kids = [f, x] ∧ f.wrong = 0 ∧ x.wrong = 0)) ∧ (t.kind ≠ 3 → t.type = tyNone) := by
  rw [Tm.wrong_eq] at h
  by_cases hh : Tm.head t.kind t.num t.type.bare t.kids.length = 0
  · rw [if_pos hh] at h
    obtain ⟨h1, h2, h3, h4, h5, h6⟩ := Tm.head_zero hh
    have hbare : t.kind ≠ 3 → t.type = tyNone := fun hk3 => by
      have hb := h6 hk3
      unfold Ty.bare at hb
      simp only [Bool.and_eq_true, beq_iff_eq] at hb
      obtain ⟨⟨b1, b2⟩, b3⟩ := hb
      have b3 := List.eq_nil_of_length_eq_zero b3
      cases hty : t.type with
      | mk k n ks => rw [hty] at b1 b2 b3; simp only at b1 b2 b3; subst b1; subst b2; subst b3; rfl
    refine ⟨h4, ?_, hbare⟩
    have hk : t.kind = 1 ∨ t.kind = 2 ∨ t.kind = 3 ∨ t.kind = 4 := by omega
    rcases hk with hk | hk | hk | hk
    · left; exact ⟨hk, List.eq_nil_of_length_eq_zero (by omega)⟩
    · right; left; exact ⟨hk, List.eq_nil_of_length_eq_zero (by omega)⟩
    · right; right; left
      have hl : t.kids.length = 1 := by omega
      have hc : t.type.check = 0 := Decidable.byContradiction fun hc => by rw [if_pos ⟨hk, hc⟩] at h; exact hc h
      rw [if_neg (fun e => e.2 hc)] at h
      have hz := Tm.wrongs_zero h
      match hks : t.kids, hl with
      | [b], _ => rw [hks] at hz; exact ⟨hk, h5 (by omega), Ty.check_ok hc, b, rfl, hz b (by simp)⟩
    · right; right; right
      have hl : t.kids.length = 2 := by omega
      rw [if_neg (by rw [hk]; omega)] at h
      have hz := Tm.wrongs_zero h
      match hks : t.kids, hl with
      | [f, x], _ => rw [hks] at hz; exact ⟨hk, h5 (by omega), f, x, rfl, hz f (by simp), hz x (by simp)⟩
  · rw [if_neg hh] at h; exact absurd h hh
theorem Tm.typ_eq (cons : List Ty) (t : Tm) (ar : List Ty) : t.typ cons ar = if t.kind = 1 then (match ar[t.num.toNat]? with
      | some x => (x, 0)
      | none => (tyNone, 8))
    else if t.kind = 2 then (match cons[t.num.toNat]? with
      | some x => (x, 0)
      | none => (tyNone, 8))
    else match t.kids with
      | [b] => if (b.typ cons (t.type :: ar)).2 = 0 then (if (Ty.size ⟨2, 0, [t.type, (b.typ cons (t.type :: ar)).1]⟩) ≤ 60 then (⟨2, 0, [t.type, (b.typ cons (t.type :: ar)).1]⟩, 0) else (tyNone, 7)) else (tyNone, (b.typ cons (t.type :: ar)).2)
      | [f, x] => if (f.typ cons ar).2 = 0 then (if (x.typ cons ar).2 = 0 then (match (f.typ cons ar).1.kids with
          | [a, b] => if (f.typ cons ar).1.kind = 2 ∧ a.same (x.typ cons ar).1 = true then (b, 0) else (tyNone, 9)
          | _ => (tyNone, 9)) else (tyNone, (x.typ cons ar).2)) else (tyNone, (f.typ cons ar).2)
      | _ => (tyNone, 0) := by
  obtain ⟨k, n, ty, ks⟩ := t
  rw [Tm.typ.eq_def]
theorem Ty.size_two (k n : Int) (a b : Ty) : Ty.size ⟨k, n, [a, b]⟩ = 1 + a.size + b.size := by rw [Ty.size_mk, Ty.sizes, Ty.sizes, Ty.sizes]; omega
/-- what comes out is right -/
theorem Tm.typ_ok (cons : List Ty) (hc : ∀ x ∈ cons, x.okk) (N : Nat) : ∀ t : Tm, t.size ≤ N → t.wrong = 0 → ∀ ar : List Ty, (∀ x ∈ ar, x.okk) → (t.typ cons ar).2 = 0 → (t.typ cons ar).1.okk := by
  induction N with
  | zero => intro t ht; have := t.size_pos; omega
  | succ N ih =>
    intro t ht hw ar har h
    have hsz := t.size_eq
    rw [Tm.typ_eq] at h ⊢
    obtain ⟨_, hk, _⟩ := Tm.ok_inv hw
    rcases hk with ⟨hk, hks⟩ | ⟨hk, hks⟩ | ⟨hk, _, hty, b, hks, hb⟩ | ⟨hk, _, f, x, hks, hf, hx⟩
    · rw [if_pos hk] at h ⊢
      cases hx : ar[t.num.toNat]? with
      | none => rw [hx] at h; cases h
      | some x => exact har x (List.mem_of_getElem? hx)
    · rw [if_neg (by omega), if_pos hk] at h ⊢
      cases hx : cons[t.num.toNat]? with
      | none => rw [hx] at h; cases h
      | some x => exact hc x (List.mem_of_getElem? hx)
    · rw [if_neg (by omega), if_neg (by omega), hks] at h ⊢
      simp only at h ⊢
      have hbs : b.size ≤ N := by rw [hks] at hsz; simp [Tm.sizes] at hsz; omega
      by_cases h1 : (b.typ cons (t.type :: ar)).2 = 0
      · rw [if_pos h1] at h ⊢
        by_cases h2 : Ty.size ⟨2, 0, [t.type, (b.typ cons (t.type :: ar)).1]⟩ ≤ 60
        · rw [if_pos h2]
          refine ⟨?_, h2⟩
          have hr := ih b hbs hb (t.type :: ar) (fun y hy => by exact (List.mem_cons.1 hy).elim (fun e => e ▸ hty) (har y)) h1
          rw [Ty.wrong_mk, if_pos (by simp [Ty.head])]
          exact Ty.wrongs_of fun y hy => by
            simp at hy
            rcases hy with rfl | rfl
            · exact hty.1
            · exact hr.1
        · rw [if_neg h2] at h; cases h
      · rw [if_neg h1] at h; exact absurd h h1
    · rw [if_neg (by omega), if_neg (by omega), hks] at h ⊢
      simp only at h ⊢
      have hfs : f.size ≤ N ∧ x.size ≤ N := by rw [hks] at hsz; simp [Tm.sizes] at hsz; omega
      by_cases h1 : (f.typ cons ar).2 = 0
      · rw [if_pos h1] at h ⊢
        by_cases h2 : (x.typ cons ar).2 = 0
        · rw [if_pos h2] at h ⊢
          have hr := ih f hfs.1 hf ar har h1
          rcases Ty.ok_inv hr.1 with ⟨k1, k2⟩ | ⟨k1, a, b, k2, k3, k4⟩
          · rw [k2] at h; simp only at h; cases h
          · rw [k2] at h ⊢
            simp only at h ⊢
            split at h
            · rename_i h3
              rw [if_pos h3]
              refine ⟨k4, ?_⟩
              have := (f.typ cons ar).1.size_eq
              rw [k2] at this
              simp [Ty.sizes] at this
              have := hr.2
              show b.size ≤ 60
              omega
            · cases h
        · rw [if_neg h2] at h; exact absurd h h2
      · rw [if_neg h1] at h; exact absurd h h1
/-- what is around a kid -/
def Tm.inn (t : Tm) (ar : List Ty) : List Ty := if t.kind = 3 then t.type :: ar else ar
theorem Tm.typ_bad (cons : List Ty) (t : Tm) (ar : List Ty) (h : (t.typ cons ar).2 ≠ 0) : (t.typ cons ar).1 = tyNone := by
  have key : ∀ r : Ty × Int, r = t.typ cons ar → r.2 ≠ 0 → r.1 = tyNone := by
    intro r e h
    rw [Tm.typ_eq] at e
    repeat' split at e
    all_goals subst e
    all_goals first | rfl | exact absurd rfl h
  exact key _ rfl h
/-- a kid that has no type -/
theorem Tm.typ_err {cons : List Ty} {t : Tm} {ar : List Ty} (hw : t.wrong = 0) {i : Nat} {x : Tm} (hx : t.kids[i]? = some x) (hz : ∀ y ∈ t.kids.take i, (y.typ cons (t.inn ar)).2 = 0) (he : (x.typ cons (t.inn ar)).2 ≠ 0) : t.typ cons ar = (tyNone, (x.typ cons (t.inn ar)).2) := by
  obtain ⟨_, hk, _⟩ := Tm.ok_inv hw
  rw [Tm.typ_eq]
  rcases hk with ⟨hk, hks⟩ | ⟨hk, hks⟩ | ⟨hk, _, _, b, hks, _⟩ | ⟨hk, _, f, y, hks, _, _⟩
  · rw [hks] at hx; simp at hx
  · rw [hks] at hx; simp at hx
  · have hin : t.inn ar = t.type :: ar := by unfold Tm.inn; rw [if_pos hk]
    rw [hin] at he ⊢
    rw [if_neg (by omega), if_neg (by omega), hks]
    rw [hks] at hx
    match i, hx with
    | 0, hx => simp at hx; subst hx; simp only; rw [if_neg he]
    | i + 1, hx => simp at hx
  · have hin : t.inn ar = ar := by unfold Tm.inn; rw [if_neg (by omega)]
    rw [hin] at he hz ⊢
    rw [if_neg (by omega), if_neg (by omega), hks]
    rw [hks] at hx hz
    match i, hx with
    | 0, hx => simp at hx; subst hx; simp only; rw [if_neg he]
    | 1, hx => simp at hx; subst hx; simp only; rw [if_pos (hz f (by simp)), if_neg he]
    | i + 2, hx => simp at hx
end Go.Proofs.Ytkocpdekknfmaaa
