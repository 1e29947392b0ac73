/- Texts that the proof rests on, part 7: what each holds stands at its head. -/
import Derived.Test.YtpmnlikgldacaaaSv6

/- Abstract walks of functions, written by a program (wip/aw/aw.py): each equation is checked by the kernel. -/
namespace Go.Proofs.Ytpmnlikgldacaaa
open Go.RowKit

/-! wordhoard/speech.Prove -/
def ac_speech_Prove : AC := (.seq (.reg 0) (.seq (.seq (.reg 1) (.seq (.reg 2) (.cond (.tmp 14) (.seq (.reg 3) .ret) .skip))) (.seq (.reg 4) (.seq (.seq (.reg 5) (.cond (.tmp 27) (.seq (.reg 6) .ret) .skip)) (.seq (.reg 7) .ret)))))
def S_speech_Prove_C1 (a0 : AV) (Q : AV → AH → Prop) (H : AH) (v3 : AV) (v4 : AV) : AH → Prop :=
 Rg 12 fun b_11 =>
 Al (b_11 + 0) (.mm 9) [] fun v18 =>
 Pu Try.prog (.bld [.p (.map none)] [(0, 1)]) [v18] fun v19 =>
 Al (b_11 + 2) (.bx 63) [v19] fun v20 =>
 RdS Try.prog (.ld 3 true) [v3] fun v22 =>
 Ca Try.prog (.fn (.func 34) [] []) [v20, a0, v22] fun v23 =>
 Pu Try.prog (.ext 0) [v23] fun v24 =>
 Pu Try.prog (.ext 1) [v23] fun v25 =>
 Al (b_11 + 9) (.nw 27 [.p (.int .i64 0), .p (.slice none 0 0), .p (.int .i64 0), .p (.int .i64 0), .p (.slice none 0 0), .p (.int .i64 0), .p (.int .i64 0), .p (.slice none 0 0)]) [] fun v8 =>
 WrS Try.prog (b_11 + 10) (.st 8) [v8, v24] fun _ =>
 Pu Try.prog (.un .not) [v25] fun v27 =>
 CdA v27
 (
 Rg 4 fun b_22 =>
 Pu Try.prog (.bld [.p (.int .i64 0), .p (.slice none 0 0), .p (.int .i64 0), .p (.int .i64 0), .p (.slice none 0 0), .p (.int .i64 0), .p (.int .i64 0), .p (.slice none 0 0)] []) [] fun v28 =>
 WrS Try.prog (b_22 + 1) (.st 8) [v4, v28] fun _ =>
 RdS Try.prog (.ld 8 true) [v4] fun r4_25 =>
 Rt Try.prog H.nx (.tup [r4_25, (.p (.bool false)), (.p (.int .i64 0))]) Q
 ) (
 Rg 5 fun b_26 =>
 RdS Try.prog (.ld 8 true) [v8] fun v29 =>
 Ca Try.prog (.fn (.func 35) [] []) [v29] fun v30 =>
 WrS Try.prog (b_26 + 2) (.st 8) [v4, v30] fun _ =>
 RdS Try.prog (.ld 8 true) [v4] fun r4_30 =>
 Rt Try.prog H.nx (.tup [r4_30, (.p (.bool true)), (.p (.int .i64 0))]) Q
 )
def S_speech_Prove (a0 a1 : AV) (Q : AV → AH → Prop) (H : AH) : Prop := (
 Rg 4 fun b =>
 Al (b + 0) (.bx 24) [a1] fun v3 =>
 Al (b + 1) (.nw 27 [.p (.int .i64 0), .p (.slice none 0 0), .p (.int .i64 0), .p (.int .i64 0), .p (.slice none 0 0), .p (.int .i64 0), .p (.int .i64 0), .p (.slice none 0 0)]) [] fun v4 =>
 RdS Try.prog (.ld 3 true) [v3] fun v11 =>
 Ca Try.prog (.fn (.func 33) [] []) [a0, v11] fun v12 =>
 Pu Try.prog (.bin .neq 28) [v12, (.p (.int .i64 0))] fun v14 =>
 CdA v14
 (
 Rg 5 fun b_7 =>
 Pu Try.prog (.bld [.p (.int .i64 0), .p (.slice none 0 0), .p (.int .i64 0), .p (.int .i64 0), .p (.slice none 0 0), .p (.int .i64 0), .p (.int .i64 0), .p (.slice none 0 0)] []) [] fun v15 =>
 WrS Try.prog (b_7 + 2) (.st 8) [v4, v15] fun _ =>
 RdS Try.prog (.ld 8 true) [v4] fun r4 =>
 Rt Try.prog H.nx (.tup [r4, (.p (.bool false)), v12]) Q
 ) (S_speech_Prove_C1 a0 Q H v3 v4)
 ) H
theorem eq_speech_Prove (a0 a1 : AV) (Q : AV → AH → Prop) (H : AH) : FnA Try.prog 31 (regsF Try.f9) ac_speech_Prove [.ce 4 27, .tm 5, .tm 6] [a0, a1] H Q = S_speech_Prove a0 a1 Q H := by kernel_rfl
theorem tri_speech_Prove {a0 a1 : AV} {H : AH} {Q : AV → AH → Prop} (h : S_speech_Prove a0 a1 Q H) : Tri Try.prog 9 [a0, a1] H Q :=
  tri_of (Ms := [#[], #[], #[], #[], #[], #[], #[], #[]]) mixed Try.func9 rfl (by kernel_rfl) (by kernel_rfl) rfl (of_decide_eq_true rfl : 2 ≤ 31) (by rw [eq_speech_Prove a0 a1 Q H]; exact h : FnA Try.prog 31 (regsF Try.f9) ac_speech_Prove [.ce 4 27, .tm 5, .tm 6] [a0, a1] H Q)

/-! wordhoard/speech.Check -/
def ac_speech_Check : AC := (.seq (.reg 0) (.seq (.seq (.reg 1) (.cond (.tmp 5) (.seq (.reg 2) .ret) .skip)) (.seq (.reg 3) .ret)))
def S_speech_Check (a0 : AV) (Q : AV → AH → Prop) (H : AH) : Prop := (
 Rg 2 fun b =>
 Al (b + 0) (.bx 24) [a0] fun v1 =>
 RdS Try.prog (.ld 3 true) [v1] fun v3 =>
 Ca Try.prog (.fn (.func 53) [] []) [v3, (.p (.int .i64 15))] fun v4 =>
 Pu Try.prog (.bin .gtr 3) [v4, (.p (.int .i64 15))] fun v5 =>
 CdA v5
 (
 Rt Try.prog H.nx (.p (.int .i64 7)) Q
 ) (
 RdS Try.prog (.ld 3 true) [v1] fun v6 =>
 Ca Try.prog (.fn (.func 54) [] []) [v6] fun v7 =>
 Rt Try.prog H.nx v7 Q
 )
 ) H
theorem eq_speech_Check (a0 : AV) (Q : AV → AH → Prop) (H : AH) : FnA Try.prog 8 (regsF Try.f21) ac_speech_Check [.tm 2] [a0] H Q = S_speech_Check a0 Q H := by kernel_rfl
theorem tri_speech_Check {a0 : AV} {H : AH} {Q : AV → AH → Prop} (h : S_speech_Check a0 Q H) : Tri Try.prog 21 [a0] H Q :=
  tri_of (Ms := [#[], #[], #[], #[]]) mixed Try.func21 rfl (by kernel_rfl) (by kernel_rfl) rfl (of_decide_eq_true rfl : 1 ≤ 8) (by rw [eq_speech_Check a0 Q H]; exact h : FnA Try.prog 8 (regsF Try.f21) ac_speech_Check [.tm 2] [a0] H Q)

/-! wordhoard/speech.asks -/
def ac_speech_asks : AC := (.seq (.reg 0) (.seq (.seq (.reg 1) (.cond (.tmp 15) (.seq (.reg 2) .ret) .skip)) (.seq (.seq (.reg 3) (.block 0 (.loop [22] [(4, 5), (6, 8), (23, 32)] (.seq (.reg 4) (.seq (.cond (.tmp 23) .skip (.exit 0)) (.seq (.block 1 (.seq (.reg 5) (.seq (.reg 6) (.seq (.reg 7) (.cond (.tmp 29) (.seq (.reg 8) .ret) .skip))))) (.reg 9))))))) (.seq (.seq (.reg 10) (.cond (.tmp 38) (.seq (.reg 11) .ret) .skip)) (.seq (.reg 12) .ret)))))
def S_speech_asks_L1 (a0 : AV) (Q : AV → AH → Prop) (H : AH) (v3 : AV) (v20 : AV) (v21 : AV) (vs : List AV) (k_19 : List AV → AH → Prop) : AH → Prop :=
 Pu Try.prog (.bin .lss 3) [(vs.getD 0 .any), v21] fun v23 =>
 CdA v23
 (
 Rg 4 fun b_22 =>
 Pu Try.prog (.idx 3) [v20, (vs.getD 0 .any)] fun v24 =>
 RdS Try.prog (.ld 3 true) [v24] fun v25 =>
 Al (b_22 + 2) (.nw 24 [.p (.int .i64 0), .p (.int .i64 0), .p (.slice none 0 0)]) [] fun v6 =>
 WrS Try.prog (b_22 + 3) (.st 3) [v6, v25] fun _ =>
 RdS Try.prog (.ld 3 true) [v6] fun v26 =>
 Ca Try.prog (.fn (.func 21) [] []) [v26] fun v27 =>
 Pu Try.prog (.bin .neq 28) [v27, (.p (.int .i64 0))] fun v29 =>
 CdA v29
 (
 Rt Try.prog H.nx v27 Q
 ) (
 Pu Try.prog (.bin .add 3) [(vs.getD 0 .any), (.p (.int .i64 1))] fun v31 =>
 k_19 [v31]
 )
 ) (
 Rg 7 fun b_31 =>
 Vw fun V_32 =>
 CaV Try.prog V_32 (.fn (.func 46) [] []) [a0] fun v33 =>
 Rd Try.prog V_32 (.ld 3 true) [v3] fun v34 =>
 Al (b_31 + 3) (.bs 24 3 1 [.p (.int .i64 0), .p (.int .i64 0), .p (.slice none 0 0)] [(0, 3)]) [v34] fun v35 =>
 CaN Try.prog V_32 [(b_31 + 3)] (.fn (.func 46) [] []) [v35] fun v36 =>
 Pu Try.prog (.bin .add 3) [v33, v36] fun v37 =>
 Pu Try.prog (.bin .gtr 3) [v37, (.p (.int .i64 10))] fun v38 =>
 CdA v38
 (
 Rt Try.prog H.nx (.p (.int .i64 2)) Q
 ) (
 Rt Try.prog H.nx (.p (.int .i64 0)) Q
 )
 )
def S_speech_asks (a0 a1 : AV) (Q : AV → AH → Prop) (H : AH) : Prop := (
 Rg 2 fun b =>
 Al (b + 0) (.bx 24) [a1] fun v3 =>
 Pu Try.prog .len [a0] fun v9 =>
 Pu Try.prog (.bin .lss 3) [v9, (.p (.int .i64 1))] fun v10 =>
 Gd v10 false (fun k => k a0) fun v12 =>
 Gd v10 false (fun k_8 => Pu Try.prog .len [v12] k_8) fun v13 =>
 Gd v10 false (fun k_10 => Pu Try.prog (.bin .gtr 3) [v13, (.p (.int .i64 6))] k_10) fun v14 =>
 Pu Try.prog .pick [v10, (.p (.bool true)), v14] fun v15 =>
 CdA v15
 (
 Rt Try.prog H.nx (.p (.int .i64 7)) Q
 ) (
 Rg 7 fun b_12 =>
 Vw fun V =>
 CaR Try.prog V (b_12 + 1) [] (.fn (.func 49) [] []) [a0] fun v17 =>
 Rd Try.prog V (.ld 3 true) [v3] fun v18 =>
 Al (b_12 + 3) (.bs 24 3 1 [.p (.int .i64 0), .p (.int .i64 0), .p (.slice none 0 0)] [(0, 3)]) [v18] fun v19 =>
 WrF V (some (b_12 + 1)) (some (b_12 + 3)) (b_12 + 4) (.app 24 3 40) [v17, v19] fun v20 =>
 Pu Try.prog .len [v20] fun v21 =>
 LoopA Try.prog 1 (S_speech_asks_L1 a0 Q H v3 v20 v21) [(.p (.int .i64 0))]
 )
 ) H
theorem eq_speech_asks (a0 a1 : AV) (Q : AV → AH → Prop) (H : AH) : FnA Try.prog 39 (regsF Try.f33) ac_speech_asks [.tm 4] [a0, a1] H Q = S_speech_asks a0 a1 Q H := by kernel_rfl
theorem tri_speech_asks {a0 a1 : AV} {H : AH} {Q : AV → AH → Prop} (h : S_speech_asks a0 a1 Q H) : Tri Try.prog 33 [a0, a1] H Q :=
  tri_of (Ms := [#[], #[], #[], #[0, 1, 0, 4, 15, 31, 0], #[], #[], #[], #[], #[], #[], #[0, 1, 0, 4, 15, 31, 63], #[], #[]]) mixed Try.func33 rfl (by kernel_rfl) (by kernel_rfl) rfl (of_decide_eq_true rfl : 2 ≤ 39) (by rw [eq_speech_asks a0 a1 Q H]; exact h : FnA Try.prog 39 (regsF Try.f33) ac_speech_asks [.tm 4] [a0, a1] H Q)

/-! wordhoard/speech.copiedProof -/
def ac_speech_copiedProof : AC := (.seq (.reg 0) (.seq (.reg 1) (.seq (.reg 2) (.seq (.reg 3) (.seq (.seq (.reg 4) (.block 0 (.loop [19] [(5, 6), (20, 31)] (.seq (.reg 5) (.seq (.cond (.tmp 20) .skip (.exit 0)) (.seq (.block 1 (.seq (.reg 6) (.reg 7))) (.reg 8))))))) (.seq (.reg 9) .ret))))))
def S_speech_copiedProof_L1 (Q : AV → AH → Prop) (H : AH) (v1 : AV) (v2 : AV) (v15 : AV) (v18 : AV) (vs : List AV) (k : List AV → AH → Prop) : AH → Prop :=
 Pu Try.prog (.bin .lss 3) [(vs.getD 0 .any), v18] fun v20 =>
 CdA v20
 (
 Rg 4 fun b_27 =>
 Pu Try.prog (.idx 8) [v15, (vs.getD 0 .any)] fun v21 =>
 RdS Try.prog (.ld 8 true) [v21] fun v22 =>
 Al (b_27 + 2) (.nw 27 [.p (.int .i64 0), .p (.slice none 0 0), .p (.int .i64 0), .p (.int .i64 0), .p (.slice none 0 0), .p (.int .i64 0), .p (.int .i64 0), .p (.slice none 0 0)]) [] fun v5 =>
 WrS Try.prog (b_27 + 3) (.st 8) [v5, v22] fun _ =>
 Rg 8 fun b_32 =>
 Vw fun V_33 =>
 Pu Try.prog (.addOff 7) [v1] fun v23 =>
 Rd Try.prog V_33 (.ld 1 false) [v23] fun v24 =>
 Rd Try.prog V_33 (.ld 8 true) [v5] fun v25 =>
 CaV Try.prog V_33 (.fn (.func 35) [] []) [v25] fun v26 =>
 Al (b_32 + 4) (.bs 27 8 1 [.p (.int .i64 0), .p (.slice none 0 0), .p (.int .i64 0), .p (.int .i64 0), .p (.slice none 0 0), .p (.int .i64 0), .p (.int .i64 0), .p (.slice none 0 0)] [(0, 8)]) [v26] fun v27 =>
 Wr Try.prog (b_32 + 5) (.app 27 8 112) [v24, v27] fun v28 _ =>
 Pu Try.prog (.addOff 7) [v1] fun v29 =>
 Wr Try.prog (b_32 + 7) (.st 1) [v29, v28] fun _ _ =>
 Pu Try.prog (.bin .add 3) [(vs.getD 0 .any), (.p (.int .i64 1))] fun v30 =>
 k [v30]
 ) (
 Rg 2 fun b_45 =>
 RdS Try.prog (.ld 8 true) [v1] fun v31 =>
 WrS Try.prog (b_45 + 1) (.st 8) [v2, v31] fun _ =>
 RdS Try.prog (.ld 8 true) [v2] fun r2 =>
 Rt Try.prog H.nx r2 Q
 )
def S_speech_copiedProof (a0 : AV) (Q : AV → AH → Prop) (H : AH) : Prop := (
 Rg 2 fun b =>
 Al (b + 0) (.bx 27) [a0] fun v1 =>
 Al (b + 1) (.nw 27 [.p (.int .i64 0), .p (.slice none 0 0), .p (.int .i64 0), .p (.int .i64 0), .p (.slice none 0 0), .p (.int .i64 0), .p (.int .i64 0), .p (.slice none 0 0)]) [] fun v2 =>
 Rg 10 fun b_4 =>
 Vw fun V =>
 Pu Try.prog (.addOff 1) [v1] fun v6 =>
 Rd Try.prog V (.ld 1 false) [v6] fun v7 =>
 CaV Try.prog V (.fn (.func 65) [] []) [v7] fun v8 =>
 Pu Try.prog (.addOff 2) [v1] fun v9 =>
 Rd Try.prog V (.ld 3 true) [v9] fun v10 =>
 CaV Try.prog V (.fn (.func 66) [] []) [v10] fun v11 =>
 Pu Try.prog (.addOff 1) [v1] fun v12 =>
 Wr Try.prog (b_4 + 7) (.st 1) [v12, v8] fun _ _ =>
 Pu Try.prog (.addOff 2) [v1] fun v13 =>
 Wr Try.prog (b_4 + 9) (.st 3) [v13, v11] fun _ _ =>
 Pu Try.prog (.addOff 7) [v1] fun v14 =>
 RdS Try.prog (.ld 1 false) [v14] fun v15 =>
 Rg 2 fun b_20 =>
 Pu Try.prog (.addOff 7) [v1] fun v16 =>
 WrS Try.prog (b_20 + 1) (.st 1) [v16, (.p (.slice none 0 0))] fun _ =>
 Pu Try.prog .len [v15] fun v18 =>
 LoopA Try.prog 1 (S_speech_copiedProof_L1 Q H v1 v2 v15 v18) [(.p (.int .i64 0))]
 ) H
theorem eq_speech_copiedProof (a0 : AV) (Q : AV → AH → Prop) (H : AH) : FnA Try.prog 32 (regsF Try.f35) ac_speech_copiedProof [.ce 2 27] [a0] H Q = S_speech_copiedProof a0 Q H := by kernel_rfl
theorem tri_speech_copiedProof {a0 : AV} {H : AH} {Q : AV → AH → Prop} (h : S_speech_copiedProof a0 Q H) : Tri Try.prog 35 [a0] H Q :=
  tri_of (Ms := [#[], #[0, 1, 3, 0, 8, 31, 31, 127, 255, 511], #[], #[], #[], #[], #[], #[0, 1, 0, 4, 12, 31, 63, 127], #[], #[]]) mixed Try.func35 rfl (by kernel_rfl) (by kernel_rfl) rfl (of_decide_eq_true rfl : 1 ≤ 32) (by rw [eq_speech_copiedProof a0 Q H]; exact h : FnA Try.prog 32 (regsF Try.f35) ac_speech_copiedProof [.ce 2 27] [a0] H Q)

/-! wordhoard/speech.slashes -/
def ac_speech_slashes : AC := (.seq (.reg 0) (.seq (.reg 1) (.seq (.seq (.reg 2) (.block 0 (.loop [3, 8] [(5, 6), (9, 22)] (.seq (.reg 3) (.seq (.cond (.tmp 9) .skip (.exit 0)) (.seq (.block 1 (.seq (.reg 4) (.seq (.reg 5) (.cond (.tmp 14) (.reg 6) .skip)))) (.reg 7))))))) (.seq (.reg 8) .ret))))
def S_speech_slashes_L1 (a0 : AV) (Q : AV → AH → Prop) (H : AH) (v7 : AV) (vs : List AV) (k : List AV → AH → Prop) : AH → Prop :=
 Pu Try.prog (.bin .lss 3) [(vs.getD 1 .any), v7] fun v9 =>
 CdA v9
 (
 Rg 4 fun b =>
 Pu Try.prog (.idx 3) [a0, (vs.getD 1 .any)] fun v10 =>
 RdS Try.prog (.ld 3 true) [v10] fun v11 =>
 Al (b + 2) (.nw 24 [.p (.int .i64 0), .p (.int .i64 0), .p (.slice none 0 0)]) [] fun v5 =>
 WrS Try.prog (b + 3) (.st 3) [v5, v11] fun _ =>
 Pu Try.prog (.addOff 0) [v5] fun v12 =>
 RdS Try.prog (.ld 1 false) [v12] fun v13 =>
 Pu Try.prog (.bin .neq 3) [v13, (.p (.int .i64 1))] fun v14 =>
 CdA v14
 (
 Pu Try.prog (.addOff 2) [v5] fun v16 =>
 RdS Try.prog (.ld 1 false) [v16] fun v17 =>
 Ca Try.prog (.fn (.func 46) [] []) [v17] fun v18 =>
 Pu Try.prog (.bin .add 3) [(.p (.int .i64 1)), v18] fun v19 =>
 Pu Try.prog (.bin .add 3) [(vs.getD 0 .any), v19] fun v20 =>
 Pu Try.prog (.bin .add 3) [(vs.getD 1 .any), (.p (.int .i64 1))] fun v21 =>
 k [v20, v21]
 ) (
 Pu Try.prog (.bin .add 3) [(vs.getD 1 .any), (.p (.int .i64 1))] fun v21_19 =>
 k [(vs.getD 0 .any), v21_19]
 )
 ) (
 Rt Try.prog H.nx (vs.getD 0 .any) Q
 )
def S_speech_slashes (a0 : AV) (Q : AV → AH → Prop) (H : AH) : Prop := (
 Pu Try.prog .len [a0] fun v7 =>
 LoopA Try.prog 2 (S_speech_slashes_L1 a0 Q H v7) [(.p (.int .i64 0)), (.p (.int .i64 0))]
 ) H
theorem eq_speech_slashes (a0 : AV) (Q : AV → AH → Prop) (H : AH) : FnA Try.prog 23 (regsF Try.f46) ac_speech_slashes [.tm 2] [a0] H Q = S_speech_slashes a0 Q H := by kernel_rfl
theorem tri_speech_slashes {a0 : AV} {H : AH} {Q : AV → AH → Prop} (h : S_speech_slashes a0 Q H) : Tri Try.prog 46 [a0] H Q :=
  tri_of (Ms := [#[], #[], #[], #[], #[], #[], #[], #[], #[]]) mixed Try.func46 rfl (by kernel_rfl) (by kernel_rfl) rfl (of_decide_eq_true rfl : 1 ≤ 23) (by rw [eq_speech_slashes a0 Q H]; exact h : FnA Try.prog 23 (regsF Try.f46) ac_speech_slashes [.tm 2] [a0] H Q)

/-! wordhoard/speech.text -/
def ac_speech_text : AC := (.seq (.reg 0) (.seq (.seq (.reg 1) (.block 0 (.seq (.reg 2) (.cond (.tmp 5) (.seq (.reg 3) .ret) (.seq (.reg 4) (.cond (.tmp 13) (.seq (.reg 5) .ret) .skip)))))) (.seq (.reg 6) .ret)))
def S_speech_text_C1 (Q : AV → AH → Prop) (H : AH) (v1 : AV) (v4 : AV) : AH → Prop :=
 Pu Try.prog (.bin .eql 3) [v4, (.p (.int .i64 2))] fun v14 =>
 CdA v14
 (
 Vw fun V =>
 Pu Try.prog (.addOff 2) [v1] fun v15 =>
 Rd Try.prog V (.ld 1 false) [v15] fun v16 =>
 Pu Try.prog (.idx 3) [v16, (.p (.int .i64 0))] fun v17 =>
 Rd Try.prog V (.ld 3 true) [v17] fun v18 =>
 CaV Try.prog V (.fn (.func 52) [] []) [v18] fun v19 =>
 Pu Try.prog (.bin .add 9) [(.p (.string { data := #[40] })), v19] fun v20 =>
 Pu Try.prog (.bin .add 9) [v20, (.p (.string { data := #[47] }))] fun v21 =>
 Pu Try.prog (.addOff 2) [v1] fun v22 =>
 Rd Try.prog V (.ld 1 false) [v22] fun v23 =>
 Pu Try.prog (.idx 3) [v23, (.p (.int .i64 1))] fun v24 =>
 Rd Try.prog V (.ld 3 true) [v24] fun v25 =>
 CaV Try.prog V (.fn (.func 52) [] []) [v25] fun v26 =>
 Pu Try.prog (.bin .add 9) [v21, v26] fun v27 =>
 Pu Try.prog (.bin .add 9) [v27, (.p (.string { data := #[41] }))] fun v28 =>
 Rt Try.prog H.nx v28 Q
 ) (
 Vw fun V_29 =>
 Pu Try.prog (.addOff 2) [v1] fun v29 =>
 Rd Try.prog V_29 (.ld 1 false) [v29] fun v30 =>
 Pu Try.prog (.idx 3) [v30, (.p (.int .i64 0))] fun v31 =>
 Rd Try.prog V_29 (.ld 3 true) [v31] fun v32 =>
 CaV Try.prog V_29 (.fn (.func 52) [] []) [v32] fun v33 =>
 Pu Try.prog (.bin .add 9) [(.p (.string { data := #[40] })), v33] fun v34 =>
 Pu Try.prog (.bin .add 9) [v34, (.p (.string { data := #[92] }))] fun v35 =>
 Pu Try.prog (.addOff 2) [v1] fun v36 =>
 Rd Try.prog V_29 (.ld 1 false) [v36] fun v37 =>
 Pu Try.prog (.idx 3) [v37, (.p (.int .i64 1))] fun v38 =>
 Rd Try.prog V_29 (.ld 3 true) [v38] fun v39 =>
 CaV Try.prog V_29 (.fn (.func 52) [] []) [v39] fun v40 =>
 Pu Try.prog (.bin .add 9) [v35, v40] fun v41 =>
 Pu Try.prog (.bin .add 9) [v41, (.p (.string { data := #[41] }))] fun v42 =>
 Rt Try.prog H.nx v42 Q
 )
def S_speech_text (a0 : AV) (Q : AV → AH → Prop) (H : AH) : Prop := (
 Rg 2 fun b =>
 Al (b + 0) (.bx 24) [a0] fun v1 =>
 Pu Try.prog (.addOff 0) [v1] fun v3 =>
 RdS Try.prog (.ld 1 false) [v3] fun v4 =>
 Pu Try.prog (.bin .eql 3) [v4, (.p (.int .i64 1))] fun v6 =>
 CdA v6
 (
 Rg 7 fun b_6 =>
 Pu Try.prog (.addOff 1) [v1] fun v7 =>
 RdS Try.prog (.ld 1 false) [v7] fun v8 =>
 Pu Try.prog (.bin .add 3) [(.p (.int .i64 97)), v8] fun v9 =>
 Pu Try.prog (.conv .u8) [v9] fun v10 =>
 Al (b_6 + 4) (.bs 5 1 1 [.p (.int .u8 0)] [(0, 1)]) [v10] fun v11 =>
 RdS Try.prog .bstr [v11] fun v12 =>
 Rt Try.prog H.nx v12 Q
 ) (S_speech_text_C1 Q H v1 v4)
 ) H
theorem eq_speech_text (a0 : AV) (Q : AV → AH → Prop) (H : AH) : FnA Try.prog 43 (regsF Try.f52) ac_speech_text [.tm 2] [a0] H Q = S_speech_text a0 Q H := by kernel_rfl
theorem tri_speech_text {a0 : AV} {H : AH} {Q : AV → AH → Prop} (h : S_speech_text a0 Q H) : Tri Try.prog 52 [a0] H Q :=
  tri_of (Ms := [#[], #[], #[], #[], #[], #[0, 1, 3, 7, 15, 31, 63, 0, 128, 384, 896, 1951, 4095, 8191, 16383], #[0, 1, 3, 7, 15, 31, 63, 0, 128, 384, 896, 1951, 4095, 8191, 16383]]) mixed Try.func52 rfl (by kernel_rfl) (by kernel_rfl) rfl (of_decide_eq_true rfl : 1 ≤ 43) (by rw [eq_speech_text a0 Q H]; exact h : FnA Try.prog 43 (regsF Try.f52) ac_speech_text [.tm 2] [a0] H Q)

/-! wordhoard/speech.count -/
def ac_speech_count : AC := (.seq (.reg 0) (.seq (.reg 1) .ret))
def S_speech_count (a0 a1 : AV) (Q : AV → AH → Prop) (H : AH) : Prop := (
 Rg 2 fun b =>
 Al (b + 0) (.bx 24) [a0] fun v2 =>
 RdS Try.prog (.ld 3 true) [v2] fun v5 =>
 Ca Try.prog (.fn (.func 69) [] []) [v5, (.fn (.func 70) [] []), a1] fun v7 =>
 Rt Try.prog H.nx v7 Q
 ) H
theorem eq_speech_count (a0 a1 : AV) (Q : AV → AH → Prop) (H : AH) : FnA Try.prog 8 (regsF Try.f53) ac_speech_count [.tm 4] [a0, a1] H Q = S_speech_count a0 a1 Q H := by kernel_rfl
theorem tri_speech_count {a0 a1 : AV} {H : AH} {Q : AV → AH → Prop} (h : S_speech_count a0 a1 Q H) : Tri Try.prog 53 [a0, a1] H Q :=
  tri_of (Ms := [#[], #[]]) mixed Try.func53 rfl (by kernel_rfl) (by kernel_rfl) rfl (of_decide_eq_true rfl : 2 ≤ 8) (by rw [eq_speech_count a0 a1 Q H]; exact h : FnA Try.prog 8 (regsF Try.f53) ac_speech_count [.tm 4] [a0, a1] H Q)

/-! wordhoard/speech.check -/
def ac_speech_check : AC := (.seq (.reg 0) (.seq (.reg 1) (.cut [3, 4] [(2, 3), (8, 15)] (.seq (.reg 2) (.block 0 (.seq (.reg 3) (.cond (.tmp 10) (.reg 4) (.seq (.seq (.reg 5) (.cond (.tmp 12) .skip (.reg 6))) (.cond (.tmp 12) .skip (.seq (.reg 7) .ret))))))) (.seq (.seq (.reg 8) (.cond (.tmp 19) (.seq (.reg 9) .ret) .skip)) (.seq (.seq (.reg 10) (.cond (.tmp 28) (.seq (.reg 11) .ret) .skip)) (.seq (.seq (.reg 12) (.block 1 (.loop [32] [(2, 3), (6, 8), (33, 42)] (.seq (.reg 13) (.seq (.cond (.tmp 33) .skip (.exit 1)) (.seq (.block 2 (.seq (.reg 14) (.seq (.reg 15) (.seq (.reg 16) (.cond (.tmp 39) (.seq (.reg 17) .ret) .skip))))) (.reg 18))))))) (.seq (.reg 19) .ret)))))))
def S_speech_check_L1 (Q : AV → AH → Prop) (H : AH) (v30 : AV) (v31 : AV) (vs_25 : List AV) (k_24 : List AV → AH → Prop) : AH → Prop :=
 Pu Try.prog (.bin .lss 3) [(vs_25.getD 0 .any), v31] fun v33 =>
 CdA v33
 (
 Rg 4 fun b_27 =>
 Pu Try.prog (.idx 3) [v30, (vs_25.getD 0 .any)] fun v34 =>
 RdS Try.prog (.ld 3 true) [v34] fun v35 =>
 Al (b_27 + 2) (.nw 24 [.p (.int .i64 0), .p (.int .i64 0), .p (.slice none 0 0)]) [] fun v6 =>
 WrS Try.prog (b_27 + 3) (.st 3) [v6, v35] fun _ =>
 RdS Try.prog (.ld 3 true) [v6] fun v36 =>
 Ca Try.prog (.fn (.func 54) [] []) [v36] fun v37 =>
 Pu Try.prog (.bin .neq 28) [v37, (.p (.int .i64 0))] fun v39 =>
 CdA v39
 (
 Rt Try.prog H.nx v37 Q
 ) (
 Pu Try.prog (.bin .add 3) [(vs_25.getD 0 .any), (.p (.int .i64 1))] fun v41 =>
 k_24 [v41]
 )
 ) (
 Rt Try.prog H.nx (.p (.int .i64 0)) Q
 )
def S_speech_check_K2 (Q : AV → AH → Prop) (H : AH) (v1 : AV) (vs : List AV) : AH → Prop :=
 Pu Try.prog (.addOff 2) [v1] fun v15 =>
 RdS Try.prog (.ld 1 false) [v15] fun v16 =>
 Pu Try.prog .len [v16] fun v17 =>
 Pu Try.prog (.bin .neq 3) [v17, (vs.getD 0 .any)] fun v19 =>
 CdA v19
 (
 Rt Try.prog H.nx (.p (.int .i64 1)) Q
 ) (
 Pu Try.prog (.addOff 1) [v1] fun v20 =>
 RdS Try.prog (.ld 1 false) [v20] fun v21 =>
 Pu Try.prog (.bin .lss 3) [v21, (.p (.int .i64 0))] fun v22 =>
 Gd v22 false (fun k_13 => Pu Try.prog (.addOff 1) [v1] k_13) fun v24 =>
 Gd v22 false (fun k_15 => RdS Try.prog (.ld 1 false) [v24] k_15) fun v25 =>
 Gd v22 false (fun k_17 => k_17 (vs.getD 1 .any)) fun v26 =>
 Gd v22 false (fun k_19 => Pu Try.prog (.bin .gtr 3) [v25, v26] k_19) fun v27 =>
 Pu Try.prog .pick [v22, (.p (.bool true)), v27] fun v28 =>
 CdA v28
 (
 Rt Try.prog H.nx (.p (.int .i64 3)) Q
 ) (
 Pu Try.prog (.addOff 2) [v1] fun v29 =>
 RdS Try.prog (.ld 1 false) [v29] fun v30 =>
 Pu Try.prog .len [v30] fun v31 =>
 LoopA Try.prog 1 (S_speech_check_L1 Q H v30 v31) [(.p (.int .i64 0))]
 )
 )
def S_speech_check (a0 : AV) (Q : AV → AH → Prop) (H : AH) : Prop := (
 Rg 2 fun b =>
 Al (b + 0) (.bx 24) [a0] fun v1 =>
 CutA Try.prog 2 (fun k =>
 Pu Try.prog (.addOff 0) [v1] fun v8 =>
 RdS Try.prog (.ld 1 false) [v8] fun v9 =>
 Pu Try.prog (.bin .eql 3) [v9, (.p (.int .i64 1))] fun v11 =>
 CdA v11
 (
 k [(.p (.int .i64 0)), (.p (.int .i64 9))]
 ) (
 Pu Try.prog (.bin .eql 3) [v9, (.p (.int .i64 2))] fun v13 =>
 CdA v13
 (
 CdA v13
 (
 k [(.p (.int .i64 2)), (.p (.int .i64 0))]
 ) (
 Rt Try.prog H.nx (.p (.int .i64 4)) Q
 )
 ) (
 Pu Try.prog (.bin .eql 3) [v9, (.p (.int .i64 3))] fun v14 =>
 CdA v14
 (
 k [(.p (.int .i64 2)), (.p (.int .i64 0))]
 ) (
 Rt Try.prog H.nx (.p (.int .i64 4)) Q
 )
 )
 )
 ) (S_speech_check_K2 Q H v1)
 ) H
theorem eq_speech_check (a0 : AV) (Q : AV → AH → Prop) (H : AH) : FnA Try.prog 42 (regsF Try.f54) ac_speech_check [.tm 2] [a0] H Q = S_speech_check a0 Q H := by kernel_rfl
theorem tri_speech_check {a0 : AV} {H : AH} {Q : AV → AH → Prop} (h : S_speech_check a0 Q H) : Tri Try.prog 54 [a0] H Q :=
  tri_of (Ms := [#[], #[], #[], #[], #[], #[], #[], #[], #[], #[], #[], #[], #[], #[], #[], #[], #[], #[], #[], #[]]) mixed Try.func54 rfl (by kernel_rfl) (by kernel_rfl) rfl (of_decide_eq_true rfl : 1 ≤ 42) (by rw [eq_speech_check a0 Q H]; exact h : FnA Try.prog 42 (regsF Try.f54) ac_speech_check [.tm 2] [a0] H Q)

/-! wordhoard/speech.balanced -/
def ac_speech_balanced : AC := (.seq (.reg 0) (.seq (.reg 1) (.seq (.seq (.reg 2) (.block 0 (.loop [11] [(8, 9), (12, 18)] (.seq (.reg 3) (.seq (.cond (.tmp 12) .skip (.exit 0)) (.seq (.block 1 (.seq (.reg 4) (.reg 5))) (.reg 6))))))) (.seq (.reg 7) (.seq (.reg 8) .ret)))))
def S_speech_balanced_L1 (a0 : AV) (Q : AV → AH → Prop) (H : AH) (v3 : AV) (v5 : AV) (v6 : AV) (v10 : AV) (vs : List AV) (k : List AV → AH → Prop) : AH → Prop :=
 Pu Try.prog (.bin .lss 3) [(vs.getD 0 .any), v10] fun v12 =>
 CdA v12
 (
 Rg 4 fun b_10 =>
 Pu Try.prog (.idx 3) [a0, (vs.getD 0 .any)] fun v13 =>
 RdS Try.prog (.ld 3 true) [v13] fun v14 =>
 Al (b_10 + 2) (.nw 24 [.p (.int .i64 0), .p (.int .i64 0), .p (.slice none 0 0)]) [] fun v8 =>
 WrS Try.prog (b_10 + 3) (.st 3) [v8, v14] fun _ =>
 RdS Try.prog (.ld 3 true) [v8] fun v15 =>
 Ca Try.prog (.fn (.func 73) [] []) [v15, (.p (.int .i64 1)), v5] fun _ =>
 Pu Try.prog (.bin .add 3) [(vs.getD 0 .any), (.p (.int .i64 1))] fun v17 =>
 k [v17]
 ) (
 RdS Try.prog (.ld 3 true) [v3] fun v18 =>
 Ca Try.prog (.fn (.func 73) [] []) [v18, (.p (.int .i64 1)), v6] fun _ =>
 RdS Try.prog (.ld 10 true) [v5] fun v20 =>
 RdS Try.prog (.ld 10 true) [v6] fun v21 =>
 Pu Try.prog (.bin .eql 94) [v20, v21] fun v22 =>
 Rt Try.prog H.nx v22 Q
 )
def S_speech_balanced (a0 a1 : AV) (Q : AV → AH → Prop) (H : AH) : Prop := (
 Rg 2 fun b =>
 Al (b + 0) (.bx 24) [a1] fun v3 =>
 Rg 2 fun b_3 =>
 Al (b_3 + 0) (.nw 94 [.p (.int .i64 0), .p (.int .i64 0), .p (.int .i64 0), .p (.int .i64 0), .p (.int .i64 0), .p (.int .i64 0), .p (.int .i64 0), .p (.int .i64 0), .p (.int .i64 0), .p (.int .i64 0)]) [] fun v5 =>
 Al (b_3 + 1) (.nw 94 [.p (.int .i64 0), .p (.int .i64 0), .p (.int .i64 0), .p (.int .i64 0), .p (.int .i64 0), .p (.int .i64 0), .p (.int .i64 0), .p (.int .i64 0), .p (.int .i64 0), .p (.int .i64 0)]) [] fun v6 =>
 Pu Try.prog .len [a0] fun v10 =>
 LoopA Try.prog 1 (S_speech_balanced_L1 a0 Q H v3 v5 v6 v10) [(.p (.int .i64 0))]
 ) H
theorem eq_speech_balanced (a0 a1 : AV) (Q : AV → AH → Prop) (H : AH) : FnA Try.prog 23 (regsF Try.f62) ac_speech_balanced [.tm 4] [a0, a1] H Q = S_speech_balanced a0 a1 Q H := by kernel_rfl
theorem tri_speech_balanced {a0 a1 : AV} {H : AH} {Q : AV → AH → Prop} (h : S_speech_balanced a0 a1 Q H) : Tri Try.prog 62 [a0, a1] H Q :=
  tri_of (Ms := [#[], #[], #[], #[], #[], #[], #[], #[], #[]]) mixed Try.func62 rfl (by kernel_rfl) (by kernel_rfl) rfl (of_decide_eq_true rfl : 2 ≤ 23) (by rw [eq_speech_balanced a0 a1 Q H]; exact h : FnA Try.prog 23 (regsF Try.f62) ac_speech_balanced [.tm 4] [a0, a1] H Q)

/-! wordhoard/speech.key -/
def ac_speech_key : AC := (.seq (.reg 0) (.seq (.reg 1) (.seq (.seq (.reg 2) (.block 0 (.loop [14] [(7, 8), (15, 22)] (.seq (.reg 3) (.seq (.cond (.tmp 15) .skip (.exit 0)) (.seq (.block 1 (.seq (.reg 4) (.reg 5))) (.reg 6))))))) (.seq (.reg 7) .ret))))
def S_speech_key_L1 (Q : AV → AH → Prop) (H : AH) (v5 : AV) (v12 : AV) (v13 : AV) (vs : List AV) (k : List AV → AH → Prop) : AH → Prop :=
 Pu Try.prog (.bin .lss 3) [(vs.getD 0 .any), v13] fun v15 =>
 CdA v15
 (
 Rg 4 fun b_15 =>
 Pu Try.prog (.idx 3) [v12, (vs.getD 0 .any)] fun v16 =>
 RdS Try.prog (.ld 3 true) [v16] fun v17 =>
 Al (b_15 + 2) (.nw 24 [.p (.int .i64 0), .p (.int .i64 0), .p (.slice none 0 0)]) [] fun v7 =>
 WrS Try.prog (b_15 + 3) (.st 3) [v7, v17] fun _ =>
 RdS Try.prog (.ld 3 true) [v7] fun v18 =>
 Ca Try.prog (.fn (.func 52) [] []) [v18] fun v19 =>
 Ca Try.prog (.fn (.func 74) [] []) [v5, v19] fun _ =>
 Pu Try.prog (.bin .add 3) [(vs.getD 0 .any), (.p (.int .i64 1))] fun v21 =>
 k [v21]
 ) (
 Ca Try.prog (.fn (.func 75) [] []) [v5] fun v22 =>
 Rt Try.prog H.nx v22 Q
 )
def S_speech_key (a0 a1 : AV) (Q : AV → AH → Prop) (H : AH) : Prop := (
 Rg 2 fun b =>
 Al (b + 0) (.bx 24) [a1] fun v3 =>
 Rg 1 fun b_3 =>
 Al (b_3 + 0) (.nw 99 [.p (.pointer none), .p (.slice none 0 0)]) [] fun v5 =>
 Rg 7 fun b_5 =>
 Vw fun V =>
 CaR Try.prog V (b_5 + 1) [] (.fn (.func 49) [] []) [a0] fun v9 =>
 Rd Try.prog V (.ld 3 true) [v3] fun v10 =>
 Al (b_5 + 3) (.bs 24 3 1 [.p (.int .i64 0), .p (.int .i64 0), .p (.slice none 0 0)] [(0, 3)]) [v10] fun v11 =>
 WrF V (some (b_5 + 1)) (some (b_5 + 3)) (b_5 + 4) (.app 24 3 40) [v9, v11] fun v12 =>
 Pu Try.prog .len [v12] fun v13 =>
 LoopA Try.prog 1 (S_speech_key_L1 Q H v5 v12 v13) [(.p (.int .i64 0))]
 ) H
theorem eq_speech_key (a0 a1 : AV) (Q : AV → AH → Prop) (H : AH) : FnA Try.prog 23 (regsF Try.f63) ac_speech_key [.tm 4] [a0, a1] H Q = S_speech_key a0 a1 Q H := by kernel_rfl
theorem tri_speech_key {a0 a1 : AV} {H : AH} {Q : AV → AH → Prop} (h : S_speech_key a0 a1 Q H) : Tri Try.prog 63 [a0, a1] H Q :=
  tri_of (Ms := [#[], #[], #[0, 1, 0, 4, 15, 31, 0], #[], #[], #[], #[], #[]]) mixed Try.func63 rfl (by kernel_rfl) (by kernel_rfl) rfl (of_decide_eq_true rfl : 2 ≤ 23) (by rw [eq_speech_key a0 a1 Q H]; exact h : FnA Try.prog 23 (regsF Try.f63) ac_speech_key [.tm 4] [a0, a1] H Q)

/-! wordhoard/speech.copiedAll -/
def ac_speech_copiedAll : AC := (.seq (.reg 0) (.seq (.reg 1) (.seq (.seq (.reg 2) (.block 0 (.loop [3, 8] [(5, 6), (9, 18)] (.seq (.reg 3) (.seq (.cond (.tmp 9) .skip (.exit 0)) (.seq (.block 1 (.seq (.reg 4) (.reg 5))) (.reg 6))))))) (.seq (.reg 7) .ret))))
def S_speech_copiedAll_L1 (a0 : AV) (Q : AV → AH → Prop) (H : AH) (v7 : AV) (vs : List AV) (k : List AV → AH → Prop) : AH → Prop :=
 Pu Try.prog (.bin .lss 3) [(vs.getD 1 .any), v7] fun v9 =>
 CdA v9
 (
 Rg 4 fun b =>
 Pu Try.prog (.idx 3) [a0, (vs.getD 1 .any)] fun v10 =>
 RdS Try.prog (.ld 3 true) [v10] fun v11 =>
 Al (b + 2) (.nw 24 [.p (.int .i64 0), .p (.int .i64 0), .p (.slice none 0 0)]) [] fun v5 =>
 WrS Try.prog (b + 3) (.st 3) [v5, v11] fun _ =>
 Rg 6 fun b_10 =>
 RdS Try.prog (.ld 3 true) [v5] fun v13 =>
 Ca Try.prog (.fn (.func 66) [] []) [v13] fun v14 =>
 Al (b_10 + 3) (.bs 24 3 1 [.p (.int .i64 0), .p (.int .i64 0), .p (.slice none 0 0)] [(0, 3)]) [v14] fun v15 =>
 WrS Try.prog (b_10 + 4) (.app 24 3 40) [(vs.getD 0 .any), v15] fun v16 =>
 Pu Try.prog (.bin .add 3) [(vs.getD 1 .any), (.p (.int .i64 1))] fun v17 =>
 k [v16, v17]
 ) (
 Rt Try.prog H.nx (vs.getD 0 .any) Q
 )
def S_speech_copiedAll (a0 : AV) (Q : AV → AH → Prop) (H : AH) : Prop := (
 Pu Try.prog .len [a0] fun v7 =>
 LoopA Try.prog 2 (S_speech_copiedAll_L1 a0 Q H v7) [(.p (.slice none 0 0)), (.p (.int .i64 0))]
 ) H
theorem eq_speech_copiedAll (a0 : AV) (Q : AV → AH → Prop) (H : AH) : FnA Try.prog 19 (regsF Try.f65) ac_speech_copiedAll [.tm 2] [a0] H Q = S_speech_copiedAll a0 Q H := by kernel_rfl
theorem tri_speech_copiedAll {a0 : AV} {H : AH} {Q : AV → AH → Prop} (h : S_speech_copiedAll a0 Q H) : Tri Try.prog 65 [a0] H Q :=
  tri_of (Ms := [#[], #[], #[], #[], #[], #[], #[], #[]]) mixed Try.func65 rfl (by kernel_rfl) (by kernel_rfl) rfl (of_decide_eq_true rfl : 1 ≤ 19) (by rw [eq_speech_copiedAll a0 Q H]; exact h : FnA Try.prog 19 (regsF Try.f65) ac_speech_copiedAll [.tm 2] [a0] H Q)

/-! wordhoard/speech.copied -/
def ac_speech_copied : AC := (.seq (.reg 0) (.seq (.reg 1) (.seq (.reg 2) .ret)))
def S_speech_copied (a0 : AV) (Q : AV → AH → Prop) (H : AH) : Prop := (
 Rg 2 fun b =>
 Al (b + 0) (.bx 24) [a0] fun v1 =>
 Al (b + 1) (.nw 24 [.p (.int .i64 0), .p (.int .i64 0), .p (.slice none 0 0)]) [] fun v2 =>
 Rg 5 fun b_4 =>
 Pu Try.prog (.addOff 2) [v1] fun v3 =>
 RdS Try.prog (.ld 1 false) [v3] fun v4 =>
 Ca Try.prog (.fn (.func 65) [] []) [v4] fun v5 =>
 Pu Try.prog (.addOff 2) [v1] fun v6 =>
 WrS Try.prog (b_4 + 4) (.st 1) [v6, v5] fun _ =>
 Rg 2 fun b_10 =>
 RdS Try.prog (.ld 3 true) [v1] fun v7 =>
 WrS Try.prog (b_10 + 1) (.st 3) [v2, v7] fun _ =>
 RdS Try.prog (.ld 3 true) [v2] fun r2 =>
 Rt Try.prog H.nx r2 Q
 ) H
theorem eq_speech_copied (a0 : AV) (Q : AV → AH → Prop) (H : AH) : FnA Try.prog 8 (regsF Try.f66) ac_speech_copied [.ce 2 24] [a0] H Q = S_speech_copied a0 Q H := by kernel_rfl
theorem tri_speech_copied {a0 : AV} {H : AH} {Q : AV → AH → Prop} (h : S_speech_copied a0 Q H) : Tri Try.prog 66 [a0] H Q :=
  tri_of (Ms := [#[], #[], #[]]) mixed Try.func66 rfl (by kernel_rfl) (by kernel_rfl) rfl (of_decide_eq_true rfl : 1 ≤ 8) (by rw [eq_speech_copied a0 Q H]; exact h : FnA Try.prog 8 (regsF Try.f66) ac_speech_copied [.ce 2 24] [a0] H Q)

/-! wordhoard/speech.kids -/
def ac_speech_kids : AC := (.seq (.reg 0) (.seq (.reg 1) .ret))
def S_speech_kids (a0 : AV) (Q : AV → AH → Prop) (H : AH) : Prop := (
 Rg 2 fun b =>
 Al (b + 0) (.bx 24) [a0] fun v1 =>
 Pu Try.prog (.addOff 2) [v1] fun v3 =>
 RdS Try.prog (.ld 1 false) [v3] fun v4 =>
 Rt Try.prog H.nx v4 Q
 ) H
theorem eq_speech_kids (a0 : AV) (Q : AV → AH → Prop) (H : AH) : FnA Try.prog 5 (regsF Try.f70) ac_speech_kids [.tm 2] [a0] H Q = S_speech_kids a0 Q H := by kernel_rfl
theorem tri_speech_kids {a0 : AV} {H : AH} {Q : AV → AH → Prop} (h : S_speech_kids a0 Q H) : Tri Try.prog 70 [a0] H Q :=
  tri_of (Ms := [#[], #[]]) mixed Try.func70 rfl (by kernel_rfl) (by kernel_rfl) rfl (of_decide_eq_true rfl : 1 ≤ 5) (by rw [eq_speech_kids a0 Q H]; exact h : FnA Try.prog 5 (regsF Try.f70) ac_speech_kids [.tm 2] [a0] H Q)

/-! wordhoard/speech.weigh -/
def ac_speech_weigh : AC := (.seq (.reg 0) (.seq (.reg 1) (.block 0 (.seq (.reg 2) (.cond (.tmp 8) (.reg 3) (.seq (.reg 4) (.cond (.tmp 20) (.seq (.reg 5) (.reg 6)) (.seq (.reg 7) (.cond (.tmp 37) (.seq (.reg 8) (.reg 9)) .skip)))))))))
def S_speech_weigh_C1 (a1 : AV) (a2 : AV) (Q : AV → AH → Prop) (H : AH) (v3 : AV) (v7 : AV) : AH → Prop :=
 Pu Try.prog (.bin .eql 3) [v7, (.p (.int .i64 2))] fun v21 =>
 CdA v21
 (
 Pu Try.prog (.addOff 2) [v3] fun v22 =>
 RdS Try.prog (.ld 1 false) [v22] fun v23 =>
 Pu Try.prog (.idx 3) [v23, (.p (.int .i64 0))] fun v24 =>
 RdS Try.prog (.ld 3 true) [v24] fun v25 =>
 Ca Try.prog (.fn (.func 73) [] []) [v25, a1, a2] fun _ =>
 Pu Try.prog (.addOff 2) [v3] fun v29 =>
 RdS Try.prog (.ld 1 false) [v29] fun v30 =>
 Pu Try.prog (.idx 3) [v30, (.p (.int .i64 1))] fun v31 =>
 RdS Try.prog (.ld 3 true) [v31] fun v32 =>
 Pu Try.prog (.un .neg) [a1] fun v34 =>
 Ca Try.prog (.fn (.func 73) [] []) [v32, v34, a2] fun _ =>
 Rt Try.prog H.nx (.tup []) Q
 ) (
 Pu Try.prog (.bin .eql 3) [v7, (.p (.int .i64 3))] fun v38 =>
 CdA v38
 (
 Pu Try.prog (.addOff 2) [v3] fun v39 =>
 RdS Try.prog (.ld 1 false) [v39] fun v40 =>
 Pu Try.prog (.idx 3) [v40, (.p (.int .i64 1))] fun v41 =>
 RdS Try.prog (.ld 3 true) [v41] fun v42 =>
 Ca Try.prog (.fn (.func 73) [] []) [v42, a1, a2] fun _ =>
 Pu Try.prog (.addOff 2) [v3] fun v46 =>
 RdS Try.prog (.ld 1 false) [v46] fun v47 =>
 Pu Try.prog (.idx 3) [v47, (.p (.int .i64 0))] fun v48 =>
 RdS Try.prog (.ld 3 true) [v48] fun v49 =>
 Pu Try.prog (.un .neg) [a1] fun v51 =>
 Ca Try.prog (.fn (.func 73) [] []) [v49, v51, a2] fun _ =>
 Rt Try.prog H.nx (.tup []) Q
 ) (
 Rt Try.prog H.nx (.tup []) Q
 )
 )
def S_speech_weigh (a0 a1 a2 : AV) (Q : AV → AH → Prop) (H : AH) : Prop := (
 Rg 1 fun b =>
 Al (b + 0) (.bx 24) [a0] fun v3 =>
 Pu Try.prog (.addOff 0) [v3] fun v6 =>
 RdS Try.prog (.ld 1 false) [v6] fun v7 =>
 Pu Try.prog (.bin .eql 3) [v7, (.p (.int .i64 1))] fun v9 =>
 CdA v9
 (
 Rg 11 fun b_6 =>
 Vw fun V =>
 Pu Try.prog (.addOff 1) [v3] fun v11 =>
 Rd Try.prog V (.ld 1 false) [v11] fun v12 =>
 Pu Try.prog .nilck [a2] fun v13 =>
 Pu Try.prog (.aidx 10 1) [v13, v12] fun v14 =>
 Rd Try.prog V (.ld 1 false) [v14] fun v15 =>
 Pu Try.prog (.bin .add 3) [v15, a1] fun v17 =>
 Pu Try.prog .nilck [a2] fun v18 =>
 Pu Try.prog (.aidx 10 1) [v18, v12] fun v19 =>
 Wr Try.prog (b_6 + 10) (.st 1) [v19, v17] fun _ _ =>
 Rt Try.prog H.nx (.tup []) Q
 ) (S_speech_weigh_C1 a1 a2 Q H v3 v7)
 ) H
theorem eq_speech_weigh (a0 a1 a2 : AV) (Q : AV → AH → Prop) (H : AH) : FnA Try.prog 54 (regsF Try.f73) ac_speech_weigh [] [a0, a1, a2] H Q = S_speech_weigh a0 a1 a2 Q H := by kernel_rfl
theorem tri_speech_weigh {a0 a1 a2 : AV} {H : AH} {Q : AV → AH → Prop} (h : S_speech_weigh a0 a1 a2 Q H) : Tri Try.prog 73 [a0, a1, a2] H Q :=
  tri_of (Ms := [#[], #[], #[], #[0, 0, 2, 1, 15, 31, 0, 127, 1, 511, 1023], #[], #[], #[], #[], #[], #[]]) mixed Try.func73 rfl (by kernel_rfl) (by kernel_rfl) rfl (of_decide_eq_true rfl : 3 ≤ 54) (by rw [eq_speech_weigh a0 a1 a2 Q H]; exact h : FnA Try.prog 54 (regsF Try.f73) ac_speech_weigh [] [a0, a1, a2] H Q)

/-! wordhoard/speech.same -/
def ac_speech_same : AC := (.seq (.reg 0) (.seq (.reg 1) .ret))
def S_speech_same (a0 a1 : AV) (Q : AV → AH → Prop) (H : AH) : Prop := (
 Rg 3 fun b =>
 Al (b + 0) (.bx 24) [a0] fun v2 =>
 Al (b + 1) (.bx 24) [a1] fun v3 =>
 Pu Try.prog (.addOff 0) [v2] fun v5 =>
 RdS Try.prog (.ld 1 false) [v5] fun v6 =>
 Pu Try.prog (.addOff 0) [v3] fun v7 =>
 RdS Try.prog (.ld 1 false) [v7] fun v8 =>
 Pu Try.prog (.bin .eql 3) [v6, v8] fun v9 =>
 Gd v9 true (fun k => Pu Try.prog (.addOff 1) [v2] k) fun v11 =>
 Gd v9 true (fun k_12 => RdS Try.prog (.ld 1 false) [v11] k_12) fun v12 =>
 Gd v9 true (fun k_14 => Pu Try.prog (.addOff 1) [v3] k_14) fun v13 =>
 Gd v9 true (fun k_16 => RdS Try.prog (.ld 1 false) [v13] k_16) fun v14 =>
 Gd v9 true (fun k_18 => Pu Try.prog (.bin .eql 3) [v12, v14] k_18) fun v15 =>
 Pu Try.prog .pick [v9, v15, (.p (.bool false))] fun v16 =>
 Gd v16 true (fun k_21 => Pu Try.prog (.addOff 2) [v2] k_21) fun v18 =>
 Gd v16 true (fun k_23 => RdS Try.prog (.ld 1 false) [v18] k_23) fun v19 =>
 Gd v16 true (fun k_25 => Pu Try.prog (.addOff 2) [v3] k_25) fun v20 =>
 Gd v16 true (fun k_27 => RdS Try.prog (.ld 1 false) [v20] k_27) fun v21 =>
 Gd v16 true (fun k_29 => Ca Try.prog (.fn (.func 80) [] []) [v19, v21, (.fn (.func 76) [] [])] k_29) fun v22 =>
 Pu Try.prog .pick [v16, v22, (.p (.bool false))] fun v23 =>
 Rt Try.prog H.nx v23 Q
 ) H
theorem eq_speech_same (a0 a1 : AV) (Q : AV → AH → Prop) (H : AH) : FnA Try.prog 24 (regsF Try.f76) ac_speech_same [.tm 4] [a0, a1] H Q = S_speech_same a0 a1 Q H := by kernel_rfl
theorem tri_speech_same {a0 a1 : AV} {H : AH} {Q : AV → AH → Prop} (h : S_speech_same a0 a1 Q H) : Tri Try.prog 76 [a0, a1] H Q :=
  tri_of (Ms := [#[], #[]]) mixed Try.func76 rfl (by kernel_rfl) (by kernel_rfl) rfl (of_decide_eq_true rfl : 2 ≤ 24) (by rw [eq_speech_same a0 a1 Q H]; exact h : FnA Try.prog 24 (regsF Try.f76) ac_speech_same [.tm 4] [a0, a1] H Q)

/-! wordhoard/speech.sameAll -/
def ac_speech_sameAll : AC := (.seq (.reg 0) (.seq (.reg 1) .ret))
def S_speech_sameAll (a0 a1 : AV) (Q : AV → AH → Prop) (H : AH) : Prop := (
 Ca Try.prog (.fn (.func 80) [] []) [a0, a1, (.fn (.func 76) [] [])] fun v7 =>
 Rt Try.prog H.nx v7 Q
 ) H
theorem eq_speech_sameAll (a0 a1 : AV) (Q : AV → AH → Prop) (H : AH) : FnA Try.prog 8 (regsF Try.f78) ac_speech_sameAll [.tm 4] [a0, a1] H Q = S_speech_sameAll a0 a1 Q H := by kernel_rfl
theorem tri_speech_sameAll {a0 a1 : AV} {H : AH} {Q : AV → AH → Prop} (h : S_speech_sameAll a0 a1 Q H) : Tri Try.prog 78 [a0, a1] H Q :=
  tri_of (Ms := [#[], #[]]) mixed Try.func78 rfl (by kernel_rfl) (by kernel_rfl) rfl (of_decide_eq_true rfl : 2 ≤ 8) (by rw [eq_speech_sameAll a0 a1 Q H]; exact h : FnA Try.prog 8 (regsF Try.f78) ac_speech_sameAll [.tm 4] [a0, a1] H Q)

/-! (*wordhoard/speech.prover).proof -/
def ac_prover_proof : AC := (.seq (.reg 0) (.seq (.seq (.reg 1) (.cond (.tmp 19) (.seq (.reg 2) .ret) .skip)) (.seq (.reg 3) (.seq (.seq (.reg 4) (.cond (.tmp 30) (.seq (.reg 5) .ret) .skip)) (.seq (.reg 6) (.seq (.seq (.reg 7) (.cond (.tmp 40) (.reg 8) .skip)) (.seq (.reg 9) .ret)))))))
def S_prover_proof_C1 (a0 : AV) (a1 : AV) (Q : AV → AH → Prop) (H : AH) (v5 : AV) (v6 : AV) (v23 : AV) : AH → Prop :=
 Rg 10 fun b_30 =>
 RdS Try.prog (.ld 3 true) [v5] fun v35 =>
 Ca Try.prog (.fn (.func 64) [] []) [a0, a1, v35] fun v36 =>
 Pu Try.prog (.ext 0) [v36] fun v37 =>
 Pu Try.prog (.ext 1) [v36] fun v38 =>
 Al (b_30 + 7) (.nw 27 [.p (.int .i64 0), .p (.slice none 0 0), .p (.int .i64 0), .p (.int .i64 0), .p (.slice none 0 0), .p (.int .i64 0), .p (.int .i64 0), .p (.slice none 0 0)]) [] fun v9 =>
 WrS Try.prog (b_30 + 8) (.st 8) [v9, v37] fun _ =>
 Pu Try.prog (.un .not) [v38] fun v40 =>
 CdA v40
 (
 Rg 6 fun b_38 =>
 Pu Try.prog .nilck [a0] fun v42 =>
 Pu Try.prog (.addOff 0) [v42] fun v43 =>
 RdS Try.prog (.ld 1 false) [v43] fun v44 =>
 WrS Try.prog (b_38 + 5) (.mset 9) [v44, v23, (.p (.int .i64 1))] fun _ =>
 Rg 4 fun b_43 =>
 RdS Try.prog (.ld 8 true) [v9] fun v46 =>
 WrS Try.prog (b_43 + 2) (.st 8) [v6, v46] fun _ =>
 RdS Try.prog (.ld 8 true) [v6] fun r6_46 =>
 Rt Try.prog H.nx (.tup [r6_46, v38]) Q
 ) (
 Rg 4 fun b_47 =>
 RdS Try.prog (.ld 8 true) [v9] fun v46_48 =>
 WrS Try.prog (b_47 + 2) (.st 8) [v6, v46_48] fun _ =>
 RdS Try.prog (.ld 8 true) [v6] fun r6_50 =>
 Rt Try.prog H.nx (.tup [r6_50, v38]) Q
 )
def S_prover_proof (a0 a1 a2 : AV) (Q : AV → AH → Prop) (H : AH) : Prop := (
 Rg 3 fun b =>
 Al (b + 0) (.bx 24) [a2] fun v5 =>
 Al (b + 1) (.nw 27 [.p (.int .i64 0), .p (.slice none 0 0), .p (.int .i64 0), .p (.int .i64 0), .p (.slice none 0 0), .p (.int .i64 0), .p (.int .i64 0), .p (.slice none 0 0)]) [] fun v6 =>
 Pu Try.prog .len [a1] fun v12 =>
 Pu Try.prog (.bin .eql 3) [v12, (.p (.int .i64 0))] fun v13 =>
 Gd v13 false (fun k => k a1) fun v15 =>
 Gd v13 false (fun k_9 => RdS Try.prog (.ld 3 true) [v5] k_9) fun v16 =>
 Gd v13 false (fun k_11 => Ca Try.prog (.fn (.func 62) [] []) [v15, v16] k_11) fun v17 =>
 Gd v13 false (fun k_13 => Pu Try.prog (.un .not) [v17] k_13) fun v18 =>
 Pu Try.prog .pick [v13, (.p (.bool true)), v18] fun v19 =>
 CdA v19
 (
 Rg 3 fun b_15 =>
 Pu Try.prog (.bld [.p (.int .i64 0), .p (.slice none 0 0), .p (.int .i64 0), .p (.int .i64 0), .p (.slice none 0 0), .p (.int .i64 0), .p (.int .i64 0), .p (.slice none 0 0)] []) [] fun v20 =>
 WrS Try.prog (b_15 + 1) (.st 8) [v6, v20] fun _ =>
 RdS Try.prog (.ld 8 true) [v6] fun r6 =>
 Rt Try.prog H.nx (.tup [r6, (.p (.bool false))]) Q
 ) (
 RdS Try.prog (.ld 3 true) [v5] fun v22 =>
 Ca Try.prog (.fn (.func 63) [] []) [a1, v22] fun v23 =>
 Pu Try.prog .nilck [a0] fun v25 =>
 Pu Try.prog (.addOff 0) [v25] fun v26 =>
 RdS Try.prog (.ld 1 false) [v26] fun v27 =>
 RdS Try.prog (.look 9 (.p (.int .i64 0)) false) [v27, v23] fun v29 =>
 Pu Try.prog (.bin .gtr 3) [v29, (.p (.int .i64 0))] fun v30 =>
 CdA v30
 (
 Rg 3 fun b_26 =>
 Pu Try.prog (.bld [.p (.int .i64 0), .p (.slice none 0 0), .p (.int .i64 0), .p (.int .i64 0), .p (.slice none 0 0), .p (.int .i64 0), .p (.int .i64 0), .p (.slice none 0 0)] []) [] fun v31 =>
 WrS Try.prog (b_26 + 1) (.st 8) [v6, v31] fun _ =>
 RdS Try.prog (.ld 8 true) [v6] fun r6_29 =>
 Rt Try.prog H.nx (.tup [r6_29, (.p (.bool false))]) Q
 ) (S_prover_proof_C1 a0 a1 Q H v5 v6 v23)
 )
 ) H
theorem eq_prover_proof (a0 a1 a2 : AV) (Q : AV → AH → Prop) (H : AH) : FnA Try.prog 48 (regsF Try.f34) ac_prover_proof [.ce 6 27, .tm 7] [a0, a1, a2] H Q = S_prover_proof a0 a1 a2 Q H := by kernel_rfl
theorem tri_prover_proof {a0 a1 a2 : AV} {H : AH} {Q : AV → AH → Prop} (h : S_prover_proof a0 a1 a2 Q H) : Tri Try.prog 34 [a0, a1, a2] H Q :=
  tri_of (Ms := [#[], #[], #[], #[], #[], #[], #[], #[], #[], #[]]) mixed Try.func34 rfl (by kernel_rfl) (by kernel_rfl) rfl (of_decide_eq_true rfl : 3 ≤ 48) (by rw [eq_prover_proof a0 a1 a2 Q H]; exact h : FnA Try.prog 48 (regsF Try.f34) ac_prover_proof [.ce 6 27, .tm 7] [a0, a1, a2] H Q)

/-! (*wordhoard/speech.prover).search -/
def ac_prover_search : AC := (.seq (.reg 0) (.seq (.reg 1) (.seq (.seq (.reg 2) (.cond (.tmp 37) (.seq (.reg 3) (.seq (.reg 4) .ret)) .skip)) (.seq (.seq (.reg 5) (.block 0 (.seq (.reg 6) (.cond (.tmp 42) (.seq (.reg 7) (.seq (.reg 8) (.seq (.reg 9) .ret))) (.seq (.reg 10) (.cond (.tmp 67) (.seq (.reg 11) (.seq (.reg 12) (.seq (.reg 13) .ret))) .skip)))))) (.seq (.seq (.reg 14) (.block 1 (.loop [93] [(7, 8), (13, 25), (94, 191)] (.seq (.reg 15) (.seq (.cond (.tmp 94) .skip (.exit 1)) (.seq (.block 2 (.seq (.reg 16) (.seq (.reg 17) (.block 3 (.seq (.reg 18) (.cond (.tmp 100) (.seq (.reg 19) (.block 4 (.loop [15] [(7, 8), (16, 20), (104, 147)] (.seq (.seq (.reg 20) (.cond (.tmp 107) .skip (.exit 4))) (.seq (.block 5 (.seq (.reg 21) (.seq (.reg 22) (.seq (.reg 23) (.cond (.tmp 138) (.seq (.reg 24) (.seq (.reg 25) .ret)) .skip))))) (.reg 26)))))) (.seq (.reg 27) (.cond (.tmp 147) (.seq (.reg 28) (.block 6 (.loop [150] [(7, 8), (20, 25), (151, 190)] (.seq (.reg 29) (.seq (.cond (.tmp 151) .skip (.exit 6)) (.seq (.block 7 (.seq (.reg 30) (.seq (.reg 31) (.seq (.reg 32) (.seq (.reg 33) (.cond (.tmp 181) (.seq (.reg 34) (.seq (.reg 35) .ret)) .skip)))))) (.reg 36))))))) .skip)))))))) (.reg 37))))))) (.seq (.reg 38) .ret))))))
def S_prover_search_C1 (a0 : AV) (a1 : AV) (Q : AV → AH → Prop) (H : AH) (v5 : AV) (v6 : AV) (v8 : AV) : AH → Prop :=
 Rg 20 fun b_38 =>
 Vw fun V_39 =>
 CaR Try.prog V_39 (b_38 + 2) [] (.fn (.func 49) [] []) [a1] fun v47 =>
 Pu Try.prog (.addOff 2) [v5] fun v48 =>
 Rd Try.prog V_39 (.ld 1 false) [v48] fun v49 =>
 Pu Try.prog (.idx 3) [v49, (.p (.int .i64 1))] fun v50 =>
 Rd Try.prog V_39 (.ld 3 true) [v50] fun v51 =>
 Al (b_38 + 7) (.bs 24 3 1 [.p (.int .i64 0), .p (.int .i64 0), .p (.slice none 0 0)] [(0, 3)]) [v51] fun v52 =>
 WrF V_39 (some (b_38 + 2)) (some (b_38 + 7)) (b_38 + 8) (.app 24 3 40) [v47, v52] fun v53 =>
 Pu Try.prog (.addOff 2) [v5] fun v54 =>
 Rd Try.prog V_39 (.ld 1 false) [v54] fun v55 =>
 Pu Try.prog (.idx 3) [v55, (.p (.int .i64 0))] fun v56 =>
 Rd Try.prog V_39 (.ld 3 true) [v56] fun v57 =>
 CaP Try.prog V_39 b_38 [(b_38 + 8)] (.fn (.func 34) [] []) [a0, v53, v57] fun v58 V_52 =>
 Pu Try.prog (.ext 0) [v58] fun v59 =>
 Pu Try.prog (.ext 1) [v58] fun v60 =>
 Al (b_38 + 17) (.nw 27 [.p (.int .i64 0), .p (.slice none 0 0), .p (.int .i64 0), .p (.int .i64 0), .p (.slice none 0 0), .p (.int .i64 0), .p (.int .i64 0), .p (.slice none 0 0)]) [] fun v9 =>
 WrF V_52 (some (b_38 + 17)) none (b_38 + 18) (.st 8) [v9, v59] fun _ =>
 Rg 6 fun b_57 =>
 VwD fun V_58 =>
 Rd Try.prog V_58 (.ld 8 true) [v9] fun v61 =>
 Al (b_57 + 1) (.bs 27 8 1 [.p (.int .i64 0), .p (.slice none 0 0), .p (.int .i64 0), .p (.int .i64 0), .p (.slice none 0 0), .p (.int .i64 0), .p (.int .i64 0), .p (.slice none 0 0)] [(0, 8)]) [v61] fun v62 =>
 Pu Try.prog (.addOff 0) [v8] fun v63 =>
 WrO V_58 b_57 none (b_57 + 3) (.st 1) [v63, (.p (.int .i64 2))] fun _ =>
 Pu Try.prog (.addOff 7) [v8] fun v64 =>
 Wr Try.prog (b_57 + 5) (.st 1) [v64, v62] fun _ _ =>
 Rg 4 fun b_66 =>
 RdS Try.prog (.ld 8 true) [v8] fun v65 =>
 WrS Try.prog (b_66 + 2) (.st 8) [v6, v65] fun _ =>
 RdS Try.prog (.ld 8 true) [v6] fun r6_69 =>
 Rt Try.prog H.nx (.tup [r6_69, v60]) Q
def S_prover_search_C2 (a0 : AV) (a1 : AV) (Q : AV → AH → Prop) (H : AH) (v5 : AV) (v6 : AV) (v8 : AV) : AH → Prop :=
 Rg 19 fun b_71 =>
 Vw fun V_72 =>
 Pu Try.prog (.addOff 2) [v5] fun v71 =>
 Rd Try.prog V_72 (.ld 1 false) [v71] fun v72 =>
 Pu Try.prog (.idx 3) [v72, (.p (.int .i64 0))] fun v73 =>
 Rd Try.prog V_72 (.ld 3 true) [v73] fun v74 =>
 Al (b_71 + 5) (.bs 24 3 1 [.p (.int .i64 0), .p (.int .i64 0), .p (.slice none 0 0)] [(0, 3)]) [v74] fun v75 =>
 WrF V_72 (some (b_71 + 5)) none (b_71 + 7) (.app 24 3 40) [v75, a1] fun v77 =>
 Pu Try.prog (.addOff 2) [v5] fun v78 =>
 Rd Try.prog V_72 (.ld 1 false) [v78] fun v79 =>
 Pu Try.prog (.idx 3) [v79, (.p (.int .i64 1))] fun v80 =>
 Rd Try.prog V_72 (.ld 3 true) [v80] fun v81 =>
 CaP Try.prog V_72 b_71 [(b_71 + 7)] (.fn (.func 34) [] []) [a0, v77, v81] fun v82 V_84 =>
 Pu Try.prog (.ext 0) [v82] fun v83 =>
 Pu Try.prog (.ext 1) [v82] fun v84 =>
 Al (b_71 + 16) (.nw 27 [.p (.int .i64 0), .p (.slice none 0 0), .p (.int .i64 0), .p (.int .i64 0), .p (.slice none 0 0), .p (.int .i64 0), .p (.int .i64 0), .p (.slice none 0 0)]) [] fun v11 =>
 WrF V_84 (some (b_71 + 16)) none (b_71 + 17) (.st 8) [v11, v83] fun _ =>
 Rg 6 fun b_89 =>
 VwD fun V_90 =>
 Rd Try.prog V_90 (.ld 8 true) [v11] fun v85 =>
 Al (b_89 + 1) (.bs 27 8 1 [.p (.int .i64 0), .p (.slice none 0 0), .p (.int .i64 0), .p (.int .i64 0), .p (.slice none 0 0), .p (.int .i64 0), .p (.int .i64 0), .p (.slice none 0 0)] [(0, 8)]) [v85] fun v86 =>
 Pu Try.prog (.addOff 0) [v8] fun v87 =>
 WrO V_90 b_89 none (b_89 + 3) (.st 1) [v87, (.p (.int .i64 3))] fun _ =>
 Pu Try.prog (.addOff 7) [v8] fun v88 =>
 Wr Try.prog (b_89 + 5) (.st 1) [v88, v86] fun _ _ =>
 Rg 4 fun b_98 =>
 RdS Try.prog (.ld 8 true) [v8] fun v89 =>
 WrS Try.prog (b_98 + 2) (.st 8) [v6, v89] fun _ =>
 RdS Try.prog (.ld 8 true) [v6] fun r6_101 =>
 Rt Try.prog H.nx (.tup [r6_101, v84]) Q
def S_prover_search_C3 (a0 : AV) (a1 : AV) (Q : AV → AH → Prop) (H : AH) (v6 : AV) (v8 : AV) (vs : List AV) (v14 : AV) (k_115 : List AV → AH → Prop) (vs_116 : List AV) : AH → Prop :=
 Rg 18 fun b_119 =>
 Vw fun V_120 =>
 Pu Try.prog (.bin .add 3) [(vs.getD 0 .any), (.p (.int .i64 1))] fun v112 =>
 Pu Try.prog (.slc 3 true true) [a1, v112, (vs_116.getD 0 .any)] fun v114 =>
 Pu Try.prog (.slc 3 false true) [a1, (vs.getD 0 .any)] fun v117 =>
 Pu Try.prog (.addOff 2) [v14] fun v118 =>
 Rd Try.prog V_120 (.ld 1 false) [v118] fun v119 =>
 Pu Try.prog (.slc 3 false true) [v119, (.p (.int .i64 1))] fun v120 =>
 Pu Try.prog (.slc 3 true false) [a1, (vs_116.getD 0 .any)] fun v123 =>
 Al (b_119 + 14) (.bs 22 1 3 [.p (.slice none 0 0)] [(0, 1), (1, 1), (2, 1)]) [v117, v120, v123] fun v124 =>
 CaN Try.prog V_120 [(b_119 + 14)] (.fn (.func 45) [] []) [v124] fun v125 =>
 Rg 15 fun b_130 =>
 Vw fun V_131 =>
 Rd Try.prog V_131 (.ld 8 true) [v8] fun v128 =>
 Pu Try.prog (.addOff 2) [v14] fun v130 =>
 Rd Try.prog V_131 (.ld 1 false) [v130] fun v131 =>
 Pu Try.prog (.idx 3) [v131, (.p (.int .i64 1))] fun v132 =>
 Rd Try.prog V_131 (.ld 3 true) [v132] fun v133 =>
 CaP Try.prog V_131 b_130 [] (.fn (.func 77) [] []) [a0, v128, v114, v133, v125] fun v135 V_138 =>
 Pu Try.prog (.ext 0) [v135] fun v136 =>
 Pu Try.prog (.ext 1) [v135] fun v137 =>
 Al (b_130 + 12) (.nw 27 [.p (.int .i64 0), .p (.slice none 0 0), .p (.int .i64 0), .p (.int .i64 0), .p (.slice none 0 0), .p (.int .i64 0), .p (.int .i64 0), .p (.slice none 0 0)]) [] fun v18 =>
 WrF V_138 (some (b_130 + 12)) none (b_130 + 13) (.st 8) [v18, v136] fun _ =>
 CdA v137
 (
 Rg 10 fun b_143 =>
 Pu Try.prog (.bin .add 3) [(vs.getD 0 .any), (.p (.int .i64 1))] fun v140 =>
 Pu Try.prog .len [v114] fun v142 =>
 Pu Try.prog (.addOff 0) [v18] fun v143 =>
 WrS Try.prog (b_143 + 5) (.st 1) [v143, (.p (.int .i64 4))] fun _ =>
 Pu Try.prog (.addOff 5) [v18] fun v144 =>
 WrS Try.prog (b_143 + 7) (.st 1) [v144, v140] fun _ =>
 Pu Try.prog (.addOff 6) [v18] fun v145 =>
 WrS Try.prog (b_143 + 9) (.st 1) [v145, v142] fun _ =>
 Rg 3 fun b_152 =>
 RdS Try.prog (.ld 8 true) [v18] fun v146 =>
 WrS Try.prog (b_152 + 1) (.st 8) [v6, v146] fun _ =>
 RdS Try.prog (.ld 8 true) [v6] fun r6_155 =>
 Rt Try.prog H.nx (.tup [r6_155, (.p (.bool true))]) Q
 ) (
 Pu Try.prog (.bin .add 3) [(vs_116.getD 0 .any), (.p (.int .i64 1))] fun v109 =>
 k_115 [v109]
 )
def S_prover_search_L4 (a0 : AV) (a1 : AV) (Q : AV → AH → Prop) (H : AH) (v6 : AV) (v8 : AV) (k_103 : List AV → AH → Prop) (vs : List AV) (v14 : AV) (vs_116 : List AV) (k_115 : List AV → AH → Prop) : AH → Prop :=
 Pu Try.prog .len [a1] fun v106 =>
 Pu Try.prog (.bin .leq 3) [(vs_116.getD 0 .any), v106] fun v107 =>
 CdA v107
 (S_prover_search_C3 a0 a1 Q H v6 v8 vs v14 k_115 vs_116) (
 Pu Try.prog (.bin .add 3) [(vs.getD 0 .any), (.p (.int .i64 1))] fun v190 =>
 k_103 [v190]
 )
def S_prover_search_C5 (a0 : AV) (a1 : AV) (Q : AV → AH → Prop) (H : AH) (v6 : AV) (v8 : AV) (vs : List AV) (v14 : AV) (k_159 : List AV → AH → Prop) (vs_160 : List AV) : AH → Prop :=
 Rg 18 fun b_162 =>
 Vw fun V_163 =>
 Pu Try.prog (.slc 3 true true) [a1, (vs_160.getD 0 .any), (vs.getD 0 .any)] fun v156 =>
 Pu Try.prog (.slc 3 false true) [a1, (vs_160.getD 0 .any)] fun v159 =>
 Pu Try.prog (.addOff 2) [v14] fun v160 =>
 Rd Try.prog V_163 (.ld 1 false) [v160] fun v161 =>
 Pu Try.prog (.slc 3 true false) [v161, (.p (.int .i64 1))] fun v162 =>
 Pu Try.prog (.bin .add 3) [(vs.getD 0 .any), (.p (.int .i64 1))] fun v165 =>
 Pu Try.prog (.slc 3 true false) [a1, v165] fun v166 =>
 Al (b_162 + 14) (.bs 22 1 3 [.p (.slice none 0 0)] [(0, 1), (1, 1), (2, 1)]) [v159, v162, v166] fun v167 =>
 CaN Try.prog V_163 [(b_162 + 14)] (.fn (.func 45) [] []) [v167] fun v168 =>
 Rg 15 fun b_173 =>
 Vw fun V_174 =>
 Rd Try.prog V_174 (.ld 8 true) [v8] fun v171 =>
 Pu Try.prog (.addOff 2) [v14] fun v173 =>
 Rd Try.prog V_174 (.ld 1 false) [v173] fun v174 =>
 Pu Try.prog (.idx 3) [v174, (.p (.int .i64 0))] fun v175 =>
 Rd Try.prog V_174 (.ld 3 true) [v175] fun v176 =>
 CaP Try.prog V_174 b_173 [] (.fn (.func 77) [] []) [a0, v171, v156, v176, v168] fun v178 V_181 =>
 Pu Try.prog (.ext 0) [v178] fun v179 =>
 Pu Try.prog (.ext 1) [v178] fun v180 =>
 Al (b_173 + 12) (.nw 27 [.p (.int .i64 0), .p (.slice none 0 0), .p (.int .i64 0), .p (.int .i64 0), .p (.slice none 0 0), .p (.int .i64 0), .p (.int .i64 0), .p (.slice none 0 0)]) [] fun v23 =>
 WrF V_181 (some (b_173 + 12)) none (b_173 + 13) (.st 8) [v23, v179] fun _ =>
 CdA v180
 (
 Rg 9 fun b_186 =>
 Pu Try.prog .len [v156] fun v184 =>
 Pu Try.prog (.addOff 0) [v23] fun v185 =>
 WrS Try.prog (b_186 + 4) (.st 1) [v185, (.p (.int .i64 5))] fun _ =>
 Pu Try.prog (.addOff 5) [v23] fun v186 =>
 WrS Try.prog (b_186 + 6) (.st 1) [v186, (vs_160.getD 0 .any)] fun _ =>
 Pu Try.prog (.addOff 6) [v23] fun v187 =>
 WrS Try.prog (b_186 + 8) (.st 1) [v187, v184] fun _ =>
 Rg 3 fun b_194 =>
 RdS Try.prog (.ld 8 true) [v23] fun v188 =>
 WrS Try.prog (b_194 + 1) (.st 8) [v6, v188] fun _ =>
 RdS Try.prog (.ld 8 true) [v6] fun r6_197 =>
 Rt Try.prog H.nx (.tup [r6_197, (.p (.bool true))]) Q
 ) (
 Pu Try.prog (.bin .add 3) [(vs_160.getD 0 .any), (.p (.int .i64 1))] fun v189 =>
 k_159 [v189]
 )
def S_prover_search_L6 (a0 : AV) (a1 : AV) (Q : AV → AH → Prop) (H : AH) (v6 : AV) (v8 : AV) (k_103 : List AV → AH → Prop) (vs : List AV) (v14 : AV) (vs_160 : List AV) (k_159 : List AV → AH → Prop) : AH → Prop :=
 Pu Try.prog (.bin .lss 3) [(vs_160.getD 0 .any), (vs.getD 0 .any)] fun v151 =>
 CdA v151
 (S_prover_search_C5 a0 a1 Q H v6 v8 vs v14 k_159 vs_160) (
 Pu Try.prog (.bin .add 3) [(vs.getD 0 .any), (.p (.int .i64 1))] fun v190_199 =>
 k_103 [v190_199]
 )
def S_prover_search_L7 (a0 : AV) (a1 : AV) (Q : AV → AH → Prop) (H : AH) (v6 : AV) (v8 : AV) (v92 : AV) (vs : List AV) (k_103 : List AV → AH → Prop) : AH → Prop :=
 Pu Try.prog (.bin .lss 3) [(vs.getD 0 .any), v92] fun v94 =>
 CdA v94
 (
 Rg 6 fun b_106 =>
 Pu Try.prog (.idx 3) [a1, (vs.getD 0 .any)] fun v96 =>
 RdS Try.prog (.ld 3 true) [v96] fun v97 =>
 Al (b_106 + 3) (.nw 24 [.p (.int .i64 0), .p (.int .i64 0), .p (.slice none 0 0)]) [] fun v14 =>
 WrS Try.prog (b_106 + 5) (.st 3) [v14, v97] fun _ =>
 Pu Try.prog (.addOff 0) [v14] fun v98 =>
 RdS Try.prog (.ld 1 false) [v98] fun v99 =>
 Pu Try.prog (.bin .eql 3) [v99, (.p (.int .i64 2))] fun v101 =>
 CdA v101
 (
 Pu Try.prog (.bin .add 3) [(vs.getD 0 .any), (.p (.int .i64 2))] fun v103 =>
 LoopA Try.prog 1 (S_prover_search_L4 a0 a1 Q H v6 v8 k_103 vs v14) [v103]
 ) (
 Pu Try.prog (.bin .eql 3) [v99, (.p (.int .i64 3))] fun v148 =>
 CdA v148
 (
 LoopA Try.prog 1 (S_prover_search_L6 a0 a1 Q H v6 v8 k_103 vs v14) [(.p (.int .i64 0))]
 ) (
 Pu Try.prog (.bin .add 3) [(vs.getD 0 .any), (.p (.int .i64 1))] fun v190_200 =>
 k_103 [v190_200]
 )
 )
 ) (
 Rg 3 fun b_201 =>
 Pu Try.prog (.bld [.p (.int .i64 0), .p (.slice none 0 0), .p (.int .i64 0), .p (.int .i64 0), .p (.slice none 0 0), .p (.int .i64 0), .p (.int .i64 0), .p (.slice none 0 0)] []) [] fun v191 =>
 WrS Try.prog (b_201 + 1) (.st 8) [v6, v191] fun _ =>
 RdS Try.prog (.ld 8 true) [v6] fun r6_204 =>
 Rt Try.prog H.nx (.tup [r6_204, (.p (.bool false))]) Q
 )
def S_prover_search (a0 a1 a2 : AV) (Q : AV → AH → Prop) (H : AH) : Prop := (
 Rg 3 fun b =>
 Al (b + 0) (.bx 24) [a2] fun v5 =>
 Al (b + 1) (.nw 27 [.p (.int .i64 0), .p (.slice none 0 0), .p (.int .i64 0), .p (.int .i64 0), .p (.slice none 0 0), .p (.int .i64 0), .p (.int .i64 0), .p (.slice none 0 0)]) [] fun v6 =>
 Rg 5 fun b_4 =>
 RdS Try.prog (.ld 3 true) [v5] fun v26 =>
 Pu Try.prog (.bld [.p (.int .i64 0), .p (.slice none 0 0), .p (.int .i64 0), .p (.int .i64 0), .p (.slice none 0 0), .p (.int .i64 0), .p (.int .i64 0), .p (.slice none 0 0)] [(1, 1), (2, 3)]) [a1, v26] fun v27 =>
 Al (b_4 + 3) (.nw 27 [.p (.int .i64 0), .p (.slice none 0 0), .p (.int .i64 0), .p (.int .i64 0), .p (.slice none 0 0), .p (.int .i64 0), .p (.int .i64 0), .p (.slice none 0 0)]) [] fun v8 =>
 WrS Try.prog (b_4 + 4) (.st 8) [v8, v27] fun _ =>
 Vw fun V =>
 Pu Try.prog .len [a1] fun v29 =>
 Pu Try.prog (.bin .eql 3) [v29, (.p (.int .i64 1))] fun v30 =>
 GdV v30 true (fun k => k a1 V) V fun v32 V_14 =>
 GdV v30 true (fun k_16 => Pu Try.prog (.idx 3) [v32, (.p (.int .i64 0))] (fun a => k_16 a V_14)) V_14 fun v33 V_17 =>
 GdV v30 true (fun k_19 => Rd Try.prog V_17 (.ld 3 true) [v33] (fun a => k_19 a V_17)) V_17 fun v34 V_20 =>
 GdV v30 true (fun k_22 => Rd Try.prog V_20 (.ld 3 true) [v5] (fun a => k_22 a V_20)) V_20 fun v35 V_23 =>
 GdV v30 true (fun k_25 => CaV Try.prog V_23 (.fn (.func 76) [] []) [v34, v35] (fun a => k_25 a V_23)) V_23 fun v36 _ =>
 Pu Try.prog .pick [v30, v36, (.p (.bool false))] fun v37 =>
 CdA v37
 (
 Rg 2 fun b_28 =>
 Pu Try.prog (.addOff 0) [v8] fun v38 =>
 WrS Try.prog (b_28 + 1) (.st 1) [v38, (.p (.int .i64 1))] fun _ =>
 Rg 3 fun b_31 =>
 RdS Try.prog (.ld 8 true) [v8] fun v39 =>
 WrS Try.prog (b_31 + 1) (.st 8) [v6, v39] fun _ =>
 RdS Try.prog (.ld 8 true) [v6] fun r6 =>
 Rt Try.prog H.nx (.tup [r6, (.p (.bool true))]) Q
 ) (
 Pu Try.prog (.addOff 0) [v5] fun v40 =>
 RdS Try.prog (.ld 1 false) [v40] fun v41 =>
 Pu Try.prog (.bin .eql 3) [v41, (.p (.int .i64 2))] fun v43 =>
 CdA v43
 (S_prover_search_C1 a0 a1 Q H v5 v6 v8) (
 Pu Try.prog (.bin .eql 3) [v41, (.p (.int .i64 3))] fun v68 =>
 CdA v68
 (S_prover_search_C2 a0 a1 Q H v5 v6 v8) (
 Pu Try.prog .len [a1] fun v92 =>
 LoopA Try.prog 1 (S_prover_search_L7 a0 a1 Q H v6 v8 v92) [(.p (.int .i64 0))]
 )
 )
 )
 ) H
theorem eq_prover_search (a0 a1 a2 : AV) (Q : AV → AH → Prop) (H : AH) : FnA Try.prog 192 (regsF Try.f64) ac_prover_search [.ce 6 27, .tm 7] [a0, a1, a2] H Q = S_prover_search a0 a1 a2 Q H := by kernel_rfl
theorem tri_prover_search {a0 a1 a2 : AV} {H : AH} {Q : AV → AH → Prop} (h : S_prover_search a0 a1 a2 Q H) : Tri Try.prog 64 [a0, a1, a2] H Q :=
  tri_of (Ms := [#[], #[], #[0, 1, 3, 7, 15, 31, 63, 15, 255, 511], #[], #[], #[], #[], #[0, 0, 2, 0, 8, 24, 56, 120, 254, 0, 512, 1536, 3584, 8191, 16383, 32767, 32767, 0, 196607, 524287], #[0, 1, 0, 4, 15, 31], #[], #[], #[0, 0, 2, 6, 14, 30, 0, 126, 0, 256, 768, 1792, 4095, 8191, 16383, 16383, 0, 98303, 262143], #[0, 1, 0, 4, 15, 31], #[], #[], #[], #[], #[], #[], #[], #[], #[0, 0, 2, 0, 15, 0, 0, 96, 0, 256, 768, 0, 0, 6144, 16352, 32736, 65535, 131071], #[0, 0, 0, 0, 8, 24, 56, 0, 255, 511, 1023, 1023, 0, 6143, 16383], #[], #[], #[], #[], #[], #[], #[], #[], #[0, 0, 0, 7, 0, 0, 48, 0, 128, 384, 0, 0, 2048, 7168, 16368, 32752, 65535, 131071], #[0, 0, 0, 0, 8, 24, 56, 0, 255, 511, 1023, 1023, 0, 6143, 16383], #[], #[], #[], #[], #[], #[]]) mixed Try.func64 rfl (by kernel_rfl) (by kernel_rfl) rfl (of_decide_eq_true rfl : 3 ≤ 192) (by rw [eq_prover_search a0 a1 a2 Q H]; exact h : FnA Try.prog 192 (regsF Try.f64) ac_prover_search [.ce 6 27, .tm 7] [a0, a1, a2] H Q)

/-! (*wordhoard/speech.prover).both -/
def ac_prover_both : AC := (.seq (.reg 0) (.seq (.reg 1) (.seq (.seq (.reg 2) (.cond (.tmp 23) (.seq (.reg 3) .ret) .skip)) (.seq (.reg 4) (.seq (.reg 5) (.seq (.reg 6) .ret))))))
def S_prover_both (a0 a1 a2 a3 a4 : AV) (Q : AV → AH → Prop) (H : AH) : Prop := (
 Rg 4 fun b =>
 Al (b + 0) (.bx 27) [a1] fun v6 =>
 Al (b + 1) (.bx 24) [a3] fun v8 =>
 Al (b + 2) (.nw 27 [.p (.int .i64 0), .p (.slice none 0 0), .p (.int .i64 0), .p (.int .i64 0), .p (.slice none 0 0), .p (.int .i64 0), .p (.int .i64 0), .p (.slice none 0 0)]) [] fun v10 =>
 Rg 10 fun b_5 =>
 RdS Try.prog (.ld 3 true) [v8] fun v18 =>
 Ca Try.prog (.fn (.func 34) [] []) [a0, a2, v18] fun v19 =>
 Pu Try.prog (.ext 0) [v19] fun v20 =>
 Pu Try.prog (.ext 1) [v19] fun v21 =>
 Al (b_5 + 7) (.nw 27 [.p (.int .i64 0), .p (.slice none 0 0), .p (.int .i64 0), .p (.int .i64 0), .p (.slice none 0 0), .p (.int .i64 0), .p (.int .i64 0), .p (.slice none 0 0)]) [] fun v12 =>
 WrS Try.prog (b_5 + 8) (.st 8) [v12, v20] fun _ =>
 Pu Try.prog (.un .not) [v21] fun v23 =>
 CdA v23
 (
 Rg 3 fun b_13 =>
 RdS Try.prog (.ld 8 true) [v6] fun v24 =>
 WrS Try.prog (b_13 + 1) (.st 8) [v10, v24] fun _ =>
 RdS Try.prog (.ld 8 true) [v10] fun r10 =>
 Rt Try.prog H.nx (.tup [r10, (.p (.bool false))]) Q
 ) (
 Rg 11 fun b_17 =>
 Pu Try.prog (.addOff 2) [v6] fun v28 =>
 RdS Try.prog (.ld 3 true) [v28] fun v29 =>
 Ca Try.prog (.fn (.func 34) [] []) [a0, a4, v29] fun v30 =>
 Pu Try.prog (.ext 0) [v30] fun v31 =>
 Pu Try.prog (.ext 1) [v30] fun v32 =>
 Al (b_17 + 8) (.nw 27 [.p (.int .i64 0), .p (.slice none 0 0), .p (.int .i64 0), .p (.int .i64 0), .p (.slice none 0 0), .p (.int .i64 0), .p (.int .i64 0), .p (.slice none 0 0)]) [] fun v14 =>
 WrS Try.prog (b_17 + 9) (.st 8) [v14, v31] fun _ =>
 Rg 5 fun b_25 =>
 RdS Try.prog (.ld 8 true) [v12] fun v33 =>
 RdS Try.prog (.ld 8 true) [v14] fun v34 =>
 Al (b_25 + 2) (.bs 27 8 2 [.p (.int .i64 0), .p (.slice none 0 0), .p (.int .i64 0), .p (.int .i64 0), .p (.slice none 0 0), .p (.int .i64 0), .p (.int .i64 0), .p (.slice none 0 0)] [(0, 8), (8, 8)]) [v33, v34] fun v35 =>
 Pu Try.prog (.addOff 7) [v6] fun v36 =>
 WrS Try.prog (b_25 + 4) (.st 1) [v36, v35] fun _ =>
 Rg 4 fun b_31 =>
 RdS Try.prog (.ld 8 true) [v6] fun v37 =>
 WrS Try.prog (b_31 + 2) (.st 8) [v10, v37] fun _ =>
 RdS Try.prog (.ld 8 true) [v10] fun r10_34 =>
 Rt Try.prog H.nx (.tup [r10_34, v32]) Q
 )
 ) H
theorem eq_prover_both (a0 a1 a2 a3 a4 : AV) (Q : AV → AH → Prop) (H : AH) : FnA Try.prog 39 (regsF Try.f77) ac_prover_both [.ce 10 27, .tm 11] [a0, a1, a2, a3, a4] H Q = S_prover_both a0 a1 a2 a3 a4 Q H := by kernel_rfl
theorem tri_prover_both {a0 a1 a2 a3 a4 : AV} {H : AH} {Q : AV → AH → Prop} (h : S_prover_both a0 a1 a2 a3 a4 Q H) : Tri Try.prog 77 [a0, a1, a2, a3, a4] H Q :=
  tri_of (Ms := [#[], #[], #[], #[], #[], #[], #[]]) mixed Try.func77 rfl (by kernel_rfl) (by kernel_rfl) rfl (of_decide_eq_true rfl : 5 ≤ 39) (by rw [eq_prover_both a0 a1 a2 a3 a4 Q H]; exact h : FnA Try.prog 39 (regsF Try.f77) ac_prover_both [.ce 10 27, .tm 11] [a0, a1, a2, a3, a4] H Q)

/-! wordhoard/deep.Count[wordhoard/api.Part] -/
def ac_deep_Count_api_Part : AC := (.seq (.reg 0) (.seq (.reg 1) (.seq (.seq (.reg 2) (.block 0 (.loop [7, 14] [(9, 10), (15, 30)] (.seq (.reg 3) (.seq (.cond (.tmp 15) .skip (.exit 0)) (.seq (.block 1 (.seq (.reg 4) (.seq (.seq (.reg 5) (.cond (.tmp 20) (.exit 0) .skip)) (.reg 6)))) (.reg 7))))))) (.seq (.reg 8) .ret))))
def S_deep_Count_api_Part_L1 (a1 : AV) (a2 : AV) (Q : AV → AH → Prop) (H : AH) (v12 : AV) (v13 : AV) (vs : List AV) (k : List AV → AH → Prop) : AH → Prop :=
 Pu Try.prog (.bin .lss 3) [(vs.getD 1 .any), v13] fun v15 =>
 CdA v15
 (
 Rg 4 fun b_9 =>
 Pu Try.prog (.idx 3) [v12, (vs.getD 1 .any)] fun v16 =>
 RdS Try.prog (.ld 3 true) [v16] fun v17 =>
 Al (b_9 + 2) (.nw 24 [.p (.int .i64 0), .p (.int .i64 0), .p (.slice none 0 0)]) [] fun v9 =>
 WrS Try.prog (b_9 + 3) (.st 3) [v9, v17] fun _ =>
 Pu Try.prog (.bin .gtr 3) [(vs.getD 0 .any), a2] fun v20 =>
 CdA v20
 (
 Rt Try.prog H.nx (vs.getD 0 .any) Q
 ) (
 RdS Try.prog (.ld 3 true) [v9] fun v22 =>
 Pu Try.prog (.bin .sub 3) [a2, (vs.getD 0 .any)] fun v26 =>
 Ca Try.prog (.fn (.func 69) [] []) [v22, a1, v26] fun v27 =>
 Pu Try.prog (.bin .add 3) [(vs.getD 0 .any), v27] fun v28 =>
 Pu Try.prog (.bin .add 3) [(vs.getD 1 .any), (.p (.int .i64 1))] fun v29 =>
 k [v28, v29]
 )
 ) (
 Rt Try.prog H.nx (vs.getD 0 .any) Q
 )
def S_deep_Count_api_Part (a0 a1 a2 : AV) (Q : AV → AH → Prop) (H : AH) : Prop := (
 Rg 2 fun b =>
 Al (b + 0) (.bx 24) [a0] fun v3 =>
 RdS Try.prog (.ld 3 true) [v3] fun v11 =>
 Ca Try.prog a1 [v11] fun v12 =>
 Pu Try.prog .len [v12] fun v13 =>
 LoopA Try.prog 2 (S_deep_Count_api_Part_L1 a1 a2 Q H v12 v13) [(.p (.int .i64 1)), (.p (.int .i64 0))]
 ) H
theorem eq_deep_Count_api_Part (a0 a1 a2 : AV) (Q : AV → AH → Prop) (H : AH) : FnA Try.prog 31 (regsF Try.f69) ac_deep_Count_api_Part [.tm 6] [a0, a1, a2] H Q = S_deep_Count_api_Part a0 a1 a2 Q H := by kernel_rfl
theorem tri_deep_Count_api_Part {a0 a1 a2 : AV} {H : AH} {Q : AV → AH → Prop} (h : S_deep_Count_api_Part a0 a1 a2 Q H) : Tri Try.prog 69 [a0, a1, a2] H Q :=
  tri_of (Ms := [#[], #[], #[], #[], #[], #[], #[], #[], #[]]) mixed Try.func69 rfl (by kernel_rfl) (by kernel_rfl) rfl (of_decide_eq_true rfl : 3 ≤ 31) (by rw [eq_deep_Count_api_Part a0 a1 a2 Q H]; exact h : FnA Try.prog 31 (regsF Try.f69) ac_deep_Count_api_Part [.tm 6] [a0, a1, a2] H Q)

/-! slices.EqualFunc[[]wordhoard/api.Part,[]wordhoard/api.Part,wordhoard/api.Part,wordhoard/api.Part] -/
def ac_slices_EqualFunc_s_api_Part_s_api_Part_api_Part_api_Part : AC := (.seq (.reg 0) (.seq (.seq (.reg 1) (.cond (.tmp 14) (.seq (.reg 2) .ret) .skip)) (.seq (.seq (.reg 3) (.block 0 (.loop [17] [(6, 10), (18, 32)] (.seq (.reg 4) (.seq (.cond (.tmp 18) .skip (.exit 0)) (.seq (.block 1 (.seq (.reg 5) (.seq (.reg 6) (.seq (.reg 7) (.cond (.tmp 30) (.seq (.reg 8) .ret) .skip))))) (.reg 9))))))) (.seq (.reg 10) .ret))))
def S_slices_EqualFunc_s_api_Part_s_api_Part_api_Part_api_Part_L1 (a0 : AV) (a1 : AV) (a2 : AV) (Q : AV → AH → Prop) (H : AH) (v16 : AV) (vs : List AV) (k : List AV → AH → Prop) : AH → Prop :=
 Pu Try.prog (.bin .lss 3) [(vs.getD 0 .any), v16] fun v18 =>
 CdA v18
 (
 Rg 6 fun b =>
 Pu Try.prog (.idx 3) [a0, (vs.getD 0 .any)] fun v20 =>
 RdS Try.prog (.ld 3 true) [v20] fun v21 =>
 Al (b + 3) (.nw 24 [.p (.int .i64 0), .p (.int .i64 0), .p (.slice none 0 0)]) [] fun v8 =>
 WrS Try.prog (b + 5) (.st 3) [v8, v21] fun _ =>
 Rg 6 fun b_13 =>
 Pu Try.prog (.idx 3) [a1, (vs.getD 0 .any)] fun v24 =>
 RdS Try.prog (.ld 3 true) [v24] fun v25 =>
 Al (b_13 + 4) (.nw 24 [.p (.int .i64 0), .p (.int .i64 0), .p (.slice none 0 0)]) [] fun v9 =>
 WrS Try.prog (b_13 + 5) (.st 3) [v9, v25] fun _ =>
 RdS Try.prog (.ld 3 true) [v8] fun v27 =>
 RdS Try.prog (.ld 3 true) [v9] fun v28 =>
 Ca Try.prog a2 [v27, v28] fun v29 =>
 Pu Try.prog (.un .not) [v29] fun v30 =>
 CdA v30
 (
 Rt Try.prog H.nx (.p (.bool false)) Q
 ) (
 Pu Try.prog (.bin .add 3) [(vs.getD 0 .any), (.p (.int .i64 1))] fun v31 =>
 k [v31]
 )
 ) (
 Rt Try.prog H.nx (.p (.bool true)) Q
 )
def S_slices_EqualFunc_s_api_Part_s_api_Part_api_Part_api_Part (a0 a1 a2 : AV) (Q : AV → AH → Prop) (H : AH) : Prop := (
 Pu Try.prog .len [a0] fun v11 =>
 Pu Try.prog .len [a1] fun v13 =>
 Pu Try.prog (.bin .neq 3) [v11, v13] fun v14 =>
 CdA v14
 (
 Rt Try.prog H.nx (.p (.bool false)) Q
 ) (
 Pu Try.prog .len [a0] fun v16 =>
 LoopA Try.prog 1 (S_slices_EqualFunc_s_api_Part_s_api_Part_api_Part_api_Part_L1 a0 a1 a2 Q H v16) [(.p (.int .i64 0))]
 )
 ) H
theorem eq_slices_EqualFunc_s_api_Part_s_api_Part_api_Part_api_Part (a0 a1 a2 : AV) (Q : AV → AH → Prop) (H : AH) : FnA Try.prog 32 (regsF Try.f80) ac_slices_EqualFunc_s_api_Part_s_api_Part_api_Part_api_Part [.tm 6] [a0, a1, a2] H Q = S_slices_EqualFunc_s_api_Part_s_api_Part_api_Part_api_Part a0 a1 a2 Q H := by kernel_rfl
theorem tri_slices_EqualFunc_s_api_Part_s_api_Part_api_Part_api_Part {a0 a1 a2 : AV} {H : AH} {Q : AV → AH → Prop} (h : S_slices_EqualFunc_s_api_Part_s_api_Part_api_Part_api_Part a0 a1 a2 Q H) : Tri Try.prog 80 [a0, a1, a2] H Q :=
  tri_of (Ms := [#[], #[], #[], #[], #[], #[], #[], #[], #[], #[], #[]]) mixed Try.func80 rfl (by kernel_rfl) (by kernel_rfl) rfl (of_decide_eq_true rfl : 3 ≤ 32) (by rw [eq_slices_EqualFunc_s_api_Part_s_api_Part_api_Part_api_Part a0 a1 a2 Q H]; exact h : FnA Try.prog 32 (regsF Try.f80) ac_slices_EqualFunc_s_api_Part_s_api_Part_api_Part_api_Part [.tm 6] [a0, a1, a2] H Q)

/-! (*strings.Builder).WriteString -/
def ac_Builder_WriteString : AC := (.seq (.reg 0) (.seq (.reg 1) (.seq (.reg 2) (.seq (.reg 3) .ret))))
def S_Builder_WriteString (a0 a1 : AV) (Q : AV → AH → Prop) (H : AH) : Prop := (
 Ca Try.prog (.fn (.func 79) [] []) [a0] fun _ =>
 Rg 10 fun b =>
 Pu Try.prog .nilck [a0] fun v10 =>
 Pu Try.prog (.addOff 1) [v10] fun v11 =>
 RdS Try.prog (.ld 1 false) [v11] fun v12 =>
 WrS Try.prog (b + 6) (.aps 5 1 1) [v12, a1] fun v14 =>
 Pu Try.prog .nilck [a0] fun v15 =>
 Pu Try.prog (.addOff 1) [v15] fun v16 =>
 WrS Try.prog (b + 9) (.st 1) [v16, v14] fun _ =>
 Pu Try.prog .slen [a1] fun v18 =>
 Rt Try.prog H.nx (.tup [v18, (.p (.nilIface))]) Q
 ) H
theorem eq_Builder_WriteString (a0 a1 : AV) (Q : AV → AH → Prop) (H : AH) : FnA Try.prog 19 (regsF Try.f74) ac_Builder_WriteString [.tm 4, .tm 5] [a0, a1] H Q = S_Builder_WriteString a0 a1 Q H := by kernel_rfl
theorem tri_Builder_WriteString {a0 a1 : AV} {H : AH} {Q : AV → AH → Prop} (h : S_Builder_WriteString a0 a1 Q H) : Tri Try.prog 74 [a0, a1] H Q :=
  tri_of (Ms := [#[], #[], #[], #[]]) mixed Try.func74 rfl (by kernel_rfl) (by kernel_rfl) rfl (of_decide_eq_true rfl : 2 ≤ 19) (by rw [eq_Builder_WriteString a0 a1 Q H]; exact h : FnA Try.prog 19 (regsF Try.f74) ac_Builder_WriteString [.tm 4, .tm 5] [a0, a1] H Q)

/-! (*strings.Builder).String -/
def ac_Builder_String : AC := (.seq (.reg 0) (.seq (.reg 1) .ret))
def S_Builder_String (a0 : AV) (Q : AV → AH → Prop) (H : AH) : Prop := (
 Rg 12 fun b =>
 Vw fun V =>
 Pu Try.prog .nilck [a0] fun v4 =>
 Pu Try.prog (.addOff 1) [v4] fun v5 =>
 Rd Try.prog V (.ld 1 false) [v5] fun v6 =>
 Pu Try.prog (.sld 1) [v6] fun v7 =>
 Pu Try.prog .nilck [a0] fun v9 =>
 Pu Try.prog (.addOff 1) [v9] fun v10 =>
 Rd Try.prog V (.ld 1 false) [v10] fun v11 =>
 Pu Try.prog .len [v11] fun v12 =>
 Wr Try.prog (b + 10) (.ust 5) [v7, v12] fun v13 _ =>
 Rt Try.prog H.nx v13 Q
 ) H
theorem eq_Builder_String (a0 : AV) (Q : AV → AH → Prop) (H : AH) : FnA Try.prog 14 (regsF Try.f75) ac_Builder_String [.tm 2] [a0] H Q = S_Builder_String a0 Q H := by kernel_rfl
theorem tri_Builder_String {a0 : AV} {H : AH} {Q : AV → AH → Prop} (h : S_Builder_String a0 Q H) : Tri Try.prog 75 [a0] H Q :=
  tri_of (Ms := [#[], #[0, 1, 3, 7, 15, 0, 32, 96, 224, 480, 1023, 2047]]) mixed Try.func75 rfl (by kernel_rfl) (by kernel_rfl) rfl (of_decide_eq_true rfl : 1 ≤ 14) (by rw [eq_Builder_String a0 Q H]; exact h : FnA Try.prog 14 (regsF Try.f75) ac_Builder_String [.tm 2] [a0] H Q)
end Go.Proofs.Ytpmnlikgldacaaa
