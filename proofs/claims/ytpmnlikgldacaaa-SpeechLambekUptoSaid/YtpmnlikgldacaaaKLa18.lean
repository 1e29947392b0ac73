/- Texts that the proof rests on, part 18: what each holds stands at its head. -/
import Derived.Test.YtpmnlikgldacaaaKLa17

/- Abstract walks of functions, written by a program (wip/aw/aw.py): each equation is checked by the kernel. -/
namespace Go.Proofs.Ytpmnlikgldacaaa
open Go.RowKit

/-! wordhoard/speech.Says -/
def ac_speech_Says : AC := (.seq (.reg 0) (.seq (.seq (.reg 1) (.cond (.tmp 25) (.seq (.reg 2) .ret) .skip)) (.seq (.reg 3) (.seq (.seq (.reg 4) (.block 0 (.loop [33] [(4, 7), (9, 11), (34, 43)] (.seq (.reg 5) (.seq (.cond (.tmp 34) .skip (.exit 0)) (.seq (.block 1 (.seq (.reg 6) (.seq (.reg 7) (.seq (.reg 8) (.cond (.tmp 40) (.seq (.reg 9) .ret) .skip))))) (.reg 10))))))) (.seq (.seq (.reg 11) (.cond (.tmp 45) (.seq (.reg 12) .ret) .skip)) (.seq (.reg 13) (.seq (.reg 14) (.seq (.reg 15) (.seq (.reg 16) (.seq (.reg 17) .ret))))))))))
def S_speech_Says_L1 (Q : AV → AH → Prop) (H : AH) (v2 : AV) (v3 : AV) (v30 : AV) (v32 : AV) (vs : List AV) (k_27 : List AV → AH → Prop) : AH → Prop :=
  Pu Try.prog (.bin .lss 3) [(vs.getD 0 .any), v32] fun v34 =>
  CdA v34
    (
    Rg 4 fun b_30 =>
    Pu Try.prog (.idx 3) [v30, (vs.getD 0 .any)] fun v35 =>
    RdS Try.prog (.ld 3 true) [v35] fun v36 =>
    Al (b_30 + 2) (.nw 24 [.p (.int .i64 0), .p (.int .i64 0), .p (.slice none 0 0)]) [] fun v9 =>
    WrS Try.prog (b_30 + 3) (.st 3) [v9, v36] fun _ =>
    RdS Try.prog (.ld 3 true) [v9] fun v37 =>
    Ca Try.prog (.fn (.func 21) [] []) [v37] fun v38 =>
    Pu Try.prog (.bin .neq 28) [v38, (.p (.int .i64 0))] fun v40 =>
    CdA v40
      (
      Rt Try.prog H.nx (.tup [(.p (.slice none 0 0)), (.p (.bool false)), v38]) Q
      ) (
      Pu Try.prog (.bin .add 3) [(vs.getD 0 .any), (.p (.int .i64 1))] fun v42 =>
      k_27 [v42]
      )
    ) (
    Ca Try.prog (.fn (.func 46) [] []) [v30] fun v44 =>
    Pu Try.prog (.bin .gtr 3) [v44, (.p (.int .i64 10))] fun v45 =>
    CdA v45
      (
      Rt Try.prog H.nx (.tup [(.p (.slice none 0 0)), (.p (.bool false)), (.p (.int .i64 2))]) Q
      ) (
      Rg 5 fun b_41 =>
      Al (b_41 + 0) (.mm 9) [] fun v46 =>
      Pu Try.prog (.bld [.p (.map none)] [(0, 1)]) [v46] fun v47 =>
      Al (b_41 + 2) (.bx 63) [v47] fun v48 =>
      Al (b_41 + 3) (.nw 60 [.p (.pointer none)]) [] fun v11 =>
      WrS Try.prog (b_41 + 4) (.st 1) [v11, v48] fun _ =>
      Rg 1 fun b_47 =>
      Al (b_47 + 0) (.nw 75 [.p (.nilFunc)]) [] fun v12 =>
      Rg 2 fun b_49 =>
      Pu Try.prog (.mkfn (.func 47) 0) [v2, v11, v3, v12] fun v49 =>
      WrS Try.prog (b_49 + 1) (.st 1) [v12, v49] fun _ =>
      RdS Try.prog (.ld 1 false) [v12] fun v50 =>
      Ca Try.prog v50 [(.p (.slice none 0 0)), (.p (.slice none 0 0))] fun v51 =>
      Pu Try.prog (.bin .neq 37) [v51, (.p (.slice none 0 0))] fun v54 =>
      Rt Try.prog H.nx (.tup [v51, v54, (.p (.int .i64 0))]) Q
      )
    )
def S_speech_Says (a0 a1 : AV) (Q : AV → AH → Prop) (H : AH) : Prop := (
    Rg 5 fun b =>
    Al (b + 0) (.bx 36) [a0] fun v2 =>
    Al (b + 1) (.bx 24) [a1] fun v3 =>
    RdS Try.prog (.ld 1 false) [v2] fun v14 =>
    Pu Try.prog .len [v14] fun v15 =>
    Pu Try.prog (.bin .lss 3) [v15, (.p (.int .i64 1))] fun v16 =>
    Gd v16 false (fun k => RdS Try.prog (.ld 1 false) [v2] k) fun v18 =>
    Gd v16 false (fun k_10 => Pu Try.prog .len [v18] k_10) fun v19 =>
    Gd v16 false (fun k_12 => Pu Try.prog (.bin .gtr 3) [v19, (.p (.int .i64 6))] k_12) fun v20 =>
    Pu Try.prog .pick [v16, (.p (.bool true)), v20] fun v21 =>
    Gd v21 false (fun k_15 => RdS Try.prog (.ld 1 false) [v2] k_15) fun v23 =>
    Gd v21 false (fun k_17 => Ca Try.prog (.fn (.func 43) [] []) [v23, (.fn (.func 44) [] [])] k_17) fun v24 =>
    Pu Try.prog .pick [v21, (.p (.bool true)), v24] fun v25 =>
    CdA v25
      (
      Rt Try.prog H.nx (.tup [(.p (.slice none 0 0)), (.p (.bool false)), (.p (.int .i64 7))]) Q
      ) (
      Rg 6 fun b_19 =>
      Vw fun V =>
      Rd Try.prog V (.ld 1 false) [v2] fun v26 =>
      CaR Try.prog V (b_19 + 1) [] (.fn (.func 45) [] []) [v26] fun v27 =>
      Rd Try.prog V (.ld 3 true) [v3] fun v28 =>
      Al (b_19 + 3) (.bs 24 3 1 [.p (.int .i64 0), .p (.int .i64 0), .p (.slice none 0 0)] [(0, 3)]) [v28] fun v29 =>
      WrF V (some (b_19 + 1)) (some (b_19 + 3)) (b_19 + 4) (.app 24 3 40) [v27, v29] fun v30 =>
      Pu Try.prog .len [v30] fun v32 =>
      LoopA Try.prog 1 (S_speech_Says_L1 Q H v2 v3 v30 v32) [(.p (.int .i64 0))]
      )
    ) H
theorem eq_speech_Says (a0 a1 : AV) (Q : AV → AH → Prop) (H : AH) : FnA Try.prog 55 (regsF Try.f15) ac_speech_Says [.tm 4, .tm 5, .tm 6] [a0, a1] H Q = S_speech_Says a0 a1 Q H := by kernel_rfl
theorem tri_speech_Says {a0 a1 : AV} {H : AH} {Q : AV → AH → Prop} (h : S_speech_Says a0 a1 Q H) : Tri Try.prog 15 [a0, a1] H Q :=
  tri_of (Ms := [#[], #[], #[], #[0, 1, 0, 4, 15, 31], #[], #[], #[], #[], #[], #[], #[], #[], #[], #[], #[], #[], #[], #[]]) mixed Try.func15 rfl (by kernel_rfl) (by kernel_rfl) rfl (of_decide_eq_true rfl : 2 ≤ 55) (by rw [eq_speech_Says a0 a1 Q H]; exact h : FnA Try.prog 55 (regsF Try.f15) ac_speech_Says [.tm 4, .tm 5, .tm 6] [a0, a1] H Q)

/-! wordhoard/speech.Right -/
def ac_speech_Right : AC := (.seq (.reg 0) (.seq (.seq (.reg 1) (.seq (.reg 2) (.cond (.tmp 17) (.seq (.reg 3) .ret) .skip))) (.seq (.seq (.reg 4) (.seq (.reg 5) (.cond (.tmp 21) (.seq (.reg 6) .ret) .skip))) (.seq (.reg 7) .ret))))
def S_speech_Right (a0 : AV) (Q : AV → AH → Prop) (H : AH) : Prop := (
    Rg 3 fun b =>
    Al (b + 0) (.bx 27) [a0] fun v1 =>
    RdS Try.prog (.ld 8 true) [v1] fun v8 =>
    Ca Try.prog (.fn (.func 57) [] []) [v8, (.p (.int .i64 200))] fun v9 =>
    Pu Try.prog (.ext 0) [v9] fun v10 =>
    Pu Try.prog (.ext 1) [v9] fun v11 =>
    Pu Try.prog (.bin .gtr 3) [v10, (.p (.int .i64 200))] fun v13 =>
    Gd v13 false (fun k => k v11) fun v15 =>
    Gd v13 false (fun k_11 => Pu Try.prog (.bin .gtr 3) [v15, (.p (.int .i64 20))] k_11) fun v16 =>
    Pu Try.prog .pick [v13, (.p (.bool true)), v16] fun v17 =>
    CdA v17
      (
      Rt Try.prog H.nx (.tup [(.p (.bool false)), (.p (.int .i64 7))]) Q
      ) (
      RdS Try.prog (.ld 8 true) [v1] fun v18 =>
      Ca Try.prog (.fn (.func 58) [] []) [v18] fun v19 =>
      Pu Try.prog (.bin .neq 28) [v19, (.p (.int .i64 0))] fun v21 =>
      CdA v21
        (
        Rt Try.prog H.nx (.tup [(.p (.bool false)), v19]) Q
        ) (
        RdS Try.prog (.ld 8 true) [v1] fun v23 =>
        Ca Try.prog (.fn (.func 59) [] []) [v23] fun v24 =>
        Rt Try.prog H.nx (.tup [v24, (.p (.int .i64 0))]) Q
        )
      )
    ) H
theorem eq_speech_Right (a0 : AV) (Q : AV → AH → Prop) (H : AH) : FnA Try.prog 25 (regsF Try.f26) ac_speech_Right [.tm 2, .tm 3] [a0] H Q = S_speech_Right a0 Q H := by kernel_rfl
theorem tri_speech_Right {a0 : AV} {H : AH} {Q : AV → AH → Prop} (h : S_speech_Right a0 Q H) : Tri Try.prog 26 [a0] H Q :=
  tri_of (Ms := [#[], #[], #[], #[], #[], #[], #[], #[]]) mixed Try.func26 rfl (by kernel_rfl) (by kernel_rfl) rfl (of_decide_eq_true rfl : 1 ≤ 25) (by rw [eq_speech_Right a0 Q H]; exact h : FnA Try.prog 25 (regsF Try.f26) ac_speech_Right [.tm 2, .tm 3] [a0] H Q)

/-! wordhoard/speech.Cutless -/
def ac_speech_Cutless : AC := (.seq (.reg 0) (.seq (.reg 1) (.seq (.seq (.reg 2) (.cond (.tmp 14) (.seq (.reg 3) .ret) .skip)) (.seq (.seq (.reg 4) (.cond (.tmp 18) (.seq (.reg 5) .ret) .skip)) (.seq (.reg 6) (.seq (.reg 7) .ret))))))
def S_speech_Cutless_C1 (Q : AV → AH → Prop) (H : AH) (v1 : AV) (v2 : AV) (v11 : AV) : AH → Prop :=
  Pu Try.prog (.un .not) [v11] fun v18 =>
  CdA v18
    (
    Rg 3 fun b_14 =>
    Pu Try.prog (.bld [.p (.int .i64 0), .p (.slice none 0 0), .p (.int .i64 0), .p (.int .i64 0), .p (.slice none 0 0), .p (.int .i64 0), .p (.int .i64 0), .p (.slice none 0 0)] []) [] fun v19 =>
    WrS Try.prog (b_14 + 1) (.st 8) [v2, v19] fun _ =>
    RdS Try.prog (.ld 8 true) [v2] fun r2_17 =>
    Rt Try.prog H.nx (.tup [r2_17, (.p (.int .i64 1))]) Q
    ) (
    Rg 13 fun b_18 =>
    Pu Try.prog (.addOff 1) [v1] fun v21 =>
    RdS Try.prog (.ld 1 false) [v21] fun v22 =>
    Pu Try.prog (.addOff 2) [v1] fun v23 =>
    RdS Try.prog (.ld 3 true) [v23] fun v24 =>
    Ca Try.prog (.fn (.func 9) [] []) [v22, v24] fun v25 =>
    Pu Try.prog (.ext 0) [v25] fun v26 =>
    Pu Try.prog (.ext 1) [v25] fun _ =>
    Pu Try.prog (.ext 2) [v25] fun v28 =>
    Al (b_18 + 9) (.nw 27 [.p (.int .i64 0), .p (.slice none 0 0), .p (.int .i64 0), .p (.int .i64 0), .p (.slice none 0 0), .p (.int .i64 0), .p (.int .i64 0), .p (.slice none 0 0)]) [] fun v6 =>
    WrS Try.prog (b_18 + 10) (.st 8) [v6, v26] fun _ =>
    Rg 4 fun b_29 =>
    RdS Try.prog (.ld 8 true) [v6] fun v29 =>
    WrS Try.prog (b_29 + 2) (.st 8) [v2, v29] fun _ =>
    RdS Try.prog (.ld 8 true) [v2] fun r2_32 =>
    Rt Try.prog H.nx (.tup [r2_32, v28]) Q
    )
def S_speech_Cutless (a0 : AV) (Q : AV → AH → Prop) (H : AH) : Prop := (
    Rg 3 fun b =>
    Al (b + 0) (.bx 27) [a0] fun v1 =>
    Al (b + 1) (.nw 27 [.p (.int .i64 0), .p (.slice none 0 0), .p (.int .i64 0), .p (.int .i64 0), .p (.slice none 0 0), .p (.int .i64 0), .p (.int .i64 0), .p (.slice none 0 0)]) [] fun v2 =>
    RdS Try.prog (.ld 8 true) [v1] fun v9 =>
    Ca Try.prog (.fn (.func 26) [] []) [v9] fun v10 =>
    Pu Try.prog (.ext 0) [v10] fun v11 =>
    Pu Try.prog (.ext 1) [v10] fun v12 =>
    Pu Try.prog (.bin .neq 28) [v12, (.p (.int .i64 0))] fun v14 =>
    CdA v14
      (
      Rg 4 fun b_9 =>
      Pu Try.prog (.bld [.p (.int .i64 0), .p (.slice none 0 0), .p (.int .i64 0), .p (.int .i64 0), .p (.slice none 0 0), .p (.int .i64 0), .p (.int .i64 0), .p (.slice none 0 0)] []) [] fun v15 =>
      WrS Try.prog (b_9 + 2) (.st 8) [v2, v15] fun _ =>
      RdS Try.prog (.ld 8 true) [v2] fun r2 =>
      Rt Try.prog H.nx (.tup [r2, v12]) Q
      ) (S_speech_Cutless_C1 Q H v1 v2 v11)
    ) H
theorem eq_speech_Cutless (a0 : AV) (Q : AV → AH → Prop) (H : AH) : FnA Try.prog 31 (regsF Try.f29) ac_speech_Cutless [.ce 2 27, .tm 3] [a0] H Q = S_speech_Cutless a0 Q H := by kernel_rfl
theorem tri_speech_Cutless {a0 : AV} {H : AH} {Q : AV → AH → Prop} (h : S_speech_Cutless a0 Q H) : Tri Try.prog 29 [a0] H Q :=
  tri_of (Ms := [#[], #[], #[], #[], #[], #[], #[], #[]]) mixed Try.func29 rfl (by kernel_rfl) (by kernel_rfl) rfl (of_decide_eq_true rfl : 1 ≤ 31) (by rw [eq_speech_Cutless a0 Q H]; exact h : FnA Try.prog 31 (regsF Try.f29) ac_speech_Cutless [.ce 2 27, .tm 3] [a0] H Q)

/-! wordhoard/speech.Says$1 -/
def ac_speech_Says_fn1 : AC := (.seq (.reg 0) (.seq (.reg 1) .ret))
def S_speech_Says_fn1 (a0 : AV) (Q : AV → AH → Prop) (H : AH) : Prop := (
    Pu Try.prog .len [a0] fun v4 =>
    Pu Try.prog (.bin .lss 3) [v4, (.p (.int .i64 1))] fun v5 =>
    Gd v5 false (fun k => k a0) fun v7 =>
    Gd v5 false (fun k_6 => Pu Try.prog .len [v7] k_6) fun v8 =>
    Gd v5 false (fun k_8 => Pu Try.prog (.bin .gtr 3) [v8, (.p (.int .i64 3))] k_8) fun v9 =>
    Pu Try.prog .pick [v5, (.p (.bool true)), v9] fun v10 =>
    Rt Try.prog H.nx v10 Q
    ) H
theorem eq_speech_Says_fn1 (a0 : AV) (Q : AV → AH → Prop) (H : AH) : FnA Try.prog 11 (regsF Try.f44) ac_speech_Says_fn1 [.tm 2] [a0] H Q = S_speech_Says_fn1 a0 Q H := by kernel_rfl
theorem tri_speech_Says_fn1 {a0 : AV} {H : AH} {Q : AV → AH → Prop} (h : S_speech_Says_fn1 a0 Q H) : Tri Try.prog 44 [a0] H Q :=
  tri_of (Ms := [#[], #[]]) mixed Try.func44 rfl (by kernel_rfl) (by kernel_rfl) rfl (of_decide_eq_true rfl : 1 ≤ 11) (by rw [eq_speech_Says_fn1 a0 Q H]; exact h : FnA Try.prog 11 (regsF Try.f44) ac_speech_Says_fn1 [.tm 2] [a0] H Q)

/-! wordhoard/speech.Says$2 -/
def ac_speech_Says_fn2 : AC := (.seq (.reg 0) (.seq (.seq (.reg 1) (.cond (.tmp 18) (.seq (.seq (.reg 2) (.seq (.reg 3) (.cond (.tmp 26) (.seq (.reg 4) .ret) .skip))) (.seq (.reg 5) .ret)) .skip)) (.seq (.seq (.reg 6) (.block 0 (.loop [34] [(8, 9), (11, 14), (35, 55)] (.seq (.reg 7) (.seq (.cond (.tmp 35) .skip (.exit 0)) (.seq (.block 1 (.seq (.reg 8) (.seq (.reg 9) (.seq (.reg 10) (.cond (.tmp 52) (.seq (.reg 11) .ret) .skip))))) (.reg 12))))))) (.seq (.reg 13) .ret))))
def S_speech_Says_fn2_C1 (a0 : AV) (a1 : AV) (a5 : AV) (Q : AV → AH → Prop) (H : AH) (v32 : AV) (k : List AV → AH → Prop) (vs : List AV) : AH → Prop :=
  Rg 6 fun b_21 =>
  Pu Try.prog (.idx 3) [v32, (vs.getD 0 .any)] fun v37 =>
  RdS Try.prog (.ld 3 true) [v37] fun v38 =>
  Al (b_21 + 3) (.nw 24 [.p (.int .i64 0), .p (.int .i64 0), .p (.slice none 0 0)]) [] fun v12 =>
  WrS Try.prog (b_21 + 5) (.st 3) [v12, v38] fun _ =>
  Rg 13 fun b_26 =>
  Vw fun V =>
  Rd Try.prog V (.ld 1 false) [a5] fun v39 =>
  CaR Try.prog V (b_26 + 2) [] (.fn (.func 48) [] []) [a0] fun v41 =>
  Al (b_26 + 4) (.bs 3 1 1 [.p (.int .i64 0)] [(0, 1)]) [(vs.getD 0 .any)] fun v43 =>
  WrF V (some (b_26 + 2)) (some (b_26 + 4)) (b_26 + 5) (.app 3 1 8) [v41, v43] fun v44 =>
  CaR Try.prog V (b_26 + 7) [] (.fn (.func 49) [] []) [a1] fun v46 =>
  Rd Try.prog V (.ld 3 true) [v12] fun v47 =>
  Al (b_26 + 9) (.bs 24 3 1 [.p (.int .i64 0), .p (.int .i64 0), .p (.slice none 0 0)] [(0, 3)]) [v47] fun v48 =>
  WrF V (some (b_26 + 7)) (some (b_26 + 9)) (b_26 + 10) (.app 24 3 40) [v46, v48] fun v49 =>
  Ca Try.prog v39 [v44, v49] fun v50 =>
  Vw fun _ =>
  Pu Try.prog (.bin .neq 37) [v50, (.p (.slice none 0 0))] fun v52 =>
  CdA v52
    (
    Rt Try.prog H.nx v50 Q
    ) (
    Pu Try.prog (.bin .add 3) [(vs.getD 0 .any), (.p (.int .i64 1))] fun v54 =>
    k [v54]
    )
def S_speech_Says_fn2_L2 (a0 : AV) (a1 : AV) (a5 : AV) (Q : AV → AH → Prop) (H : AH) (v32 : AV) (v33 : AV) (vs : List AV) (k : List AV → AH → Prop) : AH → Prop :=
  Pu Try.prog (.bin .lss 3) [(vs.getD 0 .any), v33] fun v35 =>
  CdA v35
    (S_speech_Says_fn2_C1 a0 a1 a5 Q H v32 k vs) (
    Rt Try.prog H.nx (.p (.slice none 0 0)) Q
    )
def S_speech_Says_fn2 (a0 a1 a2 a3 a4 a5 : AV) (Q : AV → AH → Prop) (H : AH) : Prop := (
    Pu Try.prog .len [a1] fun v15 =>
    RdS Try.prog (.ld 1 false) [a2] fun v16 =>
    Pu Try.prog .len [v16] fun v17 =>
    Pu Try.prog (.bin .eql 3) [v15, v17] fun v18 =>
    CdA v18
      (
      Rg 10 fun b =>
      RdS Try.prog (.ld 1 false) [a3] fun v20 =>
      RdS Try.prog (.ld 3 true) [a4] fun v22 =>
      Ca Try.prog (.fn (.func 34) [] []) [v20, a1, v22] fun v23 =>
      Pu Try.prog (.ext 0) [v23] fun v24 =>
      Pu Try.prog (.ext 1) [v23] fun v25 =>
      Al (b + 7) (.nw 27 [.p (.int .i64 0), .p (.slice none 0 0), .p (.int .i64 0), .p (.int .i64 0), .p (.slice none 0 0), .p (.int .i64 0), .p (.int .i64 0), .p (.slice none 0 0)]) [] fun v9 =>
      WrS Try.prog (b + 8) (.st 8) [v9, v24] fun _ =>
      CdA v25
        (
        Rt Try.prog H.nx a0 Q
        ) (
        Rt Try.prog H.nx (.p (.slice none 0 0)) Q
        )
      ) (
      RdS Try.prog (.ld 1 false) [a2] fun v28 =>
      Pu Try.prog .len [a1] fun v30 =>
      Pu Try.prog (.idx 1) [v28, v30] fun v31 =>
      RdS Try.prog (.ld 1 false) [v31] fun v32 =>
      Pu Try.prog .len [v32] fun v33 =>
      LoopA Try.prog 1 (S_speech_Says_fn2_L2 a0 a1 a5 Q H v32 v33) [(.p (.int .i64 0))]
      )
    ) H
theorem eq_speech_Says_fn2 (a0 a1 a2 a3 a4 a5 : AV) (Q : AV → AH → Prop) (H : AH) : FnA Try.prog 55 (regsF Try.f47) ac_speech_Says_fn2 [.tm 8] [a0, a1, a2, a3, a4, a5] H Q = S_speech_Says_fn2 a0 a1 a2 a3 a4 a5 Q H := by kernel_rfl
theorem tri_speech_Says_fn2 {a0 a1 a2 a3 a4 a5 : AV} {H : AH} {Q : AV → AH → Prop} (h : S_speech_Says_fn2 a0 a1 a2 a3 a4 a5 Q H) : Tri Try.prog 47 [a0, a1, a2, a3, a4, a5] H Q :=
  tri_of (Ms := [#[], #[], #[], #[], #[], #[], #[], #[], #[], #[0, 0, 2, 0, 8, 30, 0, 126, 0, 256, 1022, 2047, 4095], #[], #[], #[], #[]]) mixed Try.func47 rfl (by kernel_rfl) (by kernel_rfl) rfl (of_decide_eq_true rfl : 6 ≤ 55) (by rw [eq_speech_Says_fn2 a0 a1 a2 a3 a4 a5 Q H]; exact h : FnA Try.prog 55 (regsF Try.f47) ac_speech_Says_fn2 [.tm 8] [a0, a1, a2, a3, a4, a5] H Q)

/-! wordhoard/speech.size -/
def ac_speech_size : AC := (.seq (.reg 0) (.seq (.reg 1) (.seq (.seq (.reg 2) (.block 0 (.loop [6, 7, 18] [(9, 12), (19, 40)] (.seq (.reg 3) (.seq (.cond (.tmp 19) .skip (.exit 0)) (.seq (.block 1 (.seq (.reg 4) (.seq (.seq (.reg 5) (.cond (.tmp 24) (.exit 0) .skip)) (.seq (.reg 6) (.reg 7))))) (.reg 8))))))) (.seq (.reg 9) .ret))))
def S_speech_size_L1 (a1 : AV) (Q : AV → AH → Prop) (H : AH) (v16 : AV) (v17 : AV) (vs : List AV) (k : List AV → AH → Prop) : AH → Prop :=
  Pu Try.prog (.bin .lss 3) [(vs.getD 2 .any), v17] fun v19 =>
  CdA v19
    (
    Rg 4 fun b_13 =>
    Pu Try.prog (.idx 8) [v16, (vs.getD 2 .any)] fun v20 =>
    RdS Try.prog (.ld 8 true) [v20] fun v21 =>
    Al (b_13 + 2) (.nw 27 [.p (.int .i64 0), .p (.slice none 0 0), .p (.int .i64 0), .p (.int .i64 0), .p (.slice none 0 0), .p (.int .i64 0), .p (.int .i64 0), .p (.slice none 0 0)]) [] fun v9 =>
    WrS Try.prog (b_13 + 3) (.st 8) [v9, v21] fun _ =>
    Pu Try.prog (.bin .gtr 3) [(vs.getD 0 .any), a1] fun v24 =>
    CdA v24
      (
      Rt Try.prog H.nx (.tup [(vs.getD 0 .any), (vs.getD 1 .any)]) Q
      ) (
      RdS Try.prog (.ld 8 true) [v9] fun v26 =>
      Pu Try.prog (.bin .sub 3) [a1, (vs.getD 0 .any)] fun v29 =>
      Ca Try.prog (.fn (.func 57) [] []) [v26, v29] fun v30 =>
      Pu Try.prog (.ext 0) [v30] fun v31 =>
      Pu Try.prog (.ext 1) [v30] fun v32 =>
      Pu Try.prog (.bin .add 3) [(vs.getD 0 .any), v31] fun v35 =>
      Pu Try.prog .mx [(vs.getD 1 .any), v32] fun v38 =>
      Pu Try.prog (.bin .add 3) [(vs.getD 2 .any), (.p (.int .i64 1))] fun v39 =>
      k [v35, v38, v39]
      )
    ) (
    Rt Try.prog H.nx (.tup [(vs.getD 0 .any), (vs.getD 1 .any)]) Q
    )
def S_speech_size (a0 a1 : AV) (Q : AV → AH → Prop) (H : AH) : Prop := (
    Rg 3 fun b =>
    Al (b + 0) (.bx 27) [a0] fun v2 =>
    Vw fun V =>
    Pu Try.prog (.addOff 1) [v2] fun v12 =>
    Rd Try.prog V (.ld 1 false) [v12] fun v13 =>
    Pu Try.prog .len [v13] fun v14 =>
    Pu Try.prog (.addOff 7) [v2] fun v15 =>
    RdS Try.prog (.ld 1 false) [v15] fun v16 =>
    Pu Try.prog .len [v16] fun v17 =>
    LoopA Try.prog 3 (S_speech_size_L1 a1 Q H v16 v17) [(.p (.int .i64 1)), v14, (.p (.int .i64 0))]
    ) H
theorem eq_speech_size (a0 a1 : AV) (Q : AV → AH → Prop) (H : AH) : FnA Try.prog 42 (regsF Try.f57) ac_speech_size [.tm 4, .tm 5] [a0, a1] H Q = S_speech_size a0 a1 Q H := by kernel_rfl
theorem tri_speech_size {a0 a1 : AV} {H : AH} {Q : AV → AH → Prop} (h : S_speech_size a0 a1 Q H) : Tri Try.prog 57 [a0, a1] H Q :=
  tri_of (Ms := [#[], #[0, 1, 3, 0, 15], #[], #[], #[], #[], #[], #[], #[], #[]]) mixed Try.func57 rfl (by kernel_rfl) (by kernel_rfl) rfl (of_decide_eq_true rfl : 2 ≤ 42) (by rw [eq_speech_size a0 a1 Q H]; exact h : FnA Try.prog 42 (regsF Try.f57) ac_speech_size [.tm 4, .tm 5] [a0, a1] H Q)

/-! wordhoard/speech.parts -/
def ac_speech_parts : AC := (.seq (.reg 0) (.seq (.seq (.reg 1) (.block 0 (.loop [17] [(2, 3), (4, 6), (18, 27)] (.seq (.reg 2) (.seq (.cond (.tmp 18) .skip (.exit 0)) (.seq (.block 1 (.seq (.reg 3) (.seq (.reg 4) (.seq (.reg 5) (.cond (.tmp 24) (.seq (.reg 6) .ret) .skip))))) (.reg 7))))))) (.seq (.seq (.reg 8) (.block 2 (.loop [30] [(2, 3), (7, 9), (31, 40)] (.seq (.reg 9) (.seq (.cond (.tmp 31) .skip (.exit 2)) (.seq (.block 3 (.seq (.reg 10) (.seq (.reg 11) (.seq (.reg 12) (.cond (.tmp 37) (.seq (.reg 13) .ret) .skip))))) (.reg 14))))))) (.seq (.reg 15) .ret))))
def S_speech_parts_L1 (Q : AV → AH → Prop) (H : AH) (v28 : AV) (v29 : AV) (vs_29 : List AV) (k_28 : List AV → AH → Prop) : AH → Prop :=
  Pu Try.prog (.bin .lss 3) [(vs_29.getD 0 .any), v29] fun v31 =>
  CdA v31
    (
    Rg 4 fun b_31 =>
    Pu Try.prog (.idx 8) [v28, (vs_29.getD 0 .any)] fun v32 =>
    RdS Try.prog (.ld 8 true) [v32] fun v33 =>
    Al (b_31 + 2) (.nw 27 [.p (.int .i64 0), .p (.slice none 0 0), .p (.int .i64 0), .p (.int .i64 0), .p (.slice none 0 0), .p (.int .i64 0), .p (.int .i64 0), .p (.slice none 0 0)]) [] fun v7 =>
    WrS Try.prog (b_31 + 3) (.st 8) [v7, v33] fun _ =>
    RdS Try.prog (.ld 8 true) [v7] fun v34 =>
    Ca Try.prog (.fn (.func 58) [] []) [v34] fun v35 =>
    Pu Try.prog (.bin .neq 28) [v35, (.p (.int .i64 0))] fun v37 =>
    CdA v37
      (
      Rt Try.prog H.nx v35 Q
      ) (
      Pu Try.prog (.bin .add 3) [(vs_29.getD 0 .any), (.p (.int .i64 1))] fun v39 =>
      k_28 [v39]
      )
    ) (
    Rt Try.prog H.nx (.p (.int .i64 0)) Q
    )
def S_speech_parts_L2 (Q : AV → AH → Prop) (H : AH) (v1 : AV) (v15 : AV) (v16 : AV) (vs : List AV) (k : List AV → AH → Prop) : AH → Prop :=
  Pu Try.prog (.bin .lss 3) [(vs.getD 0 .any), v16] fun v18 =>
  CdA v18
    (
    Rg 4 fun b_16 =>
    Pu Try.prog (.idx 3) [v15, (vs.getD 0 .any)] fun v19 =>
    RdS Try.prog (.ld 3 true) [v19] fun v20 =>
    Al (b_16 + 2) (.nw 24 [.p (.int .i64 0), .p (.int .i64 0), .p (.slice none 0 0)]) [] fun v4 =>
    WrS Try.prog (b_16 + 3) (.st 3) [v4, v20] fun _ =>
    RdS Try.prog (.ld 3 true) [v4] fun v21 =>
    Ca Try.prog (.fn (.func 21) [] []) [v21] fun v22 =>
    Pu Try.prog (.bin .neq 28) [v22, (.p (.int .i64 0))] fun v24 =>
    CdA v24
      (
      Rt Try.prog H.nx v22 Q
      ) (
      Pu Try.prog (.bin .add 3) [(vs.getD 0 .any), (.p (.int .i64 1))] fun v26 =>
      k [v26]
      )
    ) (
    Pu Try.prog (.addOff 7) [v1] fun v27 =>
    RdS Try.prog (.ld 1 false) [v27] fun v28 =>
    Pu Try.prog .len [v28] fun v29 =>
    LoopA Try.prog 1 (S_speech_parts_L1 Q H v28 v29) [(.p (.int .i64 0))]
    )
def S_speech_parts (a0 : AV) (Q : AV → AH → Prop) (H : AH) : Prop := (
    Rg 2 fun b =>
    Al (b + 0) (.bx 27) [a0] fun v1 =>
    Rg 9 fun b_3 =>
    Vw fun V =>
    Pu Try.prog (.addOff 1) [v1] fun v9 =>
    Rd Try.prog V (.ld 1 false) [v9] fun v10 =>
    CaR Try.prog V (b_3 + 2) [] (.fn (.func 49) [] []) [v10] fun v11 =>
    Pu Try.prog (.addOff 2) [v1] fun v12 =>
    Rd Try.prog V (.ld 3 true) [v12] fun v13 =>
    Al (b_3 + 5) (.bs 24 3 1 [.p (.int .i64 0), .p (.int .i64 0), .p (.slice none 0 0)] [(0, 3)]) [v13] fun v14 =>
    WrF V (some (b_3 + 2)) (some (b_3 + 5)) (b_3 + 6) (.app 24 3 40) [v11, v14] fun v15 =>
    Pu Try.prog .len [v15] fun v16 =>
    LoopA Try.prog 1 (S_speech_parts_L2 Q H v1 v15 v16) [(.p (.int .i64 0))]
    ) H
theorem eq_speech_parts (a0 : AV) (Q : AV → AH → Prop) (H : AH) : FnA Try.prog 40 (regsF Try.f58) ac_speech_parts [.tm 2] [a0] H Q = S_speech_parts a0 Q H := by kernel_rfl
theorem tri_speech_parts {a0 : AV} {H : AH} {Q : AV → AH → Prop} (h : S_speech_parts a0 Q H) : Tri Try.prog 58 [a0] H Q :=
  tri_of (Ms := [#[], #[0, 1, 3, 0, 8, 24, 63, 127, 0], #[], #[], #[], #[], #[], #[], #[], #[], #[], #[], #[], #[], #[], #[]]) mixed Try.func58 rfl (by kernel_rfl) (by kernel_rfl) rfl (of_decide_eq_true rfl : 1 ≤ 40) (by rw [eq_speech_parts a0 Q H]; exact h : FnA Try.prog 40 (regsF Try.f58) ac_speech_parts [.tm 2] [a0] H Q)

/-! wordhoard/speech.right -/
def ac_speech_right : AC := (.seq (.reg 0) (.seq (.seq (.reg 1) (.cond (.tmp 8) (.seq (.reg 2) .ret) .skip)) (.seq (.seq (.reg 3) (.block 0 (.loop [12] [(2, 3), (4, 5), (13, 20)] (.seq (.reg 4) (.seq (.cond (.tmp 13) .skip (.exit 0)) (.seq (.block 1 (.seq (.reg 5) (.seq (.reg 6) (.cond (.tmp 18) (.seq (.reg 7) .ret) .skip)))) (.reg 8))))))) (.seq (.reg 9) .ret))))
def S_speech_right_L1 (Q : AV → AH → Prop) (H : AH) (v1 : AV) (v10 : AV) (v11 : AV) (vs : List AV) (k : List AV → AH → Prop) : AH → Prop :=
  Pu Try.prog (.bin .lss 3) [(vs.getD 0 .any), v11] fun v13 =>
  CdA v13
    (
    Rg 4 fun b_13 =>
    Pu Try.prog (.idx 8) [v10, (vs.getD 0 .any)] fun v14 =>
    RdS Try.prog (.ld 8 true) [v14] fun v15 =>
    Al (b_13 + 2) (.nw 27 [.p (.int .i64 0), .p (.slice none 0 0), .p (.int .i64 0), .p (.int .i64 0), .p (.slice none 0 0), .p (.int .i64 0), .p (.int .i64 0), .p (.slice none 0 0)]) [] fun v4 =>
    WrS Try.prog (b_13 + 3) (.st 8) [v4, v15] fun _ =>
    RdS Try.prog (.ld 8 true) [v4] fun v16 =>
    Ca Try.prog (.fn (.func 59) [] []) [v16] fun v17 =>
    Pu Try.prog (.un .not) [v17] fun v18 =>
    CdA v18
      (
      Rt Try.prog H.nx (.p (.bool false)) Q
      ) (
      Pu Try.prog (.bin .add 3) [(vs.getD 0 .any), (.p (.int .i64 1))] fun v19 =>
      k [v19]
      )
    ) (
    RdS Try.prog (.ld 8 true) [v1] fun v20 =>
    Ca Try.prog (.fn (.func 72) [] []) [v20] fun v21 =>
    Rt Try.prog H.nx v21 Q
    )
def S_speech_right (a0 : AV) (Q : AV → AH → Prop) (H : AH) : Prop := (
    Rg 2 fun b =>
    Al (b + 0) (.bx 27) [a0] fun v1 =>
    Pu Try.prog (.addOff 1) [v1] fun v5 =>
    RdS Try.prog (.ld 1 false) [v5] fun v6 =>
    Pu Try.prog .len [v6] fun v7 =>
    Pu Try.prog (.bin .eql 3) [v7, (.p (.int .i64 0))] fun v8 =>
    CdA v8
      (
      Rt Try.prog H.nx (.p (.bool false)) Q
      ) (
      Pu Try.prog (.addOff 7) [v1] fun v9 =>
      RdS Try.prog (.ld 1 false) [v9] fun v10 =>
      Pu Try.prog .len [v10] fun v11 =>
      LoopA Try.prog 1 (S_speech_right_L1 Q H v1 v10 v11) [(.p (.int .i64 0))]
      )
    ) H
theorem eq_speech_right (a0 : AV) (Q : AV → AH → Prop) (H : AH) : FnA Try.prog 22 (regsF Try.f59) ac_speech_right [.tm 2] [a0] H Q = S_speech_right a0 Q H := by kernel_rfl
theorem tri_speech_right {a0 : AV} {H : AH} {Q : AV → AH → Prop} (h : S_speech_right a0 Q H) : Tri Try.prog 59 [a0] H Q :=
  tri_of (Ms := [#[], #[], #[], #[], #[], #[], #[], #[], #[], #[]]) mixed Try.func59 rfl (by kernel_rfl) (by kernel_rfl) rfl (of_decide_eq_true rfl : 1 ≤ 22) (by rw [eq_speech_right a0 Q H]; exact h : FnA Try.prog 22 (regsF Try.f59) ac_speech_right [.tm 2] [a0] H Q)

/-! wordhoard/speech.stepRight -/
def ac_speech_stepRight : AC := (.seq (.reg 0) (.seq (.reg 1) (.cut [3] [(2, 3), (11, 59)] (.seq (.reg 2) (.block 0 (.seq (.reg 3) (.cond (.tmp 13) (.seq (.reg 4) .ret) (.cut [44] [(45, 48)] (.seq (.reg 5) (.cond (.tmp 44) .skip (.seq (.reg 6) (.cond (.tmp 44) .skip (.reg 7))))) (.cond (.tmp 44) (.reg 8) (.cut [48] [(49, 51)] (.seq (.reg 9) (.cond (.tmp 48) .skip (.reg 10))) (.cond (.tmp 48) (.seq (.reg 11) (.cond (.tmp 58) (.seq (.reg 12) .ret) .skip)) (.seq (.reg 13) .ret))))))))) (.seq (.seq (.reg 14) (.cond (.tmp 63) (.seq (.reg 15) .ret) .skip)) (.seq (.reg 16) (.seq (.seq (.reg 17) (.block 1 (.seq (.reg 18) (.cond (.tmp 70) (.seq (.reg 19) .ret) (.seq (.reg 20) (.cond (.tmp 101) (.seq (.reg 21) .ret) .skip)))))) (.seq (.reg 22) (.seq (.reg 23) (.seq (.seq (.reg 24) (.cond (.tmp 168) (.seq (.reg 25) .ret) .skip)) (.seq (.reg 26) (.seq (.reg 27) (.cut [8, 9] [(2, 3), (179, 252)] (.seq (.reg 28) (.block 2 (.seq (.reg 29) (.cond (.tmp 181) (.seq (.seq (.reg 30) (.cond (.tmp 207) (.seq (.reg 31) .ret) .skip)) (.reg 32)) (.seq (.reg 33) (.cond (.tmp 220) (.seq (.seq (.reg 34) (.cond (.tmp 243) (.seq (.reg 35) .ret) .skip)) (.reg 36)) .skip)))))) (.seq (.reg 37) .ret)))))))))))))
def S_speech_stepRight_C1 (Q : AV → AH → Prop) (H : AH) (v1 : AV) (v4 : AV) : AH → Prop :=
  Rg 30 fun b_19 =>
  Vw fun V =>
  Pu Try.prog (.addOff 2) [v1] fun v72 =>
  Pu Try.prog (.addOff 0) [v72] fun v73 =>
  Rd Try.prog V (.ld 1 false) [v73] fun v74 =>
  Pu Try.prog (.bin .eql 3) [v74, (.p (.int .i64 2))] fun v75 =>
  GdV v75 true (fun k_26 => Pu Try.prog (.addOff 2) [v4] (fun a => k_26 a V)) V fun v77 V_27 =>
  GdV v75 true (fun k_29 => Rd Try.prog V_27 (.ld 3 true) [v77] (fun a => k_29 a V_27)) V_27 fun v78 V_30 =>
  GdV v75 true (fun k_32 => Pu Try.prog (.addOff 2) [v1] (fun a => k_32 a V_30)) V_30 fun v79 V_33 =>
  GdV v75 true (fun k_35 => Pu Try.prog (.addOff 2) [v79] (fun a => k_35 a V_33)) V_33 fun v80 V_36 =>
  GdV v75 true (fun k_38 => Rd Try.prog V_36 (.ld 1 false) [v80] (fun a => k_38 a V_36)) V_36 fun v81 V_39 =>
  GdV v75 true (fun k_41 => Pu Try.prog (.idx 3) [v81, (.p (.int .i64 0))] (fun a => k_41 a V_39)) V_39 fun v82 V_42 =>
  GdV v75 true (fun k_44 => Rd Try.prog V_42 (.ld 3 true) [v82] (fun a => k_44 a V_42)) V_42 fun v83 V_45 =>
  GdV v75 true (fun k_47 => CaV Try.prog V_45 (.fn (.func 76) [] []) [v78, v83] (fun a => k_47 a V_45)) V_45 fun v84 V_48 =>
  Pu Try.prog .pick [v75, v84, (.p (.bool false))] fun v85 =>
  GdV v85 true (fun k_51 => Pu Try.prog (.addOff 1) [v4] (fun a => k_51 a V_48)) V_48 fun v87 V_52 =>
  GdV v85 true (fun k_54 => Rd Try.prog V_52 (.ld 1 false) [v87] (fun a => k_54 a V_52)) V_52 fun v88 V_55 =>
  GdV v85 true (fun k_57 => Pu Try.prog (.addOff 1) [v1] (fun a => k_57 a V_55)) V_55 fun v89 V_58 =>
  GdV v85 true (fun k_60 => Rd Try.prog V_58 (.ld 1 false) [v89] (fun a => k_60 a V_58)) V_58 fun v90 V_61 =>
  GdV v85 true (fun k_63 => CaR Try.prog V_61 (b_19 + 19) [] (.fn (.func 49) [] []) [v90] (fun a => k_63 a V_61)) V_61 fun v91 V_64 =>
  GdV v85 true (fun k_66 => Pu Try.prog (.addOff 2) [v1] (fun a => k_66 a V_64)) V_64 fun v92 V_67 =>
  GdV v85 true (fun k_69 => Pu Try.prog (.addOff 2) [v92] (fun a => k_69 a V_67)) V_67 fun v93 V_70 =>
  GdV v85 true (fun k_72 => Rd Try.prog V_70 (.ld 1 false) [v93] (fun a => k_72 a V_70)) V_70 fun v94 V_73 =>
  GdV v85 true (fun k_75 => Pu Try.prog (.idx 3) [v94, (.p (.int .i64 1))] (fun a => k_75 a V_73)) V_73 fun v95 V_76 =>
  GdV v85 true (fun k_78 => Rd Try.prog V_76 (.ld 3 true) [v95] (fun a => k_78 a V_76)) V_76 fun v96 V_79 =>
  GdV v85 true (fun k_81 => Al (b_19 + 25) (.bs 24 3 1 [.p (.int .i64 0), .p (.int .i64 0), .p (.slice none 0 0)] [(0, 3)]) [v96] (fun a => k_81 a V_79)) V_79 fun v97 V_82 =>
  GdV v85 true (fun k_84 => WrF V_82 (some (b_19 + 19)) (some (b_19 + 25)) (b_19 + 26) (.app 24 3 40) [v91, v97] (fun a => k_84 a V_82)) V_82 fun v98 V_85 =>
  GdV v85 true (fun k_87 => CaN Try.prog V_85 [(b_19 + 26)] (.fn (.func 78) [] []) [v88, v98] (fun a => k_87 a V_85)) V_85 fun v99 _ =>
  Pu Try.prog .pick [v85, v99, (.p (.bool false))] fun v100 =>
  Rt Try.prog H.nx v100 Q
def S_speech_stepRight_C2 (Q : AV → AH → Prop) (H : AH) (v1 : AV) (v4 : AV) : AH → Prop :=
  Rg 29 fun b_91 =>
  Vw fun V_92 =>
  Pu Try.prog (.addOff 2) [v1] fun v103 =>
  Pu Try.prog (.addOff 0) [v103] fun v104 =>
  Rd Try.prog V_92 (.ld 1 false) [v104] fun v105 =>
  Pu Try.prog (.bin .eql 3) [v105, (.p (.int .i64 3))] fun v106 =>
  GdV v106 true (fun k_98 => Pu Try.prog (.addOff 2) [v4] (fun a => k_98 a V_92)) V_92 fun v108 V_99 =>
  GdV v106 true (fun k_101 => Rd Try.prog V_99 (.ld 3 true) [v108] (fun a => k_101 a V_99)) V_99 fun v109 V_102 =>
  GdV v106 true (fun k_104 => Pu Try.prog (.addOff 2) [v1] (fun a => k_104 a V_102)) V_102 fun v110 V_105 =>
  GdV v106 true (fun k_107 => Pu Try.prog (.addOff 2) [v110] (fun a => k_107 a V_105)) V_105 fun v111 V_108 =>
  GdV v106 true (fun k_110 => Rd Try.prog V_108 (.ld 1 false) [v111] (fun a => k_110 a V_108)) V_108 fun v112 V_111 =>
  GdV v106 true (fun k_113 => Pu Try.prog (.idx 3) [v112, (.p (.int .i64 1))] (fun a => k_113 a V_111)) V_111 fun v113 V_114 =>
  GdV v106 true (fun k_116 => Rd Try.prog V_114 (.ld 3 true) [v113] (fun a => k_116 a V_114)) V_114 fun v114 V_117 =>
  GdV v106 true (fun k_119 => CaV Try.prog V_117 (.fn (.func 76) [] []) [v109, v114] (fun a => k_119 a V_117)) V_117 fun v115 V_120 =>
  Pu Try.prog .pick [v106, v115, (.p (.bool false))] fun v116 =>
  GdV v116 true (fun k_123 => Pu Try.prog (.addOff 1) [v4] (fun a => k_123 a V_120)) V_120 fun v118 V_124 =>
  GdV v116 true (fun k_126 => Rd Try.prog V_124 (.ld 1 false) [v118] (fun a => k_126 a V_124)) V_124 fun v119 V_127 =>
  GdV v116 true (fun k_129 => Pu Try.prog (.addOff 2) [v1] (fun a => k_129 a V_127)) V_127 fun v120 V_130 =>
  GdV v116 true (fun k_132 => Pu Try.prog (.addOff 2) [v120] (fun a => k_132 a V_130)) V_130 fun v121 V_133 =>
  GdV v116 true (fun k_135 => Rd Try.prog V_133 (.ld 1 false) [v121] (fun a => k_135 a V_133)) V_133 fun v122 V_136 =>
  GdV v116 true (fun k_138 => Pu Try.prog (.idx 3) [v122, (.p (.int .i64 0))] (fun a => k_138 a V_136)) V_136 fun v123 V_139 =>
  GdV v116 true (fun k_141 => Rd Try.prog V_139 (.ld 3 true) [v123] (fun a => k_141 a V_139)) V_139 fun v124 V_142 =>
  GdV v116 true (fun k_144 => Al (b_91 + 22) (.bs 24 3 1 [.p (.int .i64 0), .p (.int .i64 0), .p (.slice none 0 0)] [(0, 3)]) [v124] (fun a => k_144 a V_142)) V_142 fun v125 V_145 =>
  GdV v116 true (fun k_147 => Pu Try.prog (.addOff 1) [v1] (fun a => k_147 a V_145)) V_145 fun v126 V_148 =>
  GdV v116 true (fun k_150 => Rd Try.prog V_148 (.ld 1 false) [v126] (fun a => k_150 a V_148)) V_148 fun v127 V_151 =>
  GdV v116 true (fun k_153 => WrF V_151 (some (b_91 + 22)) none (b_91 + 25) (.app 24 3 40) [v125, v127] (fun a => k_153 a V_151)) V_151 fun v128 V_154 =>
  GdV v116 true (fun k_156 => CaN Try.prog V_154 [(b_91 + 25)] (.fn (.func 78) [] []) [v119, v128] (fun a => k_156 a V_154)) V_154 fun v129 _ =>
  Pu Try.prog .pick [v116, v129, (.p (.bool false))] fun v130 =>
  Rt Try.prog H.nx v130 Q
def S_speech_stepRight_K3 (Q : AV → AH → Prop) (H : AH) (v1 : AV) (v4 : AV) (v5 : AV) (v136 : AV) (v141 : AV) (v10 : AV) (vs_229 : List AV) : AH → Prop :=
  Rg 27 fun b_230 =>
  Vw fun V_231 =>
  Pu Try.prog (.addOff 2) [v5] fun v252 =>
  Rd Try.prog V_231 (.ld 3 true) [v252] fun v253 =>
  Pu Try.prog (.addOff 2) [v1] fun v254 =>
  Rd Try.prog V_231 (.ld 3 true) [v254] fun v255 =>
  CaV Try.prog V_231 (.fn (.func 76) [] []) [v253, v255] fun v256 =>
  GdV v256 true (fun k_238 => Pu Try.prog (.addOff 1) [v4] (fun a => k_238 a V_231)) V_231 fun v258 V_239 =>
  GdV v256 true (fun k_241 => Rd Try.prog V_239 (.ld 1 false) [v258] (fun a => k_241 a V_239)) V_239 fun v259 V_242 =>
  GdV v256 true (fun k_244 => Pu Try.prog (.addOff 1) [v1] (fun a => k_244 a V_242)) V_242 fun v260 V_245 =>
  GdV v256 true (fun k_247 => Rd Try.prog V_245 (.ld 1 false) [v260] (fun a => k_247 a V_245)) V_245 fun v261 V_248 =>
  GdV v256 true (fun k_250 => k_250 v136 V_248) V_248 fun v262 V_251 =>
  GdV v256 true (fun k_253 => k_253 v141 V_251) V_251 fun v263 V_254 =>
  GdV v256 true (fun k_256 => Pu Try.prog (.slc 3 true true) [v261, v262, v263] (fun a => k_256 a V_254)) V_254 fun v264 V_257 =>
  GdV v256 true (fun k_259 => CaV Try.prog V_257 (.fn (.func 78) [] []) [v259, v264] (fun a => k_259 a V_257)) V_257 fun v265 V_260 =>
  Pu Try.prog .pick [v256, v265, (.p (.bool false))] fun v266 =>
  GdV v266 true (fun k_263 => Pu Try.prog (.addOff 1) [v5] (fun a => k_263 a V_260)) V_260 fun v268 V_264 =>
  GdV v266 true (fun k_266 => Rd Try.prog V_264 (.ld 1 false) [v268] (fun a => k_266 a V_264)) V_264 fun v269 V_267 =>
  GdV v266 true (fun k_269 => k_269 (vs_229.getD 0 .any) V_267) V_267 fun v270 V_270 =>
  GdV v266 true (fun k_272 => Rd Try.prog V_270 (.ld 3 true) [v10] (fun a => k_272 a V_270)) V_270 fun v271 V_273 =>
  GdV v266 true (fun k_275 => Al (b_230 + 20) (.bs 24 3 1 [.p (.int .i64 0), .p (.int .i64 0), .p (.slice none 0 0)] [(0, 3)]) [v271] (fun a => k_275 a V_273)) V_273 fun v272 V_276 =>
  GdV v266 true (fun k_278 => k_278 (vs_229.getD 1 .any) V_276) V_276 fun v273 V_279 =>
  GdV v266 true (fun k_281 => Al (b_230 + 22) (.bs 22 1 3 [.p (.slice none 0 0)] [(0, 1), (1, 1), (2, 1)]) [v270, v272, v273] (fun a => k_281 a V_279)) V_279 fun v274 V_282 =>
  GdV v266 true (fun k_284 => CaN Try.prog V_282 [(b_230 + 22), (b_230 + 20)] (.fn (.func 45) [] []) [v274] (fun a => k_284 a V_282)) V_282 fun v275 V_285 =>
  GdV v266 true (fun k_287 => CaV Try.prog V_285 (.fn (.func 78) [] []) [v269, v275] (fun a => k_287 a V_285)) V_285 fun v276 _ =>
  Pu Try.prog .pick [v266, v276, (.p (.bool false))] fun v277 =>
  Rt Try.prog H.nx v277 Q
def S_speech_stepRight_C4 (Q : AV → AH → Prop) (H : AH) (v4 : AV) (v136 : AV) (v172 : AV) (v176 : AV) (v10 : AV) (k_228 : List AV → AH → Prop) : AH → Prop :=
  Vw fun V_293 =>
  Pu Try.prog (.bin .eql 3) [v136, (.p (.int .i64 0))] fun v184 =>
  GdV v184 false (fun k_296 => k_296 v172 V_293) V_293 fun v186 V_297 =>
  GdV v184 false (fun k_299 => k_299 v136 V_297) V_297 fun v187 V_300 =>
  GdV v184 false (fun k_302 => Pu Try.prog (.bin .sub 3) [v187, (.p (.int .i64 1))] (fun a => k_302 a V_300)) V_300 fun v188 V_303 =>
  GdV v184 false (fun k_305 => Pu Try.prog (.idx 3) [v186, v188] (fun a => k_305 a V_303)) V_303 fun v189 V_306 =>
  GdV v184 false (fun k_308 => Pu Try.prog (.addOff 0) [v189] (fun a => k_308 a V_306)) V_306 fun v190 V_309 =>
  GdV v184 false (fun k_311 => Rd Try.prog V_309 (.ld 1 false) [v190] (fun a => k_311 a V_309)) V_309 fun v191 V_312 =>
  GdV v184 false (fun k_314 => Pu Try.prog (.bin .neq 3) [v191, (.p (.int .i64 2))] (fun a => k_314 a V_312)) V_312 fun v192 V_315 =>
  Pu Try.prog .pick [v184, (.p (.bool true)), v192] fun v193 =>
  GdV v193 false (fun k_318 => k_318 v172 V_315) V_315 fun v195 V_319 =>
  GdV v193 false (fun k_321 => k_321 v136 V_319) V_319 fun v196 V_322 =>
  GdV v193 false (fun k_324 => Pu Try.prog (.bin .sub 3) [v196, (.p (.int .i64 1))] (fun a => k_324 a V_322)) V_322 fun v197 V_325 =>
  GdV v193 false (fun k_327 => Pu Try.prog (.idx 3) [v195, v197] (fun a => k_327 a V_325)) V_325 fun v198 V_328 =>
  GdV v193 false (fun k_330 => Pu Try.prog (.addOff 2) [v198] (fun a => k_330 a V_328)) V_328 fun v199 V_331 =>
  GdV v193 false (fun k_333 => Rd Try.prog V_331 (.ld 1 false) [v199] (fun a => k_333 a V_331)) V_331 fun v200 V_334 =>
  GdV v193 false (fun k_336 => Pu Try.prog (.idx 3) [v200, (.p (.int .i64 1))] (fun a => k_336 a V_334)) V_334 fun v201 V_337 =>
  GdV v193 false (fun k_339 => Rd Try.prog V_337 (.ld 3 true) [v201] (fun a => k_339 a V_337)) V_337 fun v202 V_340 =>
  GdV v193 false (fun k_342 => Pu Try.prog (.addOff 2) [v4] (fun a => k_342 a V_340)) V_340 fun v203 V_343 =>
  GdV v193 false (fun k_345 => Rd Try.prog V_343 (.ld 3 true) [v203] (fun a => k_345 a V_343)) V_343 fun v204 V_346 =>
  GdV v193 false (fun k_348 => CaV Try.prog V_346 (.fn (.func 76) [] []) [v202, v204] (fun a => k_348 a V_346)) V_346 fun v205 V_349 =>
  GdV v193 false (fun k_351 => Pu Try.prog (.un .not) [v205] (fun a => k_351 a V_349)) V_349 fun v206 _ =>
  Pu Try.prog .pick [v193, (.p (.bool true)), v206] fun v207 =>
  CdA v207
    (
    Rt Try.prog H.nx (.p (.bool false)) Q
    ) (
    Rg 14 fun b_354 =>
    Vw fun V_355 =>
    Pu Try.prog (.bin .sub 3) [v136, (.p (.int .i64 1))] fun v210 =>
    Pu Try.prog (.idx 3) [v172, v210] fun v211 =>
    Pu Try.prog (.addOff 2) [v211] fun v212 =>
    Rd Try.prog V_355 (.ld 1 false) [v212] fun v213 =>
    Pu Try.prog (.idx 3) [v213, (.p (.int .i64 0))] fun v214 =>
    Rd Try.prog V_355 (.ld 3 true) [v214] fun v215 =>
    Pu Try.prog (.bin .sub 3) [v136, (.p (.int .i64 1))] fun v218 =>
    Pu Try.prog (.slc 3 false true) [v172, v218] fun v219 =>
    Wr Try.prog (b_354 + 12) (.st 3) [v10, v215] fun _ _ =>
    k_228 [v219, v176]
    )
def S_speech_stepRight_C5 (Q : AV → AH → Prop) (H : AH) (v4 : AV) (v172 : AV) (v176 : AV) (v10 : AV) (k_228 : List AV → AH → Prop) : AH → Prop :=
  Vw fun V_367 =>
  Pu Try.prog .len [v176] fun v223 =>
  Pu Try.prog (.bin .eql 3) [v223, (.p (.int .i64 0))] fun v224 =>
  GdV v224 false (fun k_371 => k_371 v176 V_367) V_367 fun v226 V_372 =>
  GdV v224 false (fun k_374 => Pu Try.prog (.idx 3) [v226, (.p (.int .i64 0))] (fun a => k_374 a V_372)) V_372 fun v227 V_375 =>
  GdV v224 false (fun k_377 => Pu Try.prog (.addOff 0) [v227] (fun a => k_377 a V_375)) V_375 fun v228 V_378 =>
  GdV v224 false (fun k_380 => Rd Try.prog V_378 (.ld 1 false) [v228] (fun a => k_380 a V_378)) V_378 fun v229 V_381 =>
  GdV v224 false (fun k_383 => Pu Try.prog (.bin .neq 3) [v229, (.p (.int .i64 3))] (fun a => k_383 a V_381)) V_381 fun v230 V_384 =>
  Pu Try.prog .pick [v224, (.p (.bool true)), v230] fun v231 =>
  GdV v231 false (fun k_387 => k_387 v176 V_384) V_384 fun v233 V_388 =>
  GdV v231 false (fun k_390 => Pu Try.prog (.idx 3) [v233, (.p (.int .i64 0))] (fun a => k_390 a V_388)) V_388 fun v234 V_391 =>
  GdV v231 false (fun k_393 => Pu Try.prog (.addOff 2) [v234] (fun a => k_393 a V_391)) V_391 fun v235 V_394 =>
  GdV v231 false (fun k_396 => Rd Try.prog V_394 (.ld 1 false) [v235] (fun a => k_396 a V_394)) V_394 fun v236 V_397 =>
  GdV v231 false (fun k_399 => Pu Try.prog (.idx 3) [v236, (.p (.int .i64 0))] (fun a => k_399 a V_397)) V_397 fun v237 V_400 =>
  GdV v231 false (fun k_402 => Rd Try.prog V_400 (.ld 3 true) [v237] (fun a => k_402 a V_400)) V_400 fun v238 V_403 =>
  GdV v231 false (fun k_405 => Pu Try.prog (.addOff 2) [v4] (fun a => k_405 a V_403)) V_403 fun v239 V_406 =>
  GdV v231 false (fun k_408 => Rd Try.prog V_406 (.ld 3 true) [v239] (fun a => k_408 a V_406)) V_406 fun v240 V_409 =>
  GdV v231 false (fun k_411 => CaV Try.prog V_409 (.fn (.func 76) [] []) [v238, v240] (fun a => k_411 a V_409)) V_409 fun v241 V_412 =>
  GdV v231 false (fun k_414 => Pu Try.prog (.un .not) [v241] (fun a => k_414 a V_412)) V_412 fun v242 _ =>
  Pu Try.prog .pick [v231, (.p (.bool true)), v242] fun v243 =>
  CdA v243
    (
    Rt Try.prog H.nx (.p (.bool false)) Q
    ) (
    Rg 10 fun b_417 =>
    Vw fun V_418 =>
    Pu Try.prog (.idx 3) [v176, (.p (.int .i64 0))] fun v245 =>
    Pu Try.prog (.addOff 2) [v245] fun v246 =>
    Rd Try.prog V_418 (.ld 1 false) [v246] fun v247 =>
    Pu Try.prog (.idx 3) [v247, (.p (.int .i64 1))] fun v248 =>
    Rd Try.prog V_418 (.ld 3 true) [v248] fun v249 =>
    Pu Try.prog (.slc 3 true false) [v176, (.p (.int .i64 1))] fun v251 =>
    Wr Try.prog (b_417 + 8) (.st 3) [v10, v249] fun _ _ =>
    k_228 [v172, v251]
    )
def S_speech_stepRight_C6 (Q : AV → AH → Prop) (H : AH) (v1 : AV) (v4 : AV) : AH → Prop :=
  Rg 6 fun b_159 =>
  Pu Try.prog (.addOff 7) [v1] fun v131 =>
  RdS Try.prog (.ld 1 false) [v131] fun v132 =>
  Pu Try.prog (.idx 8) [v132, (.p (.int .i64 1))] fun v133 =>
  RdS Try.prog (.ld 8 true) [v133] fun v134 =>
  Al (b_159 + 4) (.nw 27 [.p (.int .i64 0), .p (.slice none 0 0), .p (.int .i64 0), .p (.int .i64 0), .p (.slice none 0 0), .p (.int .i64 0), .p (.int .i64 0), .p (.slice none 0 0)]) [] fun v5 =>
  WrS Try.prog (b_159 + 5) (.st 8) [v5, v134] fun _ =>
  Vw fun V_166 =>
  Pu Try.prog (.addOff 5) [v1] fun v135 =>
  Rd Try.prog V_166 (.ld 1 false) [v135] fun v136 =>
  Pu Try.prog (.addOff 5) [v1] fun v137 =>
  Rd Try.prog V_166 (.ld 1 false) [v137] fun v138 =>
  Pu Try.prog (.addOff 6) [v1] fun v139 =>
  Rd Try.prog V_166 (.ld 1 false) [v139] fun v140 =>
  Pu Try.prog (.bin .add 3) [v138, v140] fun v141 =>
  Pu Try.prog (.addOff 5) [v1] fun v142 =>
  RdS Try.prog (.ld 1 false) [v142] fun v143 =>
  Pu Try.prog (.bin .lss 3) [v143, (.p (.int .i64 0))] fun v144 =>
  Gd v144 false (fun k_178 => Pu Try.prog (.addOff 6) [v1] k_178) fun v146 =>
  Gd v144 false (fun k_180 => RdS Try.prog (.ld 1 false) [v146] k_180) fun v147 =>
  Gd v144 false (fun k_182 => Pu Try.prog (.bin .lss 3) [v147, (.p (.int .i64 1))] k_182) fun v148 =>
  Pu Try.prog .pick [v144, (.p (.bool true)), v148] fun v149 =>
  Gd v149 false (fun k_185 => Pu Try.prog (.addOff 6) [v1] k_185) fun v151 =>
  Gd v149 false (fun k_187 => RdS Try.prog (.ld 1 false) [v151] k_187) fun v152 =>
  Gd v149 false (fun k_189 => Pu Try.prog (.addOff 1) [v1] k_189) fun v153 =>
  Gd v149 false (fun k_191 => RdS Try.prog (.ld 1 false) [v153] k_191) fun v154 =>
  Gd v149 false (fun k_193 => Pu Try.prog .len [v154] k_193) fun v155 =>
  Gd v149 false (fun k_195 => Pu Try.prog (.bin .gtr 3) [v152, v155] k_195) fun v156 =>
  Pu Try.prog .pick [v149, (.p (.bool true)), v156] fun v157 =>
  Gd v157 false (fun k_198 => Pu Try.prog (.addOff 5) [v1] k_198) fun v159 =>
  Gd v157 false (fun k_200 => RdS Try.prog (.ld 1 false) [v159] k_200) fun v160 =>
  Gd v157 false (fun k_202 => Pu Try.prog (.addOff 1) [v1] k_202) fun v161 =>
  Gd v157 false (fun k_204 => RdS Try.prog (.ld 1 false) [v161] k_204) fun v162 =>
  Gd v157 false (fun k_206 => Pu Try.prog .len [v162] k_206) fun v163 =>
  Gd v157 false (fun k_208 => Pu Try.prog (.addOff 6) [v1] k_208) fun v164 =>
  Gd v157 false (fun k_210 => RdS Try.prog (.ld 1 false) [v164] k_210) fun v165 =>
  Gd v157 false (fun k_212 => Pu Try.prog (.bin .sub 3) [v163, v165] k_212) fun v166 =>
  Gd v157 false (fun k_214 => Pu Try.prog (.bin .gtr 3) [v160, v166] k_214) fun v167 =>
  Pu Try.prog .pick [v157, (.p (.bool true)), v167] fun v168 =>
  CdA v168
    (
    Rt Try.prog H.nx (.p (.bool false)) Q
    ) (
    Vw fun V_216 =>
    Pu Try.prog (.addOff 1) [v1] fun v169 =>
    Rd Try.prog V_216 (.ld 1 false) [v169] fun v170 =>
    Pu Try.prog (.slc 3 false true) [v170, v136] fun v172 =>
    Pu Try.prog (.addOff 1) [v1] fun v173 =>
    Rd Try.prog V_216 (.ld 1 false) [v173] fun v174 =>
    Pu Try.prog (.slc 3 true false) [v174, v141] fun v176 =>
    Rg 4 fun b_223 =>
    Pu Try.prog (.addOff 2) [v4] fun v177 =>
    RdS Try.prog (.ld 3 true) [v177] fun v178 =>
    Al (b_223 + 2) (.nw 24 [.p (.int .i64 0), .p (.int .i64 0), .p (.slice none 0 0)]) [] fun v10 =>
    WrS Try.prog (b_223 + 3) (.st 3) [v10, v178] fun _ =>
    CutA Try.prog 2 (fun k_228 =>
      Pu Try.prog (.addOff 0) [v1] fun v179 =>
      RdS Try.prog (.ld 1 false) [v179] fun v180 =>
      Pu Try.prog (.bin .eql 3) [v180, (.p (.int .i64 4))] fun v182 =>
      CdA v182
        (S_speech_stepRight_C4 Q H v4 v136 v172 v176 v10 k_228) (
        Pu Try.prog (.bin .eql 3) [v180, (.p (.int .i64 5))] fun v221 =>
        CdA v221
          (S_speech_stepRight_C5 Q H v4 v172 v176 v10 k_228) (
          k_228 [v172, v176]
          )
        )
      ) (S_speech_stepRight_K3 Q H v1 v4 v5 v136 v141 v10)
    )
def S_speech_stepRight_K7 (Q : AV → AH → Prop) (H : AH) (v1 : AV) (vs : List AV) : AH → Prop :=
  Pu Try.prog (.addOff 7) [v1] fun v59 =>
  RdS Try.prog (.ld 1 false) [v59] fun v60 =>
  Pu Try.prog .len [v60] fun v61 =>
  Pu Try.prog (.bin .neq 3) [v61, (vs.getD 0 .any)] fun v63 =>
  CdA v63
    (
    Rt Try.prog H.nx (.p (.bool false)) Q
    ) (
    Rg 6 fun b_9 =>
    Pu Try.prog (.addOff 7) [v1] fun v64 =>
    RdS Try.prog (.ld 1 false) [v64] fun v65 =>
    Pu Try.prog (.idx 8) [v65, (.p (.int .i64 0))] fun v66 =>
    RdS Try.prog (.ld 8 true) [v66] fun v67 =>
    Al (b_9 + 4) (.nw 27 [.p (.int .i64 0), .p (.slice none 0 0), .p (.int .i64 0), .p (.int .i64 0), .p (.slice none 0 0), .p (.int .i64 0), .p (.int .i64 0), .p (.slice none 0 0)]) [] fun v4 =>
    WrS Try.prog (b_9 + 5) (.st 8) [v4, v67] fun _ =>
    Pu Try.prog (.addOff 0) [v1] fun v68 =>
    RdS Try.prog (.ld 1 false) [v68] fun v69 =>
    Pu Try.prog (.bin .eql 3) [v69, (.p (.int .i64 2))] fun v71 =>
    CdA v71
      (S_speech_stepRight_C1 Q H v1 v4) (
      Pu Try.prog (.bin .eql 3) [v69, (.p (.int .i64 3))] fun v102 =>
      CdA v102
        (S_speech_stepRight_C2 Q H v1 v4) (S_speech_stepRight_C6 Q H v1 v4)
      )
    )
def S_speech_stepRight_C8 (Q : AV → AH → Prop) (H : AH) (v1 : AV) : AH → Prop :=
  Vw fun V_430 =>
  Pu Try.prog (.addOff 7) [v1] fun v15 =>
  Rd Try.prog V_430 (.ld 1 false) [v15] fun v16 =>
  Pu Try.prog .len [v16] fun v17 =>
  Pu Try.prog (.bin .eql 3) [v17, (.p (.int .i64 0))] fun v18 =>
  GdV v18 true (fun k_436 => Pu Try.prog (.addOff 5) [v1] (fun a => k_436 a V_430)) V_430 fun v20 V_437 =>
  GdV v18 true (fun k_439 => Rd Try.prog V_437 (.ld 1 false) [v20] (fun a => k_439 a V_437)) V_437 fun v21 V_440 =>
  GdV v18 true (fun k_442 => Pu Try.prog (.bin .eql 3) [v21, (.p (.int .i64 0))] (fun a => k_442 a V_440)) V_440 fun v22 V_443 =>
  Pu Try.prog .pick [v18, v22, (.p (.bool false))] fun v23 =>
  GdV v23 true (fun k_446 => Pu Try.prog (.addOff 6) [v1] (fun a => k_446 a V_443)) V_443 fun v25 V_447 =>
  GdV v23 true (fun k_449 => Rd Try.prog V_447 (.ld 1 false) [v25] (fun a => k_449 a V_447)) V_447 fun v26 V_450 =>
  GdV v23 true (fun k_452 => Pu Try.prog (.bin .eql 3) [v26, (.p (.int .i64 0))] (fun a => k_452 a V_450)) V_450 fun v27 V_453 =>
  Pu Try.prog .pick [v23, v27, (.p (.bool false))] fun v28 =>
  GdV v28 true (fun k_456 => Pu Try.prog (.addOff 1) [v1] (fun a => k_456 a V_453)) V_453 fun v30 V_457 =>
  GdV v28 true (fun k_459 => Rd Try.prog V_457 (.ld 1 false) [v30] (fun a => k_459 a V_457)) V_457 fun v31 V_460 =>
  GdV v28 true (fun k_462 => Pu Try.prog .len [v31] (fun a => k_462 a V_460)) V_460 fun v32 V_463 =>
  GdV v28 true (fun k_465 => Pu Try.prog (.bin .eql 3) [v32, (.p (.int .i64 1))] (fun a => k_465 a V_463)) V_463 fun v33 V_466 =>
  Pu Try.prog .pick [v28, v33, (.p (.bool false))] fun v34 =>
  GdV v34 true (fun k_469 => Pu Try.prog (.addOff 1) [v1] (fun a => k_469 a V_466)) V_466 fun v36 V_470 =>
  GdV v34 true (fun k_472 => Rd Try.prog V_470 (.ld 1 false) [v36] (fun a => k_472 a V_470)) V_470 fun v37 V_473 =>
  GdV v34 true (fun k_475 => Pu Try.prog (.idx 3) [v37, (.p (.int .i64 0))] (fun a => k_475 a V_473)) V_473 fun v38 V_476 =>
  GdV v34 true (fun k_478 => Rd Try.prog V_476 (.ld 3 true) [v38] (fun a => k_478 a V_476)) V_476 fun v39 V_479 =>
  GdV v34 true (fun k_481 => Pu Try.prog (.addOff 2) [v1] (fun a => k_481 a V_479)) V_479 fun v40 V_482 =>
  GdV v34 true (fun k_484 => Rd Try.prog V_482 (.ld 3 true) [v40] (fun a => k_484 a V_482)) V_482 fun v41 V_485 =>
  GdV v34 true (fun k_487 => CaV Try.prog V_485 (.fn (.func 76) [] []) [v39, v41] (fun a => k_487 a V_485)) V_485 fun v42 _ =>
  Pu Try.prog .pick [v34, v42, (.p (.bool false))] fun v43 =>
  Rt Try.prog H.nx v43 Q
def S_speech_stepRight_K9 (Q : AV → AH → Prop) (H : AH) (v1 : AV) (k : List AV → AH → Prop) (vs_493 : List AV) : AH → Prop :=
  CdA (vs_493.getD 0 .any)
    (
    Pu Try.prog (.addOff 5) [v1] fun v51 =>
    RdS Try.prog (.ld 1 false) [v51] fun v52 =>
    Pu Try.prog (.bin .neq 3) [v52, (.p (.int .i64 0))] fun v53 =>
    Gd v53 false (fun k_498 => Pu Try.prog (.addOff 6) [v1] k_498) fun v55 =>
    Gd v53 false (fun k_500 => RdS Try.prog (.ld 1 false) [v55] k_500) fun v56 =>
    Gd v53 false (fun k_502 => Pu Try.prog (.bin .neq 3) [v56, (.p (.int .i64 0))] k_502) fun v57 =>
    Pu Try.prog .pick [v53, (.p (.bool true)), v57] fun v58 =>
    CdA v58
      (
      Rt Try.prog H.nx (.p (.bool false)) Q
      ) (
      k [(.p (.int .i64 1))]
      )
    ) (
    Rt Try.prog H.nx (.p (.bool false)) Q
    )
def S_speech_stepRight_K10 (Q : AV → AH → Prop) (H : AH) (v1 : AV) (k : List AV → AH → Prop) (v12 : AV) (vs_491 : List AV) : AH → Prop :=
  CdA (vs_491.getD 0 .any)
    (
    k [(.p (.int .i64 2))]
    ) (
    CutA Try.prog 1 (fun k_492 =>
      Pu Try.prog (.bin .eql 3) [v12, (.p (.int .i64 2))] fun v49 =>
      CdA v49
        (
        k_492 [v49]
        ) (
        Pu Try.prog (.bin .eql 3) [v12, (.p (.int .i64 3))] fun v50 =>
        k_492 [v50]
        )
      ) (S_speech_stepRight_K9 Q H v1 k)
    )
def S_speech_stepRight (a0 : AV) (Q : AV → AH → Prop) (H : AH) : Prop := (
    Rg 2 fun b =>
    Al (b + 0) (.bx 27) [a0] fun v1 =>
    CutA Try.prog 1 (fun k =>
      Pu Try.prog (.addOff 0) [v1] fun v11 =>
      RdS Try.prog (.ld 1 false) [v11] fun v12 =>
      Pu Try.prog (.bin .eql 3) [v12, (.p (.int .i64 1))] fun v14 =>
      CdA v14
        (S_speech_stepRight_C8 Q H v1) (
        CutA Try.prog 1 (fun k_490 =>
          Pu Try.prog (.bin .eql 3) [v12, (.p (.int .i64 4))] fun v45 =>
          CdA v45
            (
            k_490 [v45]
            ) (
            Pu Try.prog (.bin .eql 3) [v12, (.p (.int .i64 5))] fun v46 =>
            CdA v46
              (
              k_490 [v46]
              ) (
              Pu Try.prog (.bin .eql 3) [v12, (.p (.int .i64 6))] fun v47 =>
              k_490 [v47]
              )
            )
          ) (S_speech_stepRight_K10 Q H v1 k v12)
        )
      ) (S_speech_stepRight_K7 Q H v1)
    ) H
theorem eq_speech_stepRight (a0 : AV) (Q : AV → AH → Prop) (H : AH) : FnA Try.prog 278 (regsF Try.f72) ac_speech_stepRight [.tm 2] [a0] H Q = S_speech_stepRight a0 Q H := by kernel_rfl
theorem tri_speech_stepRight {a0 : AV} {H : AH} {Q : AV → AH → Prop} (h : S_speech_stepRight a0 Q H) : Tri Try.prog 72 [a0] H Q :=
  tri_of (Ms := [#[], #[], #[], #[], #[0, 1, 3, 7, 15, 31, 63, 127, 255, 511, 1023, 2047, 4095, 8191, 16383, 32767, 65535, 131071, 262143, 524287, 1048575, 2097151, 4194303, 8388607, 16777215, 2097151, 35651583, 134217727, 268435455, 536870911], #[], #[], #[], #[], #[], #[], #[], #[], #[], #[], #[], #[], #[], #[], #[0, 1, 3, 7, 15, 31, 63, 31, 159, 415, 927, 1951, 4095, 8191, 16383, 32767, 65535, 32767, 163839, 425983, 32767, 1081343, 3178495, 7372799, 15761407, 32538623, 67010559, 134217727, 268435455, 536870911], #[], #[0, 1, 3, 7, 15, 31, 63, 31, 159, 415, 927, 1951, 4095, 8191, 16383, 32767, 65535, 32767, 163839, 425983, 950271, 1998847, 4095999, 32767, 8421375, 33456127, 67108863, 134217727, 268435455], #[], #[0, 1, 0, 4, 0, 16, 60, 3, 255], #[], #[], #[0, 1, 0, 7, 0, 16, 0, 112, 15, 511], #[], #[], #[], #[0, 1, 3, 7, 7, 23, 63, 127, 255, 511, 1023, 2047, 4095, 4095, 12287, 32767, 65535, 131071, 262143, 524287, 4095, 1052671, 4194303, 8388607, 16777215], #[], #[0, 0, 2, 7, 15, 31, 63, 127, 0, 0, 512, 1792, 255, 8191], #[], #[0, 1, 3, 7, 15, 31, 63, 127, 255, 511, 1023, 2047, 4095, 8191, 16383, 32767, 65535, 2047, 133119, 524287, 1048575, 2097151], #[], #[0, 1, 3, 7, 15, 31, 0, 64, 63, 511], #[0, 1, 0, 4, 15, 31, 63, 127, 63, 319, 63, 63, 3903, 8191, 16383, 32767, 65535, 131071, 65535, 65535, 589823, 65535, 3997695, 8191999, 16777215, 33554431, 67108863]]) mixed Try.func72 rfl (by kernel_rfl) (by kernel_rfl) rfl (of_decide_eq_true rfl : 1 ≤ 278) (by rw [eq_speech_stepRight a0 Q H]; exact h : FnA Try.prog 278 (regsF Try.f72) ac_speech_stepRight [.tm 2] [a0] H Q)

/-! wordhoard/wordhoardref.AsksWords -/
def ac_wordhoardref_AsksWords : AC := (.seq (.reg 0) (.seq (.seq (.reg 1) (.cond (.tmp 16) (.seq (.reg 2) .ret) .skip)) (.seq (.reg 3) (.seq (.seq (.reg 4) (.block 0 (.loop [5, 6] [(4, 5), (17, 43)] (.seq (.seq (.reg 5) (.cond (.tmp 20) .skip (.exit 0))) (.seq (.block 1 (.seq (.seq (.reg 6) (.cond (.tmp 36) (.seq (.reg 7) .ret) .skip)) (.reg 8))) (.reg 9)))))) (.seq (.reg 10) (.seq (.seq (.reg 11) (.block 2 (.loop [7] [(4, 5), (8, 9), (47, 61)] (.seq (.seq (.reg 12) (.cond (.tmp 50) .skip (.exit 2))) (.seq (.block 3 (.seq (.reg 13) (.seq (.reg 14) (.cond (.tmp 59) (.seq (.reg 15) .ret) .skip)))) (.reg 16)))))) (.seq (.seq (.reg 17) (.cond (.tmp 63) (.seq (.reg 18) .ret) .skip)) (.seq (.reg 19) .ret))))))))
def S_wordhoardref_AsksWords_L1 (Q : AV → AH → Prop) (H : AH) (v46 : AV) (vs_43 : List AV) (k_42 : List AV → AH → Prop) : AH → Prop :=
  Pu Try.prog .len [v46] fun v49 =>
  Pu Try.prog (.bin .lss 3) [(vs_43.getD 0 .any), v49] fun v50 =>
  CdA v50
    (
    Pu Try.prog (.idx 3) [v46, (vs_43.getD 0 .any)] fun v55 =>
    RdS Try.prog (.ld 3 true) [v55] fun v56 =>
    Ca Try.prog (.fn (.func 19) [] []) [v56] fun v57 =>
    Pu Try.prog (.bin .neq 28) [v57, (.p (.int .i64 0))] fun v59 =>
    CdA v59
      (
      Rt Try.prog H.nx v57 Q
      ) (
      Pu Try.prog (.bin .add 3) [(vs_43.getD 0 .any), (.p (.int .i64 1))] fun v52 =>
      k_42 [v52]
      )
    ) (
    Ca Try.prog (.fn (.func 37) [] []) [v46] fun v62 =>
    Pu Try.prog (.bin .gtr 3) [v62, (.p (.int .i64 10))] fun v63 =>
    CdA v63
      (
      Rt Try.prog H.nx (.p (.int .i64 2)) Q
      ) (
      Rt Try.prog H.nx (.p (.int .i64 0)) Q
      )
    )
def S_wordhoardref_AsksWords_L2 (a0 : AV) (Q : AV → AH → Prop) (H : AH) (v3 : AV) (vs : List AV) (k_12 : List AV → AH → Prop) : AH → Prop :=
  Pu Try.prog .len [a0] fun v19 =>
  Pu Try.prog (.bin .lss 3) [(vs.getD 1 .any), v19] fun v20 =>
  CdA v20
    (
    Pu Try.prog (.idx 1) [a0, (vs.getD 1 .any)] fun v25 =>
    RdS Try.prog (.ld 1 false) [v25] fun v26 =>
    Pu Try.prog .len [v26] fun v27 =>
    Pu Try.prog (.bin .eql 3) [v27, (.p (.int .i64 0))] fun v28 =>
    Gd v28 false (fun k_21 => k_21 a0) fun v30 =>
    Gd v28 false (fun k_23 => k_23 (vs.getD 1 .any)) fun v31 =>
    Gd v28 false (fun k_25 => Pu Try.prog (.idx 1) [v30, v31] k_25) fun v32 =>
    Gd v28 false (fun k_27 => RdS Try.prog (.ld 1 false) [v32] k_27) fun v33 =>
    Gd v28 false (fun k_29 => Pu Try.prog .len [v33] k_29) fun v34 =>
    Gd v28 false (fun k_31 => Pu Try.prog (.bin .gtr 3) [v34, (.p (.int .i64 3))] k_31) fun v35 =>
    Pu Try.prog .pick [v28, (.p (.bool true)), v35] fun v36 =>
    CdA v36
      (
      Rt Try.prog H.nx (.p (.int .i64 7)) Q
      ) (
      Rg 7 fun b_33 =>
      Pu Try.prog (.idx 1) [a0, (vs.getD 1 .any)] fun v40 =>
      RdS Try.prog (.ld 1 false) [v40] fun v41 =>
      WrS Try.prog (b_33 + 5) (.app 24 3 40) [(vs.getD 0 .any), v41] fun v42 =>
      Pu Try.prog (.bin .add 3) [(vs.getD 1 .any), (.p (.int .i64 1))] fun v22 =>
      k_12 [v42, v22]
      )
    ) (
    Rg 5 fun b_38 =>
    RdS Try.prog (.ld 3 true) [v3] fun v44 =>
    Al (b_38 + 2) (.bs 24 3 1 [.p (.int .i64 0), .p (.int .i64 0), .p (.slice none 0 0)] [(0, 3)]) [v44] fun v45 =>
    WrS Try.prog (b_38 + 3) (.app 24 3 40) [(vs.getD 0 .any), v45] fun v46 =>
    LoopA Try.prog 1 (S_wordhoardref_AsksWords_L1 Q H v46) [(.p (.int .i64 0))]
    )
def S_wordhoardref_AsksWords (a0 a1 : AV) (Q : AV → AH → Prop) (H : AH) : Prop := (
    Rg 2 fun b =>
    Al (b + 0) (.bx 24) [a1] fun v3 =>
    Pu Try.prog .len [a0] fun v10 =>
    Pu Try.prog (.bin .eql 3) [v10, (.p (.int .i64 0))] fun v11 =>
    Gd v11 false (fun k => k a0) fun v13 =>
    Gd v11 false (fun k_8 => Pu Try.prog .len [v13] k_8) fun v14 =>
    Gd v11 false (fun k_10 => Pu Try.prog (.bin .gtr 3) [v14, (.p (.int .i64 6))] k_10) fun v15 =>
    Pu Try.prog .pick [v11, (.p (.bool true)), v15] fun v16 =>
    CdA v16
      (
      Rt Try.prog H.nx (.p (.int .i64 7)) Q
      ) (
      LoopA Try.prog 2 (S_wordhoardref_AsksWords_L2 a0 Q H v3) [(.p (.slice none 0 0)), (.p (.int .i64 0))]
      )
    ) H
theorem eq_wordhoardref_AsksWords (a0 a1 : AV) (Q : AV → AH → Prop) (H : AH) : FnA Try.prog 64 (regsF Try.f16) ac_wordhoardref_AsksWords [.tm 4] [a0, a1] H Q = S_wordhoardref_AsksWords a0 a1 Q H := by kernel_rfl
theorem tri_wordhoardref_AsksWords {a0 a1 : AV} {H : AH} {Q : AV → AH → Prop} (h : S_wordhoardref_AsksWords a0 a1 Q H) : Tri Try.prog 16 [a0, a1] H Q :=
  tri_of (Ms := [#[], #[], #[], #[], #[], #[], #[], #[], #[], #[], #[], #[], #[], #[], #[], #[], #[], #[], #[], #[]]) mixed Try.func16 rfl (by kernel_rfl) (by kernel_rfl) rfl (of_decide_eq_true rfl : 2 ≤ 64) (by rw [eq_wordhoardref_AsksWords a0 a1 Q H]; exact h : FnA Try.prog 64 (regsF Try.f16) ac_wordhoardref_AsksWords [.tm 4] [a0, a1] H Q)

/-! wordhoard/wordhoardref.Says -/
def ac_wordhoardref_Says : AC := (.seq (.reg 0) (.seq (.seq (.reg 1) (.cond (.tmp 13) (.seq (.seq (.reg 2) (.cond (.tmp 16) (.seq (.reg 3) .ret) .skip)) (.seq (.reg 4) .ret)) .skip)) (.seq (.seq (.reg 5) (.block 0 (.loop [7] [(6, 7), (8, 9), (18, 49)] (.seq (.seq (.reg 6) (.cond (.tmp 25) .skip (.exit 0))) (.seq (.block 1 (.seq (.reg 7) (.seq (.reg 8) (.cond (.tmp 44) (.seq (.reg 9) .ret) .skip)))) (.reg 10)))))) (.seq (.reg 11) .ret))))
def S_wordhoardref_Says_L1 (a0 : AV) (a2 : AV) (Q : AV → AH → Prop) (H : AH) (v4 : AV) (vs : List AV) (k : List AV → AH → Prop) : AH → Prop :=
  Pu Try.prog .len [a2] fun v21 =>
  Pu Try.prog (.idx 1) [a0, v21] fun v22 =>
  RdS Try.prog (.ld 1 false) [v22] fun v23 =>
  Pu Try.prog .len [v23] fun v24 =>
  Pu Try.prog (.bin .lss 3) [(vs.getD 0 .any), v24] fun v25 =>
  CdA v25
    (
    Rg 16 fun b_17 =>
    Vw fun V =>
    Rd Try.prog V (.ld 3 true) [v4] fun v29 =>
    Pu Try.prog .len [a2] fun v33 =>
    Pu Try.prog (.idx 1) [a0, v33] fun v34 =>
    Rd Try.prog V (.ld 1 false) [v34] fun v35 =>
    Pu Try.prog (.bin .add 3) [(vs.getD 0 .any), (.p (.int .i64 1))] fun v38 =>
    Pu Try.prog (.slc 3 true true) [v35, (vs.getD 0 .any), v38] fun v39 =>
    Al (b_17 + 12) (.bs 22 1 2 [.p (.slice none 0 0)] [(0, 1), (1, 1)]) [a2, v39] fun v40 =>
    CaN Try.prog V [(b_17 + 12)] (.fn (.func 36) [] []) [v40] fun v41 =>
    CaV Try.prog V (.fn (.func 17) [] []) [a0, v29, v41] fun v42 =>
    Pu Try.prog (.bin .neq 37) [v42, (.p (.slice none 0 0))] fun v44 =>
    CdA v44
      (
      Rg 5 fun b_29 =>
      Al (b_29 + 1) (.bs 3 1 1 [.p (.int .i64 0)] [(0, 1)]) [(vs.getD 0 .any)] fun v46 =>
      WrS Try.prog (b_29 + 3) (.app 3 1 8) [v46, v42] fun v48 =>
      Rt Try.prog H.nx v48 Q
      ) (
      Pu Try.prog (.bin .add 3) [(vs.getD 0 .any), (.p (.int .i64 1))] fun v27 =>
      k [v27]
      )
    ) (
    Rt Try.prog H.nx (.p (.slice none 0 0)) Q
    )
def S_wordhoardref_Says (a0 a1 a2 : AV) (Q : AV → AH → Prop) (H : AH) : Prop := (
    Rg 2 fun b =>
    Al (b + 0) (.bx 24) [a1] fun v4 =>
    Pu Try.prog .len [a2] fun v10 =>
    Pu Try.prog .len [a0] fun v12 =>
    Pu Try.prog (.bin .eql 3) [v10, v12] fun v13 =>
    CdA v13
      (
      RdS Try.prog (.ld 3 true) [v4] fun v15 =>
      Ca Try.prog (.fn (.func 12) [] []) [a2, v15] fun v16 =>
      CdA v16
        (
        Rg 2 fun b_8 =>
        Al (b_8 + 0) (.bs 3 1 0 [.p (.int .i64 0)] []) [] fun v17 =>
        Rt Try.prog H.nx v17 Q
        ) (
        Rt Try.prog H.nx (.p (.slice none 0 0)) Q
        )
      ) (
      LoopA Try.prog 1 (S_wordhoardref_Says_L1 a0 a2 Q H v4) [(.p (.int .i64 0))]
      )
    ) H
theorem eq_wordhoardref_Says (a0 a1 a2 : AV) (Q : AV → AH → Prop) (H : AH) : FnA Try.prog 49 (regsF Try.f17) ac_wordhoardref_Says [.tm 6] [a0, a1, a2] H Q = S_wordhoardref_Says a0 a1 a2 Q H := by kernel_rfl
theorem tri_wordhoardref_Says {a0 a1 a2 : AV} {H : AH} {Q : AV → AH → Prop} (h : S_wordhoardref_Says a0 a1 a2 Q H) : Tri Try.prog 17 [a0, a1, a2] H Q :=
  tri_of (Ms := [#[], #[], #[], #[], #[], #[], #[], #[0, 0, 0, 0, 0, 16, 56, 120, 0, 0, 512, 2040, 4092, 8188, 16383, 32767], #[], #[], #[], #[]]) mixed Try.func17 rfl (by kernel_rfl) (by kernel_rfl) rfl (of_decide_eq_true rfl : 3 ≤ 49) (by rw [eq_wordhoardref_Says a0 a1 a2 Q H]; exact h : FnA Try.prog 49 (regsF Try.f17) ac_wordhoardref_Says [.tm 6] [a0, a1, a2] H Q)

/-! wordhoard/wordhoardref.Same -/
def ac_wordhoardref_Same : AC := (.seq (.reg 0) (.seq (.seq (.reg 1) (.cond (.tmp 10) (.seq (.reg 2) .ret) .skip)) (.seq (.seq (.reg 3) (.block 0 (.loop [5] [(4, 5), (11, 26)] (.seq (.seq (.reg 4) (.cond (.tmp 14) .skip (.exit 0))) (.seq (.block 1 (.seq (.reg 5) (.cond (.tmp 25) (.seq (.reg 6) .ret) .skip))) (.reg 7)))))) (.seq (.reg 8) .ret))))
def S_wordhoardref_Same_L1 (a0 : AV) (a1 : AV) (Q : AV → AH → Prop) (H : AH) (vs : List AV) (k : List AV → AH → Prop) : AH → Prop :=
  Pu Try.prog .len [a0] fun v13 =>
  Pu Try.prog (.bin .lss 3) [(vs.getD 0 .any), v13] fun v14 =>
  CdA v14
    (
    Vw fun V =>
    Pu Try.prog (.idx 1) [a0, (vs.getD 0 .any)] fun v19 =>
    Rd Try.prog V (.ld 1 false) [v19] fun v20 =>
    Pu Try.prog (.idx 1) [a1, (vs.getD 0 .any)] fun v23 =>
    Rd Try.prog V (.ld 1 false) [v23] fun v24 =>
    Pu Try.prog (.bin .neq 3) [v20, v24] fun v25 =>
    CdA v25
      (
      Rt Try.prog H.nx (.p (.bool false)) Q
      ) (
      Pu Try.prog (.bin .add 3) [(vs.getD 0 .any), (.p (.int .i64 1))] fun v16 =>
      k [v16]
      )
    ) (
    Rt Try.prog H.nx (.p (.bool true)) Q
    )
def S_wordhoardref_Same (a0 a1 : AV) (Q : AV → AH → Prop) (H : AH) : Prop := (
    Pu Try.prog .len [a0] fun v7 =>
    Pu Try.prog .len [a1] fun v9 =>
    Pu Try.prog (.bin .neq 3) [v7, v9] fun v10 =>
    CdA v10
      (
      Rt Try.prog H.nx (.p (.bool false)) Q
      ) (
      LoopA Try.prog 1 (S_wordhoardref_Same_L1 a0 a1 Q H) [(.p (.int .i64 0))]
      )
    ) H
theorem eq_wordhoardref_Same (a0 a1 : AV) (Q : AV → AH → Prop) (H : AH) : FnA Try.prog 26 (regsF Try.f18) ac_wordhoardref_Same [.tm 4] [a0, a1] H Q = S_wordhoardref_Same a0 a1 Q H := by kernel_rfl
theorem tri_wordhoardref_Same {a0 a1 : AV} {H : AH} {Q : AV → AH → Prop} (h : S_wordhoardref_Same a0 a1 Q H) : Tri Try.prog 18 [a0, a1] H Q :=
  tri_of (Ms := [#[], #[], #[], #[], #[], #[0, 0, 3, 7, 0, 0, 48, 112, 255], #[], #[], #[]]) mixed Try.func18 rfl (by kernel_rfl) (by kernel_rfl) rfl (of_decide_eq_true rfl : 2 ≤ 26) (by rw [eq_wordhoardref_Same a0 a1 Q H]; exact h : FnA Try.prog 26 (regsF Try.f18) ac_wordhoardref_Same [.tm 4] [a0, a1] H Q)

/-! wordhoard/wordhoardlaw.SpeechSays -/
def ac_wordhoardlaw_SpeechSays : AC := (.seq (.reg 0) (.seq (.reg 1) (.seq (.reg 2) (.seq (.reg 3) (.seq (.seq (.reg 4) (.cond (.tmp 21) (.reg 5) .skip)) (.seq (.reg 6) .ret))))))
def S_wordhoardlaw_SpeechSays (a0 a1 : AV) (Q : AV → AH → Prop) (H : AH) : Prop := (
    Rg 2 fun b =>
    Al (b + 0) (.bx 24) [a1] fun v3 =>
    RdS Try.prog (.ld 3 true) [v3] fun v12 =>
    Ca Try.prog (.fn (.func 15) [] []) [a0, v12] fun v13 =>
    Pu Try.prog (.ext 0) [v13] fun v14 =>
    Pu Try.prog (.ext 1) [v13] fun v15 =>
    Pu Try.prog (.ext 2) [v13] fun v16 =>
    RdS Try.prog (.ld 3 true) [v3] fun v18 =>
    Ca Try.prog (.fn (.func 16) [] []) [a0, v18] fun v19 =>
    Pu Try.prog (.bin .eql 28) [v19, (.p (.int .i64 0))] fun v21 =>
    CdA v21
      (
      RdS Try.prog (.ld 3 true) [v3] fun v23 =>
      Ca Try.prog (.fn (.func 17) [] []) [a0, v23, (.p (.slice none 0 0))] fun v24 =>
      Ca Try.prog (.fn (.func 11) [] []) [] fun v25 =>
      Gd v25 true (fun k => k v16) fun v27 =>
      Gd v25 true (fun k_17 => k_17 v19) fun v28 =>
      Gd v25 true (fun k_19 => Pu Try.prog (.bin .eql 28) [v27, v28] k_19) fun v29 =>
      Pu Try.prog .pick [v25, v29, (.p (.bool false))] fun v30 =>
      Gd v30 true (fun k_22 => k_22 v15) fun v32 =>
      Gd v30 true (fun k_24 => k_24 v24) fun v33 =>
      Gd v30 true (fun k_26 => Pu Try.prog (.bin .neq 37) [v33, (.p (.slice none 0 0))] k_26) fun v34 =>
      Gd v30 true (fun k_28 => Pu Try.prog (.bin .eql 4) [v32, v34] k_28) fun v35 =>
      Pu Try.prog .pick [v30, v35, (.p (.bool false))] fun v36 =>
      Gd v36 true (fun k_31 => k_31 v14) fun v38 =>
      Gd v36 true (fun k_33 => k_33 v24) fun v39 =>
      Gd v36 true (fun k_35 => Ca Try.prog (.fn (.func 18) [] []) [v38, v39] k_35) fun v40 =>
      Pu Try.prog .pick [v36, v40, (.p (.bool false))] fun v41 =>
      Rt Try.prog H.nx v41 Q
      ) (
      Ca Try.prog (.fn (.func 11) [] []) [] fun v25_37 =>
      Gd v25_37 true (fun k_39 => k_39 v16) fun v27_38 =>
      Gd v25_37 true (fun k_41 => k_41 v19) fun v28_40 =>
      Gd v25_37 true (fun k_43 => Pu Try.prog (.bin .eql 28) [v27_38, v28_40] k_43) fun v29_42 =>
      Pu Try.prog .pick [v25_37, v29_42, (.p (.bool false))] fun v30_44 =>
      Gd v30_44 true (fun k_46 => k_46 v15) fun v32_45 =>
      Gd v30_44 true (fun k_48 => k_48 (.p (.slice none 0 0))) fun v33_47 =>
      Gd v30_44 true (fun k_50 => Pu Try.prog (.bin .neq 37) [v33_47, (.p (.slice none 0 0))] k_50) fun v34_49 =>
      Gd v30_44 true (fun k_52 => Pu Try.prog (.bin .eql 4) [v32_45, v34_49] k_52) fun v35_51 =>
      Pu Try.prog .pick [v30_44, v35_51, (.p (.bool false))] fun v36_53 =>
      Gd v36_53 true (fun k_55 => k_55 v14) fun v38_54 =>
      Gd v36_53 true (fun k_57 => k_57 (.p (.slice none 0 0))) fun v39_56 =>
      Gd v36_53 true (fun k_59 => Ca Try.prog (.fn (.func 18) [] []) [v38_54, v39_56] k_59) fun v40_58 =>
      Pu Try.prog .pick [v36_53, v40_58, (.p (.bool false))] fun v41_60 =>
      Rt Try.prog H.nx v41_60 Q
      )
    ) H
theorem eq_wordhoardlaw_SpeechSays (a0 a1 : AV) (Q : AV → AH → Prop) (H : AH) : FnA Try.prog 42 (regsF Try.f4) ac_wordhoardlaw_SpeechSays [.tm 4] [a0, a1] H Q = S_wordhoardlaw_SpeechSays a0 a1 Q H := by kernel_rfl
theorem tri_wordhoardlaw_SpeechSays {a0 a1 : AV} {H : AH} {Q : AV → AH → Prop} (h : S_wordhoardlaw_SpeechSays a0 a1 Q H) : Tri Try.prog 4 [a0, a1] H Q :=
  tri_of (Ms := [#[], #[], #[], #[], #[], #[], #[]]) mixed Try.func4 rfl (by kernel_rfl) (by kernel_rfl) rfl (of_decide_eq_true rfl : 2 ≤ 42) (by rw [eq_wordhoardlaw_SpeechSays a0 a1 Q H]; exact h : FnA Try.prog 42 (regsF Try.f4) ac_wordhoardlaw_SpeechSays [.tm 4] [a0, a1] H Q)

/-! wordhoard/wordhoardlaw.SpeechRight -/
def ac_wordhoardlaw_SpeechRight : AC := (.seq (.reg 0) (.seq (.reg 1) (.seq (.reg 2) (.seq (.seq (.reg 3) (.cond (.tmp 19) (.seq (.reg 4) .ret) .skip)) (.seq (.reg 5) .ret)))))
def S_wordhoardlaw_SpeechRight (a0 : AV) (Q : AV → AH → Prop) (H : AH) : Prop := (
    Rg 2 fun b =>
    Al (b + 0) (.bx 27) [a0] fun v1 =>
    RdS Try.prog (.ld 8 true) [v1] fun v7 =>
    Ca Try.prog (.fn (.func 26) [] []) [v7] fun v8 =>
    Pu Try.prog (.ext 0) [v8] fun v9 =>
    Pu Try.prog (.ext 1) [v8] fun v10 =>
    RdS Try.prog (.ld 8 true) [v1] fun v11 =>
    Ca Try.prog (.fn (.func 27) [] []) [v11] fun v12 =>
    Ca Try.prog (.fn (.func 11) [] []) [] fun v13 =>
    Pu Try.prog (.un .not) [v13] fun v14 =>
    Gd v14 false (fun k => k v10) fun v16 =>
    Gd v14 false (fun k_14 => k_14 v12) fun v17 =>
    Gd v14 false (fun k_16 => Pu Try.prog (.bin .neq 28) [v16, v17] k_16) fun v18 =>
    Pu Try.prog .pick [v14, (.p (.bool true)), v18] fun v19 =>
    CdA v19
      (
      Rt Try.prog H.nx (.p (.bool false)) Q
      ) (
      Pu Try.prog (.bin .eql 28) [v12, (.p (.int .i64 0))] fun v22 =>
      Gd v22 true (fun k_20 => RdS Try.prog (.ld 8 true) [v1] k_20) fun v24 =>
      Gd v22 true (fun k_22 => Ca Try.prog (.fn (.func 28) [] []) [v24] k_22) fun v25 =>
      Pu Try.prog .pick [v22, v25, (.p (.bool false))] fun v26 =>
      Pu Try.prog (.bin .eql 4) [v9, v26] fun v27 =>
      Rt Try.prog H.nx v27 Q
      )
    ) H
theorem eq_wordhoardlaw_SpeechRight (a0 : AV) (Q : AV → AH → Prop) (H : AH) : FnA Try.prog 28 (regsF Try.f6) ac_wordhoardlaw_SpeechRight [.tm 2] [a0] H Q = S_wordhoardlaw_SpeechRight a0 Q H := by kernel_rfl
theorem tri_wordhoardlaw_SpeechRight {a0 : AV} {H : AH} {Q : AV → AH → Prop} (h : S_wordhoardlaw_SpeechRight a0 Q H) : Tri Try.prog 6 [a0] H Q :=
  tri_of (Ms := [#[], #[], #[], #[], #[], #[]]) mixed Try.func6 rfl (by kernel_rfl) (by kernel_rfl) rfl (of_decide_eq_true rfl : 1 ≤ 28) (by rw [eq_wordhoardlaw_SpeechRight a0 Q H]; exact h : FnA Try.prog 28 (regsF Try.f6) ac_wordhoardlaw_SpeechRight [.tm 2] [a0] H Q)

/-! wordhoard/wordhoardlaw.SpeechCutless -/
def ac_wordhoardlaw_SpeechCutless : AC := (.seq (.reg 0) (.seq (.reg 1) (.seq (.reg 2) (.cut [5] [(13, 20)] (.seq (.reg 3) (.cond (.tmp 19) (.reg 4) .skip)) (.cut [5] [(20, 27)] (.seq (.reg 5) (.cond (.tmp 21) (.reg 6) .skip)) (.seq (.seq (.reg 7) (.cond (.tmp 33) (.seq (.reg 8) .ret) .skip)) (.seq (.seq (.reg 9) (.cond (.tmp 35) (.seq (.reg 10) .ret) .skip)) (.seq (.reg 11) .ret))))))))
def S_wordhoardlaw_SpeechCutless_K1 (Q : AV → AH → Prop) (H : AH) (v1 : AV) (v10 : AV) (v3 : AV) (vs_15 : List AV) : AH → Prop :=
  Ca Try.prog (.fn (.func 11) [] []) [] fun v27 =>
  Pu Try.prog (.un .not) [v27] fun v28 =>
  Gd v28 false (fun k_19 => k_19 v10) fun v30 =>
  Gd v28 false (fun k_21 => k_21 (vs_15.getD 0 .any)) fun v31 =>
  Gd v28 false (fun k_23 => Pu Try.prog (.bin .neq 28) [v30, v31] k_23) fun v32 =>
  Pu Try.prog .pick [v28, (.p (.bool true)), v32] fun v33 =>
  CdA v33
    (
    Rt Try.prog H.nx (.p (.bool false)) Q
    ) (
    Pu Try.prog (.bin .neq 28) [(vs_15.getD 0 .any), (.p (.int .i64 0))] fun v35 =>
    CdA v35
      (
      RdS Try.prog (.ld 8 true) [v3] fun v36 =>
      Ca Try.prog (.fn (.func 13) [] []) [v36] fun v37 =>
      Rt Try.prog H.nx v37 Q
      ) (
      RdS Try.prog (.ld 8 true) [v3] fun v38 =>
      Pu Try.prog (.addOff 1) [v1] fun v39 =>
      RdS Try.prog (.ld 1 false) [v39] fun v40 =>
      Pu Try.prog (.addOff 2) [v1] fun v41 =>
      RdS Try.prog (.ld 3 true) [v41] fun v42 =>
      Ca Try.prog (.fn (.func 14) [] []) [v38, v40, v42] fun v43 =>
      Rt Try.prog H.nx v43 Q
      )
    )
def S_wordhoardlaw_SpeechCutless_K2 (Q : AV → AH → Prop) (H : AH) (v1 : AV) (v10 : AV) (v3 : AV) (vs : List AV) : AH → Prop :=
  CutA Try.prog 1 (fun k_14 =>
    Pu Try.prog (.bin .eql 28) [(vs.getD 0 .any), (.p (.int .i64 0))] fun v21 =>
    CdA v21
      (
      Pu Try.prog (.addOff 1) [v1] fun v22 =>
      RdS Try.prog (.ld 1 false) [v22] fun v23 =>
      Pu Try.prog (.addOff 2) [v1] fun v24 =>
      RdS Try.prog (.ld 3 true) [v24] fun v25 =>
      Ca Try.prog (.fn (.func 10) [] []) [v23, v25] fun v26 =>
      k_14 [v26]
      ) (
      k_14 [(vs.getD 0 .any)]
      )
    ) (S_wordhoardlaw_SpeechCutless_K1 Q H v1 v10 v3)
def S_wordhoardlaw_SpeechCutless (a0 : AV) (Q : AV → AH → Prop) (H : AH) : Prop := (
    Rg 2 fun b =>
    Al (b + 0) (.bx 27) [a0] fun v1 =>
    Rg 8 fun b_3 =>
    RdS Try.prog (.ld 8 true) [v1] fun v7 =>
    Ca Try.prog (.fn (.func 29) [] []) [v7] fun v8 =>
    Pu Try.prog (.ext 0) [v8] fun v9 =>
    Pu Try.prog (.ext 1) [v8] fun v10 =>
    Al (b_3 + 5) (.nw 27 [.p (.int .i64 0), .p (.slice none 0 0), .p (.int .i64 0), .p (.int .i64 0), .p (.slice none 0 0), .p (.int .i64 0), .p (.int .i64 0), .p (.slice none 0 0)]) [] fun v3 =>
    WrS Try.prog (b_3 + 6) (.st 8) [v3, v9] fun _ =>
    RdS Try.prog (.ld 8 true) [v1] fun v11 =>
    Ca Try.prog (.fn (.func 27) [] []) [v11] fun v12 =>
    CutA Try.prog 1 (fun k =>
      Pu Try.prog (.bin .eql 28) [v12, (.p (.int .i64 0))] fun v14 =>
      Gd v14 true (fun k_42 => RdS Try.prog (.ld 8 true) [v1] k_42) fun v16 =>
      Gd v14 true (fun k_44 => Ca Try.prog (.fn (.func 28) [] []) [v16] k_44) fun v17 =>
      Gd v14 true (fun k_46 => Pu Try.prog (.un .not) [v17] k_46) fun v18 =>
      Pu Try.prog .pick [v14, v18, (.p (.bool false))] fun v19 =>
      CdA v19
        (
        k [(.p (.int .i64 1))]
        ) (
        k [v12]
        )
      ) (S_wordhoardlaw_SpeechCutless_K2 Q H v1 v10 v3)
    ) H
theorem eq_wordhoardlaw_SpeechCutless (a0 : AV) (Q : AV → AH → Prop) (H : AH) : FnA Try.prog 44 (regsF Try.f7) ac_wordhoardlaw_SpeechCutless [.tm 2] [a0] H Q = S_wordhoardlaw_SpeechCutless a0 Q H := by kernel_rfl
theorem tri_wordhoardlaw_SpeechCutless {a0 : AV} {H : AH} {Q : AV → AH → Prop} (h : S_wordhoardlaw_SpeechCutless a0 Q H) : Tri Try.prog 7 [a0] H Q :=
  tri_of (Ms := [#[], #[], #[], #[], #[], #[], #[], #[], #[], #[], #[], #[]]) mixed Try.func7 rfl (by kernel_rfl) (by kernel_rfl) rfl (of_decide_eq_true rfl : 1 ≤ 44) (by rw [eq_wordhoardlaw_SpeechCutless a0 Q H]; exact h : FnA Try.prog 44 (regsF Try.f7) ac_wordhoardlaw_SpeechCutless [.tm 2] [a0] H Q)

/-! wordhoard/wordhoardlaw.SpeechLambek -/
def ac_wordhoardlaw_SpeechLambek : AC := (.seq (.reg 0) (.seq (.seq (.reg 1) (.cond (.tmp 28) (.seq (.reg 2) .ret) .skip)) (.seq (.reg 3) (.seq (.reg 4) (.seq (.seq (.reg 5) (.cond (.tmp 60) (.seq (.reg 6) .ret) .skip)) (.seq (.reg 7) (.cut [] [(10, 11), (18, 21), (68, 105)] (.seq (.reg 8) (.cond (.tmp 79) (.seq (.reg 9) (.seq (.reg 10) (.cond (.tmp 104) (.seq (.reg 11) .ret) .skip))) .skip)) (.seq (.seq (.reg 12) (.cond (.tmp 107) (.seq (.reg 13) .ret) .skip)) (.seq (.reg 14) (.seq (.reg 15) (.seq (.seq (.reg 16) (.cond (.tmp 139) (.seq (.reg 17) .ret) .skip)) (.seq (.reg 18) (.seq (.reg 19) (.seq (.seq (.reg 20) (.cond (.tmp 169) (.seq (.reg 21) .ret) .skip)) (.seq (.seq (.reg 22) (.cond (.tmp 172) (.seq (.reg 23) .ret) .skip)) (.seq (.reg 24) (.seq (.reg 25) (.seq (.reg 26) .ret))))))))))))))))))
def S_wordhoardlaw_SpeechLambek_C1 (Q : AV → AH → Prop) (H : AH) (v21 : AV) : AH → Prop :=
  RdS Try.prog (.ld 8 true) [v21] fun v174 =>
  Ca Try.prog (.fn (.func 26) [] []) [v174] fun v175 =>
  Pu Try.prog (.ext 0) [v175] fun v176 =>
  Pu Try.prog (.ext 1) [v175] fun v177 =>
  Rg 8 fun b_125 =>
  RdS Try.prog (.ld 8 true) [v21] fun v179 =>
  Ca Try.prog (.fn (.func 29) [] []) [v179] fun v180 =>
  Pu Try.prog (.ext 0) [v180] fun v181 =>
  Pu Try.prog (.ext 1) [v180] fun v182 =>
  Al (b_125 + 5) (.nw 27 [.p (.int .i64 0), .p (.slice none 0 0), .p (.int .i64 0), .p (.int .i64 0), .p (.slice none 0 0), .p (.int .i64 0), .p (.int .i64 0), .p (.slice none 0 0)]) [] fun v26 =>
  WrS Try.prog (b_125 + 6) (.st 8) [v26, v181] fun _ =>
  Pu Try.prog (.bin .eql 28) [v177, (.p (.int .i64 0))] fun v184 =>
  Gd v184 true (fun k_134 => k_134 v176) fun v186 =>
  Pu Try.prog .pick [v184, v186, (.p (.bool false))] fun v187 =>
  Gd v187 true (fun k_137 => k_137 v182) fun v189 =>
  Gd v187 true (fun k_139 => Pu Try.prog (.bin .eql 28) [v189, (.p (.int .i64 0))] k_139) fun v190 =>
  Pu Try.prog .pick [v187, v190, (.p (.bool false))] fun v191 =>
  Gd v191 true (fun k_142 => Pu Try.prog (.addOff 0) [v26] k_142) fun v193 =>
  Gd v191 true (fun k_144 => RdS Try.prog (.ld 1 false) [v193] k_144) fun v194 =>
  Gd v191 true (fun k_146 => Pu Try.prog (.bin .neq 3) [v194, (.p (.int .i64 0))] k_146) fun v195 =>
  Pu Try.prog .pick [v191, v195, (.p (.bool false))] fun v196 =>
  Rt Try.prog H.nx v196 Q
def S_wordhoardlaw_SpeechLambek_C2 (a1 : AV) (Q : AV → AH → Prop) (H : AH) (v8 : AV) (v9 : AV) (v21 : AV) : AH → Prop :=
  RdS Try.prog (.ld 3 true) [v8] fun v142 =>
  RdS Try.prog (.ld 3 true) [v9] fun v143 =>
  Ca Try.prog (.fn (.func 32) [] []) [v142, v143] fun v144 =>
  Ca Try.prog (.fn (.func 9) [] []) [a1, v144] fun v145 =>
  Pu Try.prog (.ext 0) [v145] fun _ =>
  Pu Try.prog (.ext 1) [v145] fun v147 =>
  Pu Try.prog (.ext 2) [v145] fun v148 =>
  Rg 12 fun b_95 =>
  Vw fun V_96 =>
  Rd Try.prog V_96 (.ld 3 true) [v8] fun v150 =>
  Al (b_95 + 1) (.bs 24 3 1 [.p (.int .i64 0), .p (.int .i64 0), .p (.slice none 0 0)] [(0, 3)]) [v150] fun v151 =>
  WrF V_96 (some (b_95 + 1)) none (b_95 + 3) (.app 24 3 40) [v151, a1] fun v153 =>
  Rd Try.prog V_96 (.ld 3 true) [v9] fun v154 =>
  CaN Try.prog V_96 [(b_95 + 3)] (.fn (.func 9) [] []) [v153, v154] fun v155 =>
  Pu Try.prog (.ext 0) [v155] fun _ =>
  Pu Try.prog (.ext 1) [v155] fun v157 =>
  Pu Try.prog (.ext 2) [v155] fun v158 =>
  Pu Try.prog (.bin .eql 28) [v148, (.p (.int .i64 0))] fun v160 =>
  Gd v160 true (fun k_107 => k_107 v158) fun v162 =>
  Gd v160 true (fun k_109 => Pu Try.prog (.bin .eql 28) [v162, (.p (.int .i64 0))] k_109) fun v163 =>
  Pu Try.prog .pick [v160, v163, (.p (.bool false))] fun v164 =>
  Gd v164 true (fun k_112 => k_112 v147) fun v166 =>
  Gd v164 true (fun k_114 => k_114 v157) fun v167 =>
  Gd v164 true (fun k_116 => Pu Try.prog (.bin .neq 4) [v166, v167] k_116) fun v168 =>
  Pu Try.prog .pick [v164, v168, (.p (.bool false))] fun v169 =>
  CdA v169
    (
    Rt Try.prog H.nx (.p (.bool false)) Q
    ) (
    Pu Try.prog (.addOff 0) [v21] fun v170 =>
    RdS Try.prog (.ld 1 false) [v170] fun v171 =>
    Pu Try.prog (.bin .eql 3) [v171, (.p (.int .i64 0))] fun v172 =>
    CdA v172
      (
      Rt Try.prog H.nx (.p (.bool true)) Q
      ) (S_wordhoardlaw_SpeechLambek_C1 Q H v21)
    )
def S_wordhoardlaw_SpeechLambek_C3 (a1 : AV) (Q : AV → AH → Prop) (H : AH) (v8 : AV) (v9 : AV) : AH → Prop :=
  Rg 13 fun b_51 =>
  RdS Try.prog (.ld 3 true) [v9] fun v110 =>
  RdS Try.prog (.ld 3 true) [v8] fun v111 =>
  Ca Try.prog (.fn (.func 31) [] []) [v110, v111] fun v112 =>
  Ca Try.prog (.fn (.func 9) [] []) [a1, v112] fun v113 =>
  Pu Try.prog (.ext 0) [v113] fun v114 =>
  Pu Try.prog (.ext 1) [v113] fun v115 =>
  Pu Try.prog (.ext 2) [v113] fun v116 =>
  Al (b_51 + 9) (.nw 27 [.p (.int .i64 0), .p (.slice none 0 0), .p (.int .i64 0), .p (.int .i64 0), .p (.slice none 0 0), .p (.int .i64 0), .p (.int .i64 0), .p (.slice none 0 0)]) [] fun v21 =>
  WrS Try.prog (b_51 + 10) (.st 8) [v21, v114] fun _ =>
  Rg 16 fun b_61 =>
  Vw fun V_62 =>
  Al (b_61 + 0) (.bs 24 3 0 [.p (.int .i64 0), .p (.int .i64 0), .p (.slice none 0 0)] []) [] fun v118 =>
  WrF V_62 (some (b_61 + 0)) none (b_61 + 2) (.app 24 3 40) [v118, a1] fun v120 =>
  Rd Try.prog V_62 (.ld 3 true) [v8] fun v121 =>
  Al (b_61 + 4) (.bs 24 3 1 [.p (.int .i64 0), .p (.int .i64 0), .p (.slice none 0 0)] [(0, 3)]) [v121] fun v122 =>
  WrF V_62 (some (b_61 + 2)) (some (b_61 + 4)) (b_61 + 5) (.app 24 3 40) [v120, v122] fun v123 =>
  Rd Try.prog V_62 (.ld 3 true) [v9] fun v124 =>
  CaN Try.prog V_62 [(b_61 + 5)] (.fn (.func 9) [] []) [v123, v124] fun v125 =>
  Pu Try.prog (.ext 0) [v125] fun v126 =>
  Pu Try.prog (.ext 1) [v125] fun v127 =>
  Pu Try.prog (.ext 2) [v125] fun v128 =>
  Al (b_61 + 12) (.nw 27 [.p (.int .i64 0), .p (.slice none 0 0), .p (.int .i64 0), .p (.int .i64 0), .p (.slice none 0 0), .p (.int .i64 0), .p (.int .i64 0), .p (.slice none 0 0)]) [] fun v23 =>
  WrF V_62 (some (b_61 + 12)) none (b_61 + 13) (.st 8) [v23, v126] fun _ =>
  Pu Try.prog (.bin .eql 28) [v116, (.p (.int .i64 0))] fun v130 =>
  Gd v130 true (fun k_77 => k_77 v128) fun v132 =>
  Gd v130 true (fun k_79 => Pu Try.prog (.bin .eql 28) [v132, (.p (.int .i64 0))] k_79) fun v133 =>
  Pu Try.prog .pick [v130, v133, (.p (.bool false))] fun v134 =>
  Gd v134 true (fun k_82 => k_82 v115) fun v136 =>
  Gd v134 true (fun k_84 => k_84 v127) fun v137 =>
  Gd v134 true (fun k_86 => Pu Try.prog (.bin .neq 4) [v136, v137] k_86) fun v138 =>
  Pu Try.prog .pick [v134, v138, (.p (.bool false))] fun v139 =>
  CdA v139
    (
    Rt Try.prog H.nx (.p (.bool false)) Q
    ) (S_wordhoardlaw_SpeechLambek_C2 a1 Q H v8 v9 v21)
def S_wordhoardlaw_SpeechLambek_K4 (a1 : AV) (Q : AV → AH → Prop) (H : AH) (v8 : AV) (v9 : AV) (_vs : List AV) : AH → Prop :=
  Pu Try.prog .len [a1] fun v106 =>
  Pu Try.prog (.bin .eql 3) [v106, (.p (.int .i64 0))] fun v107 =>
  CdA v107
    (
    Rt Try.prog H.nx (.p (.bool true)) Q
    ) (S_wordhoardlaw_SpeechLambek_C3 a1 Q H v8 v9)
def S_wordhoardlaw_SpeechLambek_C5 (Q : AV → AH → Prop) (H : AH) (v9 : AV) (v67 : AV) (k_47 : List AV → AH → Prop) : AH → Prop :=
  Rg 11 fun b_160 =>
  RdS Try.prog (.ld 3 true) [v9] fun v82 =>
  Ca Try.prog (.fn (.func 9) [] []) [v67, v82] fun v83 =>
  Pu Try.prog (.ext 0) [v83] fun v84 =>
  Pu Try.prog (.ext 1) [v83] fun v85 =>
  Pu Try.prog (.ext 2) [v83] fun v86 =>
  Al (b_160 + 7) (.nw 27 [.p (.int .i64 0), .p (.slice none 0 0), .p (.int .i64 0), .p (.int .i64 0), .p (.slice none 0 0), .p (.int .i64 0), .p (.int .i64 0), .p (.slice none 0 0)]) [] fun v18 =>
  WrS Try.prog (b_160 + 8) (.st 8) [v18, v84] fun _ =>
  Pu Try.prog (.bin .eql 28) [v86, (.p (.int .i64 0))] fun v88 =>
  Gd v88 true (fun k_170 => k_170 v85) fun v90 =>
  Gd v88 true (fun k_172 => Pu Try.prog (.un .not) [v90] k_172) fun v91 =>
  Pu Try.prog .pick [v88, v91, (.p (.bool false))] fun v92 =>
  Gd v92 false (fun k_175 => k_175 v86) fun v94 =>
  Gd v92 false (fun k_177 => Pu Try.prog (.bin .neq 28) [v94, (.p (.int .i64 0))] k_177) fun v95 =>
  Gd v92 false (fun k_179 => k_179 v95) fun v96 =>
  Gd v96 true (fun k_181 => k_181 v86) fun v97 =>
  Gd v96 true (fun k_183 => Pu Try.prog (.bin .neq 28) [v97, (.p (.int .i64 7))] k_183) fun v98 =>
  Gd v92 false (fun k_185 => Pu Try.prog .pick [v96, v98, (.p (.bool false))] k_185) fun v99 =>
  Gd v92 false (fun k_187 => k_187 v99) fun v100 =>
  Gd v100 true (fun k_189 => k_189 v86) fun v101 =>
  Gd v100 true (fun k_191 => Pu Try.prog (.bin .neq 28) [v101, (.p (.int .i64 2))] k_191) fun v102 =>
  Gd v92 false (fun k_193 => Pu Try.prog .pick [v100, v102, (.p (.bool false))] k_193) fun v103 =>
  Pu Try.prog .pick [v92, (.p (.bool true)), v103] fun v104 =>
  CdA v104
    (
    Rt Try.prog H.nx (.p (.bool false)) Q
    ) (
    k_47 []
    )
def S_wordhoardlaw_SpeechLambek_C6 (a0 : AV) (a1 : AV) (a2 : AV) (Q : AV → AH → Prop) (H : AH) (v8 : AV) (v9 : AV) : AH → Prop :=
  Rg 11 fun b_6 =>
  RdS Try.prog (.ld 3 true) [v8] fun v31 =>
  Ca Try.prog (.fn (.func 9) [] []) [a1, v31] fun v32 =>
  Pu Try.prog (.ext 0) [v32] fun v33 =>
  Pu Try.prog (.ext 1) [v32] fun v34 =>
  Pu Try.prog (.ext 2) [v32] fun v35 =>
  Al (b_6 + 7) (.nw 27 [.p (.int .i64 0), .p (.slice none 0 0), .p (.int .i64 0), .p (.int .i64 0), .p (.slice none 0 0), .p (.int .i64 0), .p (.int .i64 0), .p (.slice none 0 0)]) [] fun v11 =>
  WrS Try.prog (b_6 + 8) (.st 8) [v11, v33] fun _ =>
  Rg 18 fun b_14 =>
  Vw fun V =>
  Al (b_14 + 0) (.bs 24 3 0 [.p (.int .i64 0), .p (.int .i64 0), .p (.slice none 0 0)] []) [] fun v37 =>
  WrF V (some (b_14 + 0)) none (b_14 + 2) (.app 24 3 40) [v37, a0] fun v39 =>
  Rd Try.prog V (.ld 3 true) [v8] fun v40 =>
  Al (b_14 + 4) (.bs 24 3 1 [.p (.int .i64 0), .p (.int .i64 0), .p (.slice none 0 0)] [(0, 3)]) [v40] fun v41 =>
  WrF V (some (b_14 + 2)) (some (b_14 + 4)) (b_14 + 5) (.app 24 3 40) [v39, v41] fun v42 =>
  WrF V (some (b_14 + 5)) none (b_14 + 7) (.app 24 3 40) [v42, a2] fun v44 =>
  Rd Try.prog V (.ld 3 true) [v9] fun v45 =>
  CaN Try.prog V [(b_14 + 7)] (.fn (.func 9) [] []) [v44, v45] fun v46 =>
  Pu Try.prog (.ext 0) [v46] fun v47 =>
  Pu Try.prog (.ext 1) [v46] fun v48 =>
  Pu Try.prog (.ext 2) [v46] fun v49 =>
  Al (b_14 + 14) (.nw 27 [.p (.int .i64 0), .p (.slice none 0 0), .p (.int .i64 0), .p (.int .i64 0), .p (.slice none 0 0), .p (.int .i64 0), .p (.int .i64 0), .p (.slice none 0 0)]) [] fun v14 =>
  WrF V (some (b_14 + 14)) none (b_14 + 15) (.st 8) [v14, v47] fun _ =>
  Pu Try.prog (.bin .eql 28) [v35, (.p (.int .i64 0))] fun v51 =>
  Gd v51 true (fun k => k v34) fun v53 =>
  Pu Try.prog .pick [v51, v53, (.p (.bool false))] fun v54 =>
  Gd v54 true (fun k_34 => k_34 a1) fun v56 =>
  Gd v54 true (fun k_36 => RdS Try.prog (.ld 3 true) [v8] k_36) fun v57 =>
  Gd v54 true (fun k_38 => Ca Try.prog (.fn (.func 30) [] []) [v56, v57] k_38) fun v58 =>
  Gd v54 true (fun k_40 => Pu Try.prog (.un .not) [v58] k_40) fun v59 =>
  Pu Try.prog .pick [v54, v59, (.p (.bool false))] fun v60 =>
  CdA v60
    (
    Rt Try.prog H.nx (.p (.bool false)) Q
    ) (
    Rg 8 fun b_42 =>
    Al (b_42 + 0) (.bs 24 3 0 [.p (.int .i64 0), .p (.int .i64 0), .p (.slice none 0 0)] []) [] fun v61 =>
    WrS Try.prog (b_42 + 2) (.app 24 3 40) [v61, a0] fun v63 =>
    WrS Try.prog (b_42 + 4) (.app 24 3 40) [v63, a1] fun v65 =>
    WrS Try.prog (b_42 + 6) (.app 24 3 40) [v65, a2] fun v67 =>
    CutA Try.prog 0 (fun k_47 =>
      Pu Try.prog (.bin .eql 28) [v35, (.p (.int .i64 0))] fun v69 =>
      Gd v69 true (fun k_150 => k_150 v49) fun v71 =>
      Gd v69 true (fun k_152 => Pu Try.prog (.bin .eql 28) [v71, (.p (.int .i64 0))] k_152) fun v72 =>
      Pu Try.prog .pick [v69, v72, (.p (.bool false))] fun v73 =>
      Gd v73 true (fun k_155 => k_155 v34) fun v75 =>
      Pu Try.prog .pick [v73, v75, (.p (.bool false))] fun v76 =>
      Gd v76 true (fun k_158 => k_158 v48) fun v78 =>
      Pu Try.prog .pick [v76, v78, (.p (.bool false))] fun v79 =>
      CdA v79
        (S_wordhoardlaw_SpeechLambek_C5 Q H v9 v67 k_47) (
        k_47 []
        )
      ) (S_wordhoardlaw_SpeechLambek_K4 a1 Q H v8 v9)
    )
def S_wordhoardlaw_SpeechLambek (a0 a1 a2 a3 a4 : AV) (Q : AV → AH → Prop) (H : AH) : Prop := (
    Rg 3 fun b =>
    Al (b + 0) (.bx 24) [a3] fun v8 =>
    Al (b + 1) (.bx 24) [a4] fun v9 =>
    Ca Try.prog (.fn (.func 11) [] []) [] fun v27 =>
    Pu Try.prog (.un .not) [v27] fun v28 =>
    CdA v28
      (
      Rt Try.prog H.nx (.p (.bool false)) Q
      ) (S_wordhoardlaw_SpeechLambek_C6 a0 a1 a2 Q H v8 v9)
    ) H
theorem eq_wordhoardlaw_SpeechLambek (a0 a1 a2 a3 a4 : AV) (Q : AV → AH → Prop) (H : AH) : FnA Try.prog 197 (regsF Try.f8) ac_wordhoardlaw_SpeechLambek [.tm 10] [a0, a1, a2, a3, a4] H Q = S_wordhoardlaw_SpeechLambek a0 a1 a2 a3 a4 Q H := by kernel_rfl
theorem tri_wordhoardlaw_SpeechLambek {a0 a1 a2 a3 a4 : AV} {H : AH} {Q : AV → AH → Prop} (h : S_wordhoardlaw_SpeechLambek a0 a1 a2 a3 a4 Q H) : Tri Try.prog 8 [a0, a1, a2, a3, a4] H Q :=
  tri_of (Ms := [#[], #[], #[], #[], #[0, 0, 3, 0, 8, 31, 0, 127, 0, 511, 1023, 2047, 2047, 2047, 0, 20479, 57343, 131071], #[], #[], #[], #[], #[], #[], #[], #[], #[], #[], #[0, 0, 3, 0, 8, 31, 0, 127, 255, 511, 511, 511, 0, 5119, 14335, 32767], #[], #[], #[], #[0, 1, 0, 7, 0, 31, 63, 127, 127, 127, 511, 2047], #[], #[], #[], #[], #[], #[], #[]]) mixed Try.func8 rfl (by kernel_rfl) (by kernel_rfl) rfl (of_decide_eq_true rfl : 5 ≤ 197) (by rw [eq_wordhoardlaw_SpeechLambek a0 a1 a2 a3 a4 Q H]; exact h : FnA Try.prog 197 (regsF Try.f8) ac_wordhoardlaw_SpeechLambek [.tm 10] [a0, a1, a2, a3, a4] H Q)

/-! wordhoard/wordhoardlaw.asksRight -/
def ac_wordhoardlaw_asksRight : AC := (.seq (.reg 0) (.seq (.reg 1) (.seq (.seq (.reg 2) (.cond (.tmp 15) (.seq (.reg 3) .ret) .skip)) (.seq (.reg 4) .ret))))
def S_wordhoardlaw_asksRight (a0 : AV) (Q : AV → AH → Prop) (H : AH) : Prop := (
    Rg 2 fun b =>
    Al (b + 0) (.bx 27) [a0] fun v1 =>
    RdS Try.prog (.ld 8 true) [v1] fun v6 =>
    Ca Try.prog (.fn (.func 39) [] []) [v6, (.p (.int .i64 200))] fun v7 =>
    Pu Try.prog (.ext 0) [v7] fun v8 =>
    Pu Try.prog (.ext 1) [v7] fun v9 =>
    Pu Try.prog (.bin .gtr 3) [v8, (.p (.int .i64 200))] fun v11 =>
    Gd v11 false (fun k => k v9) fun v13 =>
    Gd v11 false (fun k_11 => Pu Try.prog (.bin .gtr 3) [v13, (.p (.int .i64 20))] k_11) fun v14 =>
    Pu Try.prog .pick [v11, (.p (.bool true)), v14] fun v15 =>
    CdA v15
      (
      Rt Try.prog H.nx (.p (.int .i64 7)) Q
      ) (
      RdS Try.prog (.ld 8 true) [v1] fun v16 =>
      Ca Try.prog (.fn (.func 40) [] []) [v16] fun v17 =>
      Rt Try.prog H.nx v17 Q
      )
    ) H
theorem eq_wordhoardlaw_asksRight (a0 : AV) (Q : AV → AH → Prop) (H : AH) : FnA Try.prog 18 (regsF Try.f27) ac_wordhoardlaw_asksRight [.tm 2] [a0] H Q = S_wordhoardlaw_asksRight a0 Q H := by kernel_rfl
theorem tri_wordhoardlaw_asksRight {a0 : AV} {H : AH} {Q : AV → AH → Prop} (h : S_wordhoardlaw_asksRight a0 Q H) : Tri Try.prog 27 [a0] H Q :=
  tri_of (Ms := [#[], #[], #[], #[], #[]]) mixed Try.func27 rfl (by kernel_rfl) (by kernel_rfl) rfl (of_decide_eq_true rfl : 1 ≤ 18) (by rw [eq_wordhoardlaw_asksRight a0 Q H]; exact h : FnA Try.prog 18 (regsF Try.f27) ac_wordhoardlaw_asksRight [.tm 2] [a0] H Q)

/-! slices.ContainsFunc[[][]wordhoard/api.Part,[]wordhoard/api.Part] -/
def ac_slices_ContainsFunc_s_s_api_Part_s_api_Part : AC := (.seq (.reg 0) (.seq (.reg 1) .ret))
def S_slices_ContainsFunc_s_s_api_Part_s_api_Part (a0 a1 : AV) (Q : AV → AH → Prop) (H : AH) : Prop := (
    Ca Try.prog (.fn (.func 67) [] []) [a0, a1] fun v7 =>
    Pu Try.prog (.bin .geq 3) [v7, (.p (.int .i64 0))] fun v8 =>
    Rt Try.prog H.nx v8 Q
    ) H
theorem eq_slices_ContainsFunc_s_s_api_Part_s_api_Part (a0 a1 : AV) (Q : AV → AH → Prop) (H : AH) : FnA Try.prog 9 (regsF Try.f43) ac_slices_ContainsFunc_s_s_api_Part_s_api_Part [.tm 4] [a0, a1] H Q = S_slices_ContainsFunc_s_s_api_Part_s_api_Part a0 a1 Q H := by kernel_rfl
theorem tri_slices_ContainsFunc_s_s_api_Part_s_api_Part {a0 a1 : AV} {H : AH} {Q : AV → AH → Prop} (h : S_slices_ContainsFunc_s_s_api_Part_s_api_Part a0 a1 Q H) : Tri Try.prog 43 [a0, a1] H Q :=
  tri_of (Ms := [#[], #[]]) mixed Try.func43 rfl (by kernel_rfl) (by kernel_rfl) rfl (of_decide_eq_true rfl : 2 ≤ 9) (by rw [eq_slices_ContainsFunc_s_s_api_Part_s_api_Part a0 a1 Q H]; exact h : FnA Try.prog 9 (regsF Try.f43) ac_slices_ContainsFunc_s_s_api_Part_s_api_Part [.tm 4] [a0, a1] H Q)

/-! slices.Clone[[]int,int] -/
def ac_slices_Clone_s_int_int : AC := (.seq (.reg 0) (.seq (.seq (.reg 1) (.cond (.tmp 4) (.seq (.reg 2) .ret) .skip)) (.seq (.reg 3) .ret)))
def S_slices_Clone_s_int_int (a0 : AV) (Q : AV → AH → Prop) (H : AH) : Prop := (
    Pu Try.prog (.bin .eql 37) [a0, (.p (.slice none 0 0))] fun v4 =>
    CdA v4
      (
      Rt Try.prog H.nx (.p (.slice none 0 0)) Q
      ) (
      Rg 4 fun b =>
      Al (b + 0) (.bs 3 1 0 [.p (.int .i64 0)] []) [] fun v5 =>
      WrS Try.prog (b + 2) (.app 3 1 8) [v5, a0] fun v7 =>
      Rt Try.prog H.nx v7 Q
      )
    ) H
theorem eq_slices_Clone_s_int_int (a0 : AV) (Q : AV → AH → Prop) (H : AH) : FnA Try.prog 8 (regsF Try.f48) ac_slices_Clone_s_int_int [.tm 2] [a0] H Q = S_slices_Clone_s_int_int a0 Q H := by kernel_rfl
theorem tri_slices_Clone_s_int_int {a0 : AV} {H : AH} {Q : AV → AH → Prop} (h : S_slices_Clone_s_int_int a0 Q H) : Tri Try.prog 48 [a0] H Q :=
  tri_of (Ms := [#[], #[], #[], #[]]) mixed Try.func48 rfl (by kernel_rfl) (by kernel_rfl) rfl (of_decide_eq_true rfl : 1 ≤ 8) (by rw [eq_slices_Clone_s_int_int a0 Q H]; exact h : FnA Try.prog 8 (regsF Try.f48) ac_slices_Clone_s_int_int [.tm 2] [a0] H Q)

/-! slices.IndexFunc[[][]wordhoard/api.Part,[]wordhoard/api.Part] -/
def ac_slices_IndexFunc_s_s_api_Part_s_api_Part : AC := (.seq (.reg 0) (.seq (.seq (.reg 1) (.block 0 (.loop [8] [(4, 6), (9, 19)] (.seq (.reg 2) (.seq (.cond (.tmp 9) .skip (.exit 0)) (.seq (.block 1 (.seq (.reg 3) (.seq (.reg 4) (.cond (.tmp 16) (.seq (.reg 5) .ret) .skip)))) (.reg 6))))))) (.seq (.reg 7) .ret)))
def S_slices_IndexFunc_s_s_api_Part_s_api_Part_L1 (a0 : AV) (a1 : AV) (Q : AV → AH → Prop) (H : AH) (v7 : AV) (vs : List AV) (k : List AV → AH → Prop) : AH → Prop :=
  Pu Try.prog (.bin .lss 3) [(vs.getD 0 .any), v7] fun v9 =>
  CdA v9
    (
    Pu Try.prog (.idx 1) [a0, (vs.getD 0 .any)] fun v14 =>
    RdS Try.prog (.ld 1 false) [v14] fun v15 =>
    Ca Try.prog a1 [v15] fun v16 =>
    CdA v16
      (
      Rt Try.prog H.nx (vs.getD 0 .any) Q
      ) (
      Pu Try.prog (.bin .add 3) [(vs.getD 0 .any), (.p (.int .i64 1))] fun v18 =>
      k [v18]
      )
    ) (
    Rt Try.prog H.nx (.p (.int .i64 (-1))) Q
    )
def S_slices_IndexFunc_s_s_api_Part_s_api_Part (a0 a1 : AV) (Q : AV → AH → Prop) (H : AH) : Prop := (
    Pu Try.prog .len [a0] fun v7 =>
    LoopA Try.prog 1 (S_slices_IndexFunc_s_s_api_Part_s_api_Part_L1 a0 a1 Q H v7) [(.p (.int .i64 0))]
    ) H
theorem eq_slices_IndexFunc_s_s_api_Part_s_api_Part (a0 a1 : AV) (Q : AV → AH → Prop) (H : AH) : FnA Try.prog 19 (regsF Try.f67) ac_slices_IndexFunc_s_s_api_Part_s_api_Part [.tm 4] [a0, a1] H Q = S_slices_IndexFunc_s_s_api_Part_s_api_Part a0 a1 Q H := by kernel_rfl
theorem tri_slices_IndexFunc_s_s_api_Part_s_api_Part {a0 a1 : AV} {H : AH} {Q : AV → AH → Prop} (h : S_slices_IndexFunc_s_s_api_Part_s_api_Part a0 a1 Q H) : Tri Try.prog 67 [a0, a1] H Q :=
  tri_of (Ms := [#[], #[], #[], #[], #[], #[], #[], #[]]) mixed Try.func67 rfl (by kernel_rfl) (by kernel_rfl) rfl (of_decide_eq_true rfl : 2 ≤ 19) (by rw [eq_slices_IndexFunc_s_s_api_Part_s_api_Part a0 a1 Q H]; exact h : FnA Try.prog 19 (regsF Try.f67) ac_slices_IndexFunc_s_s_api_Part_s_api_Part [.tm 4] [a0, a1] H Q)
end Go.Proofs.Ytpmnlikgldacaaa
