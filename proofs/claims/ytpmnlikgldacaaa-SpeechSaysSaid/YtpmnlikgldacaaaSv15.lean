/- Texts that the proof rests on, part 15: what each holds stands at its head. -/
import Derived.Test.YtpmnlikgldacaaaSv14

/- Abstract walks of functions, written by a program (wip/aw/aw.py): each equation is checked by the kernel. -/
namespace Go.Proofs.Ytpmnlikgldacaaa
open Go.RowKit

/-! wordhoard/speech.Says -/
def ac_speech_Says : AC := (.seq (.reg 0) (.seq (.seq (.reg 1) (.cond (.tmp 25) (.seq (.reg 2) .ret) .skip)) (.seq (.reg 3) (.seq (.seq (.reg 4) (.block 0 (.loop [33] [(4, 7), (9, 11), (34, 43)] (.seq (.reg 5) (.seq (.cond (.tmp 34) .skip (.exit 0)) (.seq (.block 1 (.seq (.reg 6) (.seq (.reg 7) (.seq (.reg 8) (.cond (.tmp 40) (.seq (.reg 9) .ret) .skip))))) (.reg 10))))))) (.seq (.seq (.reg 11) (.cond (.tmp 45) (.seq (.reg 12) .ret) .skip)) (.seq (.reg 13) (.seq (.reg 14) (.seq (.reg 15) (.seq (.reg 16) (.seq (.reg 17) .ret))))))))))
def S_speech_Says_L1 (Q : AV → AH → Prop) (H : AH) (v2 : AV) (v3 : AV) (v30 : AV) (v32 : AV) (vs : List AV) (k_27 : List AV → AH → Prop) : AH → Prop :=
 Pu Try.prog (.bin .lss 3) [(vs.getD 0 .any), v32] fun v34 =>
 CdA v34
 (
 Rg 4 fun b_30 =>
 Pu Try.prog (.idx 3) [v30, (vs.getD 0 .any)] fun v35 =>
 RdS Try.prog (.ld 3 true) [v35] fun v36 =>
 Al (b_30 + 2) (.nw 24 [.p (.int .i64 0), .p (.int .i64 0), .p (.slice none 0 0)]) [] fun v9 =>
 WrS Try.prog (b_30 + 3) (.st 3) [v9, v36] fun _ =>
 RdS Try.prog (.ld 3 true) [v9] fun v37 =>
 Ca Try.prog (.fn (.func 21) [] []) [v37] fun v38 =>
 Pu Try.prog (.bin .neq 28) [v38, (.p (.int .i64 0))] fun v40 =>
 CdA v40
 (
 Rt Try.prog H.nx (.tup [(.p (.slice none 0 0)), (.p (.bool false)), v38]) Q
 ) (
 Pu Try.prog (.bin .add 3) [(vs.getD 0 .any), (.p (.int .i64 1))] fun v42 =>
 k_27 [v42]
 )
 ) (
 Ca Try.prog (.fn (.func 46) [] []) [v30] fun v44 =>
 Pu Try.prog (.bin .gtr 3) [v44, (.p (.int .i64 10))] fun v45 =>
 CdA v45
 (
 Rt Try.prog H.nx (.tup [(.p (.slice none 0 0)), (.p (.bool false)), (.p (.int .i64 2))]) Q
 ) (
 Rg 5 fun b_41 =>
 Al (b_41 + 0) (.mm 9) [] fun v46 =>
 Pu Try.prog (.bld [.p (.map none)] [(0, 1)]) [v46] fun v47 =>
 Al (b_41 + 2) (.bx 63) [v47] fun v48 =>
 Al (b_41 + 3) (.nw 60 [.p (.pointer none)]) [] fun v11 =>
 WrS Try.prog (b_41 + 4) (.st 1) [v11, v48] fun _ =>
 Rg 1 fun b_47 =>
 Al (b_47 + 0) (.nw 75 [.p (.nilFunc)]) [] fun v12 =>
 Rg 2 fun b_49 =>
 Pu Try.prog (.mkfn (.func 47) 0) [v2, v11, v3, v12] fun v49 =>
 WrS Try.prog (b_49 + 1) (.st 1) [v12, v49] fun _ =>
 RdS Try.prog (.ld 1 false) [v12] fun v50 =>
 Ca Try.prog v50 [(.p (.slice none 0 0)), (.p (.slice none 0 0))] fun v51 =>
 Pu Try.prog (.bin .neq 37) [v51, (.p (.slice none 0 0))] fun v54 =>
 Rt Try.prog H.nx (.tup [v51, v54, (.p (.int .i64 0))]) Q
 )
 )
def S_speech_Says (a0 a1 : AV) (Q : AV → AH → Prop) (H : AH) : Prop := (
 Rg 5 fun b =>
 Al (b + 0) (.bx 36) [a0] fun v2 =>
 Al (b + 1) (.bx 24) [a1] fun v3 =>
 RdS Try.prog (.ld 1 false) [v2] fun v14 =>
 Pu Try.prog .len [v14] fun v15 =>
 Pu Try.prog (.bin .lss 3) [v15, (.p (.int .i64 1))] fun v16 =>
 Gd v16 false (fun k => RdS Try.prog (.ld 1 false) [v2] k) fun v18 =>
 Gd v16 false (fun k_10 => Pu Try.prog .len [v18] k_10) fun v19 =>
 Gd v16 false (fun k_12 => Pu Try.prog (.bin .gtr 3) [v19, (.p (.int .i64 6))] k_12) fun v20 =>
 Pu Try.prog .pick [v16, (.p (.bool true)), v20] fun v21 =>
 Gd v21 false (fun k_15 => RdS Try.prog (.ld 1 false) [v2] k_15) fun v23 =>
 Gd v21 false (fun k_17 => Ca Try.prog (.fn (.func 43) [] []) [v23, (.fn (.func 44) [] [])] k_17) fun v24 =>
 Pu Try.prog .pick [v21, (.p (.bool true)), v24] fun v25 =>
 CdA v25
 (
 Rt Try.prog H.nx (.tup [(.p (.slice none 0 0)), (.p (.bool false)), (.p (.int .i64 7))]) Q
 ) (
 Rg 6 fun b_19 =>
 Vw fun V =>
 Rd Try.prog V (.ld 1 false) [v2] fun v26 =>
 CaR Try.prog V (b_19 + 1) [] (.fn (.func 45) [] []) [v26] fun v27 =>
 Rd Try.prog V (.ld 3 true) [v3] fun v28 =>
 Al (b_19 + 3) (.bs 24 3 1 [.p (.int .i64 0), .p (.int .i64 0), .p (.slice none 0 0)] [(0, 3)]) [v28] fun v29 =>
 WrF V (some (b_19 + 1)) (some (b_19 + 3)) (b_19 + 4) (.app 24 3 40) [v27, v29] fun v30 =>
 Pu Try.prog .len [v30] fun v32 =>
 LoopA Try.prog 1 (S_speech_Says_L1 Q H v2 v3 v30 v32) [(.p (.int .i64 0))]
 )
 ) H
theorem eq_speech_Says (a0 a1 : AV) (Q : AV → AH → Prop) (H : AH) : FnA Try.prog 55 (regsF Try.f15) ac_speech_Says [.tm 4, .tm 5, .tm 6] [a0, a1] H Q = S_speech_Says a0 a1 Q H := by kernel_rfl
theorem tri_speech_Says {a0 a1 : AV} {H : AH} {Q : AV → AH → Prop} (h : S_speech_Says a0 a1 Q H) : Tri Try.prog 15 [a0, a1] H Q :=
  tri_of (Ms := [#[], #[], #[], #[0, 1, 0, 4, 15, 31], #[], #[], #[], #[], #[], #[], #[], #[], #[], #[], #[], #[], #[], #[]]) mixed Try.func15 rfl (by kernel_rfl) (by kernel_rfl) rfl (of_decide_eq_true rfl : 2 ≤ 55) (by rw [eq_speech_Says a0 a1 Q H]; exact h : FnA Try.prog 55 (regsF Try.f15) ac_speech_Says [.tm 4, .tm 5, .tm 6] [a0, a1] H Q)

/-! wordhoard/speech.Right -/
/-! wordhoard/speech.Cutless -/
/-! wordhoard/speech.Says$1 -/
def ac_speech_Says_fn1 : AC := (.seq (.reg 0) (.seq (.reg 1) .ret))
def S_speech_Says_fn1 (a0 : AV) (Q : AV → AH → Prop) (H : AH) : Prop := (
 Pu Try.prog .len [a0] fun v4 =>
 Pu Try.prog (.bin .lss 3) [v4, (.p (.int .i64 1))] fun v5 =>
 Gd v5 false (fun k => k a0) fun v7 =>
 Gd v5 false (fun k_6 => Pu Try.prog .len [v7] k_6) fun v8 =>
 Gd v5 false (fun k_8 => Pu Try.prog (.bin .gtr 3) [v8, (.p (.int .i64 3))] k_8) fun v9 =>
 Pu Try.prog .pick [v5, (.p (.bool true)), v9] fun v10 =>
 Rt Try.prog H.nx v10 Q
 ) H
theorem eq_speech_Says_fn1 (a0 : AV) (Q : AV → AH → Prop) (H : AH) : FnA Try.prog 11 (regsF Try.f44) ac_speech_Says_fn1 [.tm 2] [a0] H Q = S_speech_Says_fn1 a0 Q H := by kernel_rfl
theorem tri_speech_Says_fn1 {a0 : AV} {H : AH} {Q : AV → AH → Prop} (h : S_speech_Says_fn1 a0 Q H) : Tri Try.prog 44 [a0] H Q :=
  tri_of (Ms := [#[], #[]]) mixed Try.func44 rfl (by kernel_rfl) (by kernel_rfl) rfl (of_decide_eq_true rfl : 1 ≤ 11) (by rw [eq_speech_Says_fn1 a0 Q H]; exact h : FnA Try.prog 11 (regsF Try.f44) ac_speech_Says_fn1 [.tm 2] [a0] H Q)

/-! wordhoard/speech.Says$2 -/
def ac_speech_Says_fn2 : AC := (.seq (.reg 0) (.seq (.seq (.reg 1) (.cond (.tmp 18) (.seq (.seq (.reg 2) (.seq (.reg 3) (.cond (.tmp 26) (.seq (.reg 4) .ret) .skip))) (.seq (.reg 5) .ret)) .skip)) (.seq (.seq (.reg 6) (.block 0 (.loop [34] [(8, 9), (11, 14), (35, 55)] (.seq (.reg 7) (.seq (.cond (.tmp 35) .skip (.exit 0)) (.seq (.block 1 (.seq (.reg 8) (.seq (.reg 9) (.seq (.reg 10) (.cond (.tmp 52) (.seq (.reg 11) .ret) .skip))))) (.reg 12))))))) (.seq (.reg 13) .ret))))
def S_speech_Says_fn2_C1 (a0 : AV) (a1 : AV) (a5 : AV) (Q : AV → AH → Prop) (H : AH) (v32 : AV) (k : List AV → AH → Prop) (vs : List AV) : AH → Prop :=
 Rg 6 fun b_21 =>
 Pu Try.prog (.idx 3) [v32, (vs.getD 0 .any)] fun v37 =>
 RdS Try.prog (.ld 3 true) [v37] fun v38 =>
 Al (b_21 + 3) (.nw 24 [.p (.int .i64 0), .p (.int .i64 0), .p (.slice none 0 0)]) [] fun v12 =>
 WrS Try.prog (b_21 + 5) (.st 3) [v12, v38] fun _ =>
 Rg 13 fun b_26 =>
 Vw fun V =>
 Rd Try.prog V (.ld 1 false) [a5] fun v39 =>
 CaR Try.prog V (b_26 + 2) [] (.fn (.func 48) [] []) [a0] fun v41 =>
 Al (b_26 + 4) (.bs 3 1 1 [.p (.int .i64 0)] [(0, 1)]) [(vs.getD 0 .any)] fun v43 =>
 WrF V (some (b_26 + 2)) (some (b_26 + 4)) (b_26 + 5) (.app 3 1 8) [v41, v43] fun v44 =>
 CaR Try.prog V (b_26 + 7) [] (.fn (.func 49) [] []) [a1] fun v46 =>
 Rd Try.prog V (.ld 3 true) [v12] fun v47 =>
 Al (b_26 + 9) (.bs 24 3 1 [.p (.int .i64 0), .p (.int .i64 0), .p (.slice none 0 0)] [(0, 3)]) [v47] fun v48 =>
 WrF V (some (b_26 + 7)) (some (b_26 + 9)) (b_26 + 10) (.app 24 3 40) [v46, v48] fun v49 =>
 Ca Try.prog v39 [v44, v49] fun v50 =>
 Vw fun _ =>
 Pu Try.prog (.bin .neq 37) [v50, (.p (.slice none 0 0))] fun v52 =>
 CdA v52
 (
 Rt Try.prog H.nx v50 Q
 ) (
 Pu Try.prog (.bin .add 3) [(vs.getD 0 .any), (.p (.int .i64 1))] fun v54 =>
 k [v54]
 )
def S_speech_Says_fn2_L2 (a0 : AV) (a1 : AV) (a5 : AV) (Q : AV → AH → Prop) (H : AH) (v32 : AV) (v33 : AV) (vs : List AV) (k : List AV → AH → Prop) : AH → Prop :=
 Pu Try.prog (.bin .lss 3) [(vs.getD 0 .any), v33] fun v35 =>
 CdA v35
 (S_speech_Says_fn2_C1 a0 a1 a5 Q H v32 k vs) (
 Rt Try.prog H.nx (.p (.slice none 0 0)) Q
 )
def S_speech_Says_fn2 (a0 a1 a2 a3 a4 a5 : AV) (Q : AV → AH → Prop) (H : AH) : Prop := (
 Pu Try.prog .len [a1] fun v15 =>
 RdS Try.prog (.ld 1 false) [a2] fun v16 =>
 Pu Try.prog .len [v16] fun v17 =>
 Pu Try.prog (.bin .eql 3) [v15, v17] fun v18 =>
 CdA v18
 (
 Rg 10 fun b =>
 RdS Try.prog (.ld 1 false) [a3] fun v20 =>
 RdS Try.prog (.ld 3 true) [a4] fun v22 =>
 Ca Try.prog (.fn (.func 34) [] []) [v20, a1, v22] fun v23 =>
 Pu Try.prog (.ext 0) [v23] fun v24 =>
 Pu Try.prog (.ext 1) [v23] fun v25 =>
 Al (b + 7) (.nw 27 [.p (.int .i64 0), .p (.slice none 0 0), .p (.int .i64 0), .p (.int .i64 0), .p (.slice none 0 0), .p (.int .i64 0), .p (.int .i64 0), .p (.slice none 0 0)]) [] fun v9 =>
 WrS Try.prog (b + 8) (.st 8) [v9, v24] fun _ =>
 CdA v25
 (
 Rt Try.prog H.nx a0 Q
 ) (
 Rt Try.prog H.nx (.p (.slice none 0 0)) Q
 )
 ) (
 RdS Try.prog (.ld 1 false) [a2] fun v28 =>
 Pu Try.prog .len [a1] fun v30 =>
 Pu Try.prog (.idx 1) [v28, v30] fun v31 =>
 RdS Try.prog (.ld 1 false) [v31] fun v32 =>
 Pu Try.prog .len [v32] fun v33 =>
 LoopA Try.prog 1 (S_speech_Says_fn2_L2 a0 a1 a5 Q H v32 v33) [(.p (.int .i64 0))]
 )
 ) H
theorem eq_speech_Says_fn2 (a0 a1 a2 a3 a4 a5 : AV) (Q : AV → AH → Prop) (H : AH) : FnA Try.prog 55 (regsF Try.f47) ac_speech_Says_fn2 [.tm 8] [a0, a1, a2, a3, a4, a5] H Q = S_speech_Says_fn2 a0 a1 a2 a3 a4 a5 Q H := by kernel_rfl
theorem tri_speech_Says_fn2 {a0 a1 a2 a3 a4 a5 : AV} {H : AH} {Q : AV → AH → Prop} (h : S_speech_Says_fn2 a0 a1 a2 a3 a4 a5 Q H) : Tri Try.prog 47 [a0, a1, a2, a3, a4, a5] H Q :=
  tri_of (Ms := [#[], #[], #[], #[], #[], #[], #[], #[], #[], #[0, 0, 2, 0, 8, 30, 0, 126, 0, 256, 1022, 2047, 4095], #[], #[], #[], #[]]) mixed Try.func47 rfl (by kernel_rfl) (by kernel_rfl) rfl (of_decide_eq_true rfl : 6 ≤ 55) (by rw [eq_speech_Says_fn2 a0 a1 a2 a3 a4 a5 Q H]; exact h : FnA Try.prog 55 (regsF Try.f47) ac_speech_Says_fn2 [.tm 8] [a0, a1, a2, a3, a4, a5] H Q)

/-! wordhoard/speech.size -/
/-! wordhoard/speech.parts -/
/-! wordhoard/speech.right -/
/-! wordhoard/speech.stepRight -/
def S_speech_stepRight_K3 (Q : AV → AH → Prop) (H : AH) (v1 : AV) (v4 : AV) (v5 : AV) (v136 : AV) (v141 : AV) (v10 : AV) (vs_229 : List AV) : AH → Prop :=
 Rg 27 fun b_230 =>
 Vw fun V_231 =>
 Pu Try.prog (.addOff 2) [v5] fun v252 =>
 Rd Try.prog V_231 (.ld 3 true) [v252] fun v253 =>
 Pu Try.prog (.addOff 2) [v1] fun v254 =>
 Rd Try.prog V_231 (.ld 3 true) [v254] fun v255 =>
 CaV Try.prog V_231 (.fn (.func 76) [] []) [v253, v255] fun v256 =>
 GdV v256 true (fun k_238 => Pu Try.prog (.addOff 1) [v4] (fun a => k_238 a V_231)) V_231 fun v258 V_239 =>
 GdV v256 true (fun k_241 => Rd Try.prog V_239 (.ld 1 false) [v258] (fun a => k_241 a V_239)) V_239 fun v259 V_242 =>
 GdV v256 true (fun k_244 => Pu Try.prog (.addOff 1) [v1] (fun a => k_244 a V_242)) V_242 fun v260 V_245 =>
 GdV v256 true (fun k_247 => Rd Try.prog V_245 (.ld 1 false) [v260] (fun a => k_247 a V_245)) V_245 fun v261 V_248 =>
 GdV v256 true (fun k_250 => k_250 v136 V_248) V_248 fun v262 V_251 =>
 GdV v256 true (fun k_253 => k_253 v141 V_251) V_251 fun v263 V_254 =>
 GdV v256 true (fun k_256 => Pu Try.prog (.slc 3 true true) [v261, v262, v263] (fun a => k_256 a V_254)) V_254 fun v264 V_257 =>
 GdV v256 true (fun k_259 => CaV Try.prog V_257 (.fn (.func 78) [] []) [v259, v264] (fun a => k_259 a V_257)) V_257 fun v265 V_260 =>
 Pu Try.prog .pick [v256, v265, (.p (.bool false))] fun v266 =>
 GdV v266 true (fun k_263 => Pu Try.prog (.addOff 1) [v5] (fun a => k_263 a V_260)) V_260 fun v268 V_264 =>
 GdV v266 true (fun k_266 => Rd Try.prog V_264 (.ld 1 false) [v268] (fun a => k_266 a V_264)) V_264 fun v269 V_267 =>
 GdV v266 true (fun k_269 => k_269 (vs_229.getD 0 .any) V_267) V_267 fun v270 V_270 =>
 GdV v266 true (fun k_272 => Rd Try.prog V_270 (.ld 3 true) [v10] (fun a => k_272 a V_270)) V_270 fun v271 V_273 =>
 GdV v266 true (fun k_275 => Al (b_230 + 20) (.bs 24 3 1 [.p (.int .i64 0), .p (.int .i64 0), .p (.slice none 0 0)] [(0, 3)]) [v271] (fun a => k_275 a V_273)) V_273 fun v272 V_276 =>
 GdV v266 true (fun k_278 => k_278 (vs_229.getD 1 .any) V_276) V_276 fun v273 V_279 =>
 GdV v266 true (fun k_281 => Al (b_230 + 22) (.bs 22 1 3 [.p (.slice none 0 0)] [(0, 1), (1, 1), (2, 1)]) [v270, v272, v273] (fun a => k_281 a V_279)) V_279 fun v274 V_282 =>
 GdV v266 true (fun k_284 => CaN Try.prog V_282 [(b_230 + 22), (b_230 + 20)] (.fn (.func 45) [] []) [v274] (fun a => k_284 a V_282)) V_282 fun v275 V_285 =>
 GdV v266 true (fun k_287 => CaV Try.prog V_285 (.fn (.func 78) [] []) [v269, v275] (fun a => k_287 a V_285)) V_285 fun v276 _ =>
 Pu Try.prog .pick [v266, v276, (.p (.bool false))] fun v277 =>
 Rt Try.prog H.nx v277 Q
def S_speech_stepRight_C4 (Q : AV → AH → Prop) (H : AH) (v4 : AV) (v136 : AV) (v172 : AV) (v176 : AV) (v10 : AV) (k_228 : List AV → AH → Prop) : AH → Prop :=
 Vw fun V_293 =>
 Pu Try.prog (.bin .eql 3) [v136, (.p (.int .i64 0))] fun v184 =>
 GdV v184 false (fun k_296 => k_296 v172 V_293) V_293 fun v186 V_297 =>
 GdV v184 false (fun k_299 => k_299 v136 V_297) V_297 fun v187 V_300 =>
 GdV v184 false (fun k_302 => Pu Try.prog (.bin .sub 3) [v187, (.p (.int .i64 1))] (fun a => k_302 a V_300)) V_300 fun v188 V_303 =>
 GdV v184 false (fun k_305 => Pu Try.prog (.idx 3) [v186, v188] (fun a => k_305 a V_303)) V_303 fun v189 V_306 =>
 GdV v184 false (fun k_308 => Pu Try.prog (.addOff 0) [v189] (fun a => k_308 a V_306)) V_306 fun v190 V_309 =>
 GdV v184 false (fun k_311 => Rd Try.prog V_309 (.ld 1 false) [v190] (fun a => k_311 a V_309)) V_309 fun v191 V_312 =>
 GdV v184 false (fun k_314 => Pu Try.prog (.bin .neq 3) [v191, (.p (.int .i64 2))] (fun a => k_314 a V_312)) V_312 fun v192 V_315 =>
 Pu Try.prog .pick [v184, (.p (.bool true)), v192] fun v193 =>
 GdV v193 false (fun k_318 => k_318 v172 V_315) V_315 fun v195 V_319 =>
 GdV v193 false (fun k_321 => k_321 v136 V_319) V_319 fun v196 V_322 =>
 GdV v193 false (fun k_324 => Pu Try.prog (.bin .sub 3) [v196, (.p (.int .i64 1))] (fun a => k_324 a V_322)) V_322 fun v197 V_325 =>
 GdV v193 false (fun k_327 => Pu Try.prog (.idx 3) [v195, v197] (fun a => k_327 a V_325)) V_325 fun v198 V_328 =>
 GdV v193 false (fun k_330 => Pu Try.prog (.addOff 2) [v198] (fun a => k_330 a V_328)) V_328 fun v199 V_331 =>
 GdV v193 false (fun k_333 => Rd Try.prog V_331 (.ld 1 false) [v199] (fun a => k_333 a V_331)) V_331 fun v200 V_334 =>
 GdV v193 false (fun k_336 => Pu Try.prog (.idx 3) [v200, (.p (.int .i64 1))] (fun a => k_336 a V_334)) V_334 fun v201 V_337 =>
 GdV v193 false (fun k_339 => Rd Try.prog V_337 (.ld 3 true) [v201] (fun a => k_339 a V_337)) V_337 fun v202 V_340 =>
 GdV v193 false (fun k_342 => Pu Try.prog (.addOff 2) [v4] (fun a => k_342 a V_340)) V_340 fun v203 V_343 =>
 GdV v193 false (fun k_345 => Rd Try.prog V_343 (.ld 3 true) [v203] (fun a => k_345 a V_343)) V_343 fun v204 V_346 =>
 GdV v193 false (fun k_348 => CaV Try.prog V_346 (.fn (.func 76) [] []) [v202, v204] (fun a => k_348 a V_346)) V_346 fun v205 V_349 =>
 GdV v193 false (fun k_351 => Pu Try.prog (.un .not) [v205] (fun a => k_351 a V_349)) V_349 fun v206 _ =>
 Pu Try.prog .pick [v193, (.p (.bool true)), v206] fun v207 =>
 CdA v207
 (
 Rt Try.prog H.nx (.p (.bool false)) Q
 ) (
 Rg 14 fun b_354 =>
 Vw fun V_355 =>
 Pu Try.prog (.bin .sub 3) [v136, (.p (.int .i64 1))] fun v210 =>
 Pu Try.prog (.idx 3) [v172, v210] fun v211 =>
 Pu Try.prog (.addOff 2) [v211] fun v212 =>
 Rd Try.prog V_355 (.ld 1 false) [v212] fun v213 =>
 Pu Try.prog (.idx 3) [v213, (.p (.int .i64 0))] fun v214 =>
 Rd Try.prog V_355 (.ld 3 true) [v214] fun v215 =>
 Pu Try.prog (.bin .sub 3) [v136, (.p (.int .i64 1))] fun v218 =>
 Pu Try.prog (.slc 3 false true) [v172, v218] fun v219 =>
 Wr Try.prog (b_354 + 12) (.st 3) [v10, v215] fun _ _ =>
 k_228 [v219, v176]
 )
def S_speech_stepRight_C5 (Q : AV → AH → Prop) (H : AH) (v4 : AV) (v172 : AV) (v176 : AV) (v10 : AV) (k_228 : List AV → AH → Prop) : AH → Prop :=
 Vw fun V_367 =>
 Pu Try.prog .len [v176] fun v223 =>
 Pu Try.prog (.bin .eql 3) [v223, (.p (.int .i64 0))] fun v224 =>
 GdV v224 false (fun k_371 => k_371 v176 V_367) V_367 fun v226 V_372 =>
 GdV v224 false (fun k_374 => Pu Try.prog (.idx 3) [v226, (.p (.int .i64 0))] (fun a => k_374 a V_372)) V_372 fun v227 V_375 =>
 GdV v224 false (fun k_377 => Pu Try.prog (.addOff 0) [v227] (fun a => k_377 a V_375)) V_375 fun v228 V_378 =>
 GdV v224 false (fun k_380 => Rd Try.prog V_378 (.ld 1 false) [v228] (fun a => k_380 a V_378)) V_378 fun v229 V_381 =>
 GdV v224 false (fun k_383 => Pu Try.prog (.bin .neq 3) [v229, (.p (.int .i64 3))] (fun a => k_383 a V_381)) V_381 fun v230 V_384 =>
 Pu Try.prog .pick [v224, (.p (.bool true)), v230] fun v231 =>
 GdV v231 false (fun k_387 => k_387 v176 V_384) V_384 fun v233 V_388 =>
 GdV v231 false (fun k_390 => Pu Try.prog (.idx 3) [v233, (.p (.int .i64 0))] (fun a => k_390 a V_388)) V_388 fun v234 V_391 =>
 GdV v231 false (fun k_393 => Pu Try.prog (.addOff 2) [v234] (fun a => k_393 a V_391)) V_391 fun v235 V_394 =>
 GdV v231 false (fun k_396 => Rd Try.prog V_394 (.ld 1 false) [v235] (fun a => k_396 a V_394)) V_394 fun v236 V_397 =>
 GdV v231 false (fun k_399 => Pu Try.prog (.idx 3) [v236, (.p (.int .i64 0))] (fun a => k_399 a V_397)) V_397 fun v237 V_400 =>
 GdV v231 false (fun k_402 => Rd Try.prog V_400 (.ld 3 true) [v237] (fun a => k_402 a V_400)) V_400 fun v238 V_403 =>
 GdV v231 false (fun k_405 => Pu Try.prog (.addOff 2) [v4] (fun a => k_405 a V_403)) V_403 fun v239 V_406 =>
 GdV v231 false (fun k_408 => Rd Try.prog V_406 (.ld 3 true) [v239] (fun a => k_408 a V_406)) V_406 fun v240 V_409 =>
 GdV v231 false (fun k_411 => CaV Try.prog V_409 (.fn (.func 76) [] []) [v238, v240] (fun a => k_411 a V_409)) V_409 fun v241 V_412 =>
 GdV v231 false (fun k_414 => Pu Try.prog (.un .not) [v241] (fun a => k_414 a V_412)) V_412 fun v242 _ =>
 Pu Try.prog .pick [v231, (.p (.bool true)), v242] fun v243 =>
 CdA v243
 (
 Rt Try.prog H.nx (.p (.bool false)) Q
 ) (
 Rg 10 fun b_417 =>
 Vw fun V_418 =>
 Pu Try.prog (.idx 3) [v176, (.p (.int .i64 0))] fun v245 =>
 Pu Try.prog (.addOff 2) [v245] fun v246 =>
 Rd Try.prog V_418 (.ld 1 false) [v246] fun v247 =>
 Pu Try.prog (.idx 3) [v247, (.p (.int .i64 1))] fun v248 =>
 Rd Try.prog V_418 (.ld 3 true) [v248] fun v249 =>
 Pu Try.prog (.slc 3 true false) [v176, (.p (.int .i64 1))] fun v251 =>
 Wr Try.prog (b_417 + 8) (.st 3) [v10, v249] fun _ _ =>
 k_228 [v172, v251]
 )
def S_speech_stepRight_C6 (Q : AV → AH → Prop) (H : AH) (v1 : AV) (v4 : AV) : AH → Prop :=
 Rg 6 fun b_159 =>
 Pu Try.prog (.addOff 7) [v1] fun v131 =>
 RdS Try.prog (.ld 1 false) [v131] fun v132 =>
 Pu Try.prog (.idx 8) [v132, (.p (.int .i64 1))] fun v133 =>
 RdS Try.prog (.ld 8 true) [v133] fun v134 =>
 Al (b_159 + 4) (.nw 27 [.p (.int .i64 0), .p (.slice none 0 0), .p (.int .i64 0), .p (.int .i64 0), .p (.slice none 0 0), .p (.int .i64 0), .p (.int .i64 0), .p (.slice none 0 0)]) [] fun v5 =>
 WrS Try.prog (b_159 + 5) (.st 8) [v5, v134] fun _ =>
 Vw fun V_166 =>
 Pu Try.prog (.addOff 5) [v1] fun v135 =>
 Rd Try.prog V_166 (.ld 1 false) [v135] fun v136 =>
 Pu Try.prog (.addOff 5) [v1] fun v137 =>
 Rd Try.prog V_166 (.ld 1 false) [v137] fun v138 =>
 Pu Try.prog (.addOff 6) [v1] fun v139 =>
 Rd Try.prog V_166 (.ld 1 false) [v139] fun v140 =>
 Pu Try.prog (.bin .add 3) [v138, v140] fun v141 =>
 Pu Try.prog (.addOff 5) [v1] fun v142 =>
 RdS Try.prog (.ld 1 false) [v142] fun v143 =>
 Pu Try.prog (.bin .lss 3) [v143, (.p (.int .i64 0))] fun v144 =>
 Gd v144 false (fun k_178 => Pu Try.prog (.addOff 6) [v1] k_178) fun v146 =>
 Gd v144 false (fun k_180 => RdS Try.prog (.ld 1 false) [v146] k_180) fun v147 =>
 Gd v144 false (fun k_182 => Pu Try.prog (.bin .lss 3) [v147, (.p (.int .i64 1))] k_182) fun v148 =>
 Pu Try.prog .pick [v144, (.p (.bool true)), v148] fun v149 =>
 Gd v149 false (fun k_185 => Pu Try.prog (.addOff 6) [v1] k_185) fun v151 =>
 Gd v149 false (fun k_187 => RdS Try.prog (.ld 1 false) [v151] k_187) fun v152 =>
 Gd v149 false (fun k_189 => Pu Try.prog (.addOff 1) [v1] k_189) fun v153 =>
 Gd v149 false (fun k_191 => RdS Try.prog (.ld 1 false) [v153] k_191) fun v154 =>
 Gd v149 false (fun k_193 => Pu Try.prog .len [v154] k_193) fun v155 =>
 Gd v149 false (fun k_195 => Pu Try.prog (.bin .gtr 3) [v152, v155] k_195) fun v156 =>
 Pu Try.prog .pick [v149, (.p (.bool true)), v156] fun v157 =>
 Gd v157 false (fun k_198 => Pu Try.prog (.addOff 5) [v1] k_198) fun v159 =>
 Gd v157 false (fun k_200 => RdS Try.prog (.ld 1 false) [v159] k_200) fun v160 =>
 Gd v157 false (fun k_202 => Pu Try.prog (.addOff 1) [v1] k_202) fun v161 =>
 Gd v157 false (fun k_204 => RdS Try.prog (.ld 1 false) [v161] k_204) fun v162 =>
 Gd v157 false (fun k_206 => Pu Try.prog .len [v162] k_206) fun v163 =>
 Gd v157 false (fun k_208 => Pu Try.prog (.addOff 6) [v1] k_208) fun v164 =>
 Gd v157 false (fun k_210 => RdS Try.prog (.ld 1 false) [v164] k_210) fun v165 =>
 Gd v157 false (fun k_212 => Pu Try.prog (.bin .sub 3) [v163, v165] k_212) fun v166 =>
 Gd v157 false (fun k_214 => Pu Try.prog (.bin .gtr 3) [v160, v166] k_214) fun v167 =>
 Pu Try.prog .pick [v157, (.p (.bool true)), v167] fun v168 =>
 CdA v168
 (
 Rt Try.prog H.nx (.p (.bool false)) Q
 ) (
 Vw fun V_216 =>
 Pu Try.prog (.addOff 1) [v1] fun v169 =>
 Rd Try.prog V_216 (.ld 1 false) [v169] fun v170 =>
 Pu Try.prog (.slc 3 false true) [v170, v136] fun v172 =>
 Pu Try.prog (.addOff 1) [v1] fun v173 =>
 Rd Try.prog V_216 (.ld 1 false) [v173] fun v174 =>
 Pu Try.prog (.slc 3 true false) [v174, v141] fun v176 =>
 Rg 4 fun b_223 =>
 Pu Try.prog (.addOff 2) [v4] fun v177 =>
 RdS Try.prog (.ld 3 true) [v177] fun v178 =>
 Al (b_223 + 2) (.nw 24 [.p (.int .i64 0), .p (.int .i64 0), .p (.slice none 0 0)]) [] fun v10 =>
 WrS Try.prog (b_223 + 3) (.st 3) [v10, v178] fun _ =>
 CutA Try.prog 2 (fun k_228 =>
 Pu Try.prog (.addOff 0) [v1] fun v179 =>
 RdS Try.prog (.ld 1 false) [v179] fun v180 =>
 Pu Try.prog (.bin .eql 3) [v180, (.p (.int .i64 4))] fun v182 =>
 CdA v182
 (S_speech_stepRight_C4 Q H v4 v136 v172 v176 v10 k_228) (
 Pu Try.prog (.bin .eql 3) [v180, (.p (.int .i64 5))] fun v221 =>
 CdA v221
 (S_speech_stepRight_C5 Q H v4 v172 v176 v10 k_228) (
 k_228 [v172, v176]
 )
 )
 ) (S_speech_stepRight_K3 Q H v1 v4 v5 v136 v141 v10)
 )
/-! wordhoard/wordhoardref.AsksWords -/
def ac_wordhoardref_AsksWords : AC := (.seq (.reg 0) (.seq (.seq (.reg 1) (.cond (.tmp 16) (.seq (.reg 2) .ret) .skip)) (.seq (.reg 3) (.seq (.seq (.reg 4) (.block 0 (.loop [5, 6] [(4, 5), (17, 43)] (.seq (.seq (.reg 5) (.cond (.tmp 20) .skip (.exit 0))) (.seq (.block 1 (.seq (.seq (.reg 6) (.cond (.tmp 36) (.seq (.reg 7) .ret) .skip)) (.reg 8))) (.reg 9)))))) (.seq (.reg 10) (.seq (.seq (.reg 11) (.block 2 (.loop [7] [(4, 5), (8, 9), (47, 61)] (.seq (.seq (.reg 12) (.cond (.tmp 50) .skip (.exit 2))) (.seq (.block 3 (.seq (.reg 13) (.seq (.reg 14) (.cond (.tmp 59) (.seq (.reg 15) .ret) .skip)))) (.reg 16)))))) (.seq (.seq (.reg 17) (.cond (.tmp 63) (.seq (.reg 18) .ret) .skip)) (.seq (.reg 19) .ret))))))))
def S_wordhoardref_AsksWords_L1 (Q : AV → AH → Prop) (H : AH) (v46 : AV) (vs_43 : List AV) (k_42 : List AV → AH → Prop) : AH → Prop :=
 Pu Try.prog .len [v46] fun v49 =>
 Pu Try.prog (.bin .lss 3) [(vs_43.getD 0 .any), v49] fun v50 =>
 CdA v50
 (
 Pu Try.prog (.idx 3) [v46, (vs_43.getD 0 .any)] fun v55 =>
 RdS Try.prog (.ld 3 true) [v55] fun v56 =>
 Ca Try.prog (.fn (.func 19) [] []) [v56] fun v57 =>
 Pu Try.prog (.bin .neq 28) [v57, (.p (.int .i64 0))] fun v59 =>
 CdA v59
 (
 Rt Try.prog H.nx v57 Q
 ) (
 Pu Try.prog (.bin .add 3) [(vs_43.getD 0 .any), (.p (.int .i64 1))] fun v52 =>
 k_42 [v52]
 )
 ) (
 Ca Try.prog (.fn (.func 37) [] []) [v46] fun v62 =>
 Pu Try.prog (.bin .gtr 3) [v62, (.p (.int .i64 10))] fun v63 =>
 CdA v63
 (
 Rt Try.prog H.nx (.p (.int .i64 2)) Q
 ) (
 Rt Try.prog H.nx (.p (.int .i64 0)) Q
 )
 )
def S_wordhoardref_AsksWords_L2 (a0 : AV) (Q : AV → AH → Prop) (H : AH) (v3 : AV) (vs : List AV) (k_12 : List AV → AH → Prop) : AH → Prop :=
 Pu Try.prog .len [a0] fun v19 =>
 Pu Try.prog (.bin .lss 3) [(vs.getD 1 .any), v19] fun v20 =>
 CdA v20
 (
 Pu Try.prog (.idx 1) [a0, (vs.getD 1 .any)] fun v25 =>
 RdS Try.prog (.ld 1 false) [v25] fun v26 =>
 Pu Try.prog .len [v26] fun v27 =>
 Pu Try.prog (.bin .eql 3) [v27, (.p (.int .i64 0))] fun v28 =>
 Gd v28 false (fun k_21 => k_21 a0) fun v30 =>
 Gd v28 false (fun k_23 => k_23 (vs.getD 1 .any)) fun v31 =>
 Gd v28 false (fun k_25 => Pu Try.prog (.idx 1) [v30, v31] k_25) fun v32 =>
 Gd v28 false (fun k_27 => RdS Try.prog (.ld 1 false) [v32] k_27) fun v33 =>
 Gd v28 false (fun k_29 => Pu Try.prog .len [v33] k_29) fun v34 =>
 Gd v28 false (fun k_31 => Pu Try.prog (.bin .gtr 3) [v34, (.p (.int .i64 3))] k_31) fun v35 =>
 Pu Try.prog .pick [v28, (.p (.bool true)), v35] fun v36 =>
 CdA v36
 (
 Rt Try.prog H.nx (.p (.int .i64 7)) Q
 ) (
 Rg 7 fun b_33 =>
 Pu Try.prog (.idx 1) [a0, (vs.getD 1 .any)] fun v40 =>
 RdS Try.prog (.ld 1 false) [v40] fun v41 =>
 WrS Try.prog (b_33 + 5) (.app 24 3 40) [(vs.getD 0 .any), v41] fun v42 =>
 Pu Try.prog (.bin .add 3) [(vs.getD 1 .any), (.p (.int .i64 1))] fun v22 =>
 k_12 [v42, v22]
 )
 ) (
 Rg 5 fun b_38 =>
 RdS Try.prog (.ld 3 true) [v3] fun v44 =>
 Al (b_38 + 2) (.bs 24 3 1 [.p (.int .i64 0), .p (.int .i64 0), .p (.slice none 0 0)] [(0, 3)]) [v44] fun v45 =>
 WrS Try.prog (b_38 + 3) (.app 24 3 40) [(vs.getD 0 .any), v45] fun v46 =>
 LoopA Try.prog 1 (S_wordhoardref_AsksWords_L1 Q H v46) [(.p (.int .i64 0))]
 )
def S_wordhoardref_AsksWords (a0 a1 : AV) (Q : AV → AH → Prop) (H : AH) : Prop := (
 Rg 2 fun b =>
 Al (b + 0) (.bx 24) [a1] fun v3 =>
 Pu Try.prog .len [a0] fun v10 =>
 Pu Try.prog (.bin .eql 3) [v10, (.p (.int .i64 0))] fun v11 =>
 Gd v11 false (fun k => k a0) fun v13 =>
 Gd v11 false (fun k_8 => Pu Try.prog .len [v13] k_8) fun v14 =>
 Gd v11 false (fun k_10 => Pu Try.prog (.bin .gtr 3) [v14, (.p (.int .i64 6))] k_10) fun v15 =>
 Pu Try.prog .pick [v11, (.p (.bool true)), v15] fun v16 =>
 CdA v16
 (
 Rt Try.prog H.nx (.p (.int .i64 7)) Q
 ) (
 LoopA Try.prog 2 (S_wordhoardref_AsksWords_L2 a0 Q H v3) [(.p (.slice none 0 0)), (.p (.int .i64 0))]
 )
 ) H
theorem eq_wordhoardref_AsksWords (a0 a1 : AV) (Q : AV → AH → Prop) (H : AH) : FnA Try.prog 64 (regsF Try.f16) ac_wordhoardref_AsksWords [.tm 4] [a0, a1] H Q = S_wordhoardref_AsksWords a0 a1 Q H := by kernel_rfl
theorem tri_wordhoardref_AsksWords {a0 a1 : AV} {H : AH} {Q : AV → AH → Prop} (h : S_wordhoardref_AsksWords a0 a1 Q H) : Tri Try.prog 16 [a0, a1] H Q :=
  tri_of (Ms := [#[], #[], #[], #[], #[], #[], #[], #[], #[], #[], #[], #[], #[], #[], #[], #[], #[], #[], #[], #[]]) mixed Try.func16 rfl (by kernel_rfl) (by kernel_rfl) rfl (of_decide_eq_true rfl : 2 ≤ 64) (by rw [eq_wordhoardref_AsksWords a0 a1 Q H]; exact h : FnA Try.prog 64 (regsF Try.f16) ac_wordhoardref_AsksWords [.tm 4] [a0, a1] H Q)

/-! wordhoard/wordhoardref.Says -/
/-! wordhoard/wordhoardref.Same -/
def ac_wordhoardref_Same : AC := (.seq (.reg 0) (.seq (.seq (.reg 1) (.cond (.tmp 10) (.seq (.reg 2) .ret) .skip)) (.seq (.seq (.reg 3) (.block 0 (.loop [5] [(4, 5), (11, 26)] (.seq (.seq (.reg 4) (.cond (.tmp 14) .skip (.exit 0))) (.seq (.block 1 (.seq (.reg 5) (.cond (.tmp 25) (.seq (.reg 6) .ret) .skip))) (.reg 7)))))) (.seq (.reg 8) .ret))))
def S_wordhoardref_Same_L1 (a0 : AV) (a1 : AV) (Q : AV → AH → Prop) (H : AH) (vs : List AV) (k : List AV → AH → Prop) : AH → Prop :=
 Pu Try.prog .len [a0] fun v13 =>
 Pu Try.prog (.bin .lss 3) [(vs.getD 0 .any), v13] fun v14 =>
 CdA v14
 (
 Vw fun V =>
 Pu Try.prog (.idx 1) [a0, (vs.getD 0 .any)] fun v19 =>
 Rd Try.prog V (.ld 1 false) [v19] fun v20 =>
 Pu Try.prog (.idx 1) [a1, (vs.getD 0 .any)] fun v23 =>
 Rd Try.prog V (.ld 1 false) [v23] fun v24 =>
 Pu Try.prog (.bin .neq 3) [v20, v24] fun v25 =>
 CdA v25
 (
 Rt Try.prog H.nx (.p (.bool false)) Q
 ) (
 Pu Try.prog (.bin .add 3) [(vs.getD 0 .any), (.p (.int .i64 1))] fun v16 =>
 k [v16]
 )
 ) (
 Rt Try.prog H.nx (.p (.bool true)) Q
 )
def S_wordhoardref_Same (a0 a1 : AV) (Q : AV → AH → Prop) (H : AH) : Prop := (
 Pu Try.prog .len [a0] fun v7 =>
 Pu Try.prog .len [a1] fun v9 =>
 Pu Try.prog (.bin .neq 3) [v7, v9] fun v10 =>
 CdA v10
 (
 Rt Try.prog H.nx (.p (.bool false)) Q
 ) (
 LoopA Try.prog 1 (S_wordhoardref_Same_L1 a0 a1 Q H) [(.p (.int .i64 0))]
 )
 ) H
theorem eq_wordhoardref_Same (a0 a1 : AV) (Q : AV → AH → Prop) (H : AH) : FnA Try.prog 26 (regsF Try.f18) ac_wordhoardref_Same [.tm 4] [a0, a1] H Q = S_wordhoardref_Same a0 a1 Q H := by kernel_rfl
theorem tri_wordhoardref_Same {a0 a1 : AV} {H : AH} {Q : AV → AH → Prop} (h : S_wordhoardref_Same a0 a1 Q H) : Tri Try.prog 18 [a0, a1] H Q :=
  tri_of (Ms := [#[], #[], #[], #[], #[], #[0, 0, 3, 7, 0, 0, 48, 112, 255], #[], #[], #[]]) mixed Try.func18 rfl (by kernel_rfl) (by kernel_rfl) rfl (of_decide_eq_true rfl : 2 ≤ 26) (by rw [eq_wordhoardref_Same a0 a1 Q H]; exact h : FnA Try.prog 26 (regsF Try.f18) ac_wordhoardref_Same [.tm 4] [a0, a1] H Q)

/-! wordhoard/wordhoardlaw.SpeechSays -/
def ac_wordhoardlaw_SpeechSays : AC := (.seq (.reg 0) (.seq (.reg 1) (.seq (.reg 2) (.seq (.reg 3) (.seq (.seq (.reg 4) (.cond (.tmp 21) (.reg 5) .skip)) (.seq (.reg 6) .ret))))))
def S_wordhoardlaw_SpeechSays (a0 a1 : AV) (Q : AV → AH → Prop) (H : AH) : Prop := (
 Rg 2 fun b =>
 Al (b + 0) (.bx 24) [a1] fun v3 =>
 RdS Try.prog (.ld 3 true) [v3] fun v12 =>
 Ca Try.prog (.fn (.func 15) [] []) [a0, v12] fun v13 =>
 Pu Try.prog (.ext 0) [v13] fun v14 =>
 Pu Try.prog (.ext 1) [v13] fun v15 =>
 Pu Try.prog (.ext 2) [v13] fun v16 =>
 RdS Try.prog (.ld 3 true) [v3] fun v18 =>
 Ca Try.prog (.fn (.func 16) [] []) [a0, v18] fun v19 =>
 Pu Try.prog (.bin .eql 28) [v19, (.p (.int .i64 0))] fun v21 =>
 CdA v21
 (
 RdS Try.prog (.ld 3 true) [v3] fun v23 =>
 Ca Try.prog (.fn (.func 17) [] []) [a0, v23, (.p (.slice none 0 0))] fun v24 =>
 Ca Try.prog (.fn (.func 11) [] []) [] fun v25 =>
 Gd v25 true (fun k => k v16) fun v27 =>
 Gd v25 true (fun k_17 => k_17 v19) fun v28 =>
 Gd v25 true (fun k_19 => Pu Try.prog (.bin .eql 28) [v27, v28] k_19) fun v29 =>
 Pu Try.prog .pick [v25, v29, (.p (.bool false))] fun v30 =>
 Gd v30 true (fun k_22 => k_22 v15) fun v32 =>
 Gd v30 true (fun k_24 => k_24 v24) fun v33 =>
 Gd v30 true (fun k_26 => Pu Try.prog (.bin .neq 37) [v33, (.p (.slice none 0 0))] k_26) fun v34 =>
 Gd v30 true (fun k_28 => Pu Try.prog (.bin .eql 4) [v32, v34] k_28) fun v35 =>
 Pu Try.prog .pick [v30, v35, (.p (.bool false))] fun v36 =>
 Gd v36 true (fun k_31 => k_31 v14) fun v38 =>
 Gd v36 true (fun k_33 => k_33 v24) fun v39 =>
 Gd v36 true (fun k_35 => Ca Try.prog (.fn (.func 18) [] []) [v38, v39] k_35) fun v40 =>
 Pu Try.prog .pick [v36, v40, (.p (.bool false))] fun v41 =>
 Rt Try.prog H.nx v41 Q
 ) (
 Ca Try.prog (.fn (.func 11) [] []) [] fun v25_37 =>
 Gd v25_37 true (fun k_39 => k_39 v16) fun v27_38 =>
 Gd v25_37 true (fun k_41 => k_41 v19) fun v28_40 =>
 Gd v25_37 true (fun k_43 => Pu Try.prog (.bin .eql 28) [v27_38, v28_40] k_43) fun v29_42 =>
 Pu Try.prog .pick [v25_37, v29_42, (.p (.bool false))] fun v30_44 =>
 Gd v30_44 true (fun k_46 => k_46 v15) fun v32_45 =>
 Gd v30_44 true (fun k_48 => k_48 (.p (.slice none 0 0))) fun v33_47 =>
 Gd v30_44 true (fun k_50 => Pu Try.prog (.bin .neq 37) [v33_47, (.p (.slice none 0 0))] k_50) fun v34_49 =>
 Gd v30_44 true (fun k_52 => Pu Try.prog (.bin .eql 4) [v32_45, v34_49] k_52) fun v35_51 =>
 Pu Try.prog .pick [v30_44, v35_51, (.p (.bool false))] fun v36_53 =>
 Gd v36_53 true (fun k_55 => k_55 v14) fun v38_54 =>
 Gd v36_53 true (fun k_57 => k_57 (.p (.slice none 0 0))) fun v39_56 =>
 Gd v36_53 true (fun k_59 => Ca Try.prog (.fn (.func 18) [] []) [v38_54, v39_56] k_59) fun v40_58 =>
 Pu Try.prog .pick [v36_53, v40_58, (.p (.bool false))] fun v41_60 =>
 Rt Try.prog H.nx v41_60 Q
 )
 ) H
theorem eq_wordhoardlaw_SpeechSays (a0 a1 : AV) (Q : AV → AH → Prop) (H : AH) : FnA Try.prog 42 (regsF Try.f4) ac_wordhoardlaw_SpeechSays [.tm 4] [a0, a1] H Q = S_wordhoardlaw_SpeechSays a0 a1 Q H := by kernel_rfl
theorem tri_wordhoardlaw_SpeechSays {a0 a1 : AV} {H : AH} {Q : AV → AH → Prop} (h : S_wordhoardlaw_SpeechSays a0 a1 Q H) : Tri Try.prog 4 [a0, a1] H Q :=
  tri_of (Ms := [#[], #[], #[], #[], #[], #[], #[]]) mixed Try.func4 rfl (by kernel_rfl) (by kernel_rfl) rfl (of_decide_eq_true rfl : 2 ≤ 42) (by rw [eq_wordhoardlaw_SpeechSays a0 a1 Q H]; exact h : FnA Try.prog 42 (regsF Try.f4) ac_wordhoardlaw_SpeechSays [.tm 4] [a0, a1] H Q)

/-! wordhoard/wordhoardlaw.SpeechRight -/
/-! wordhoard/wordhoardlaw.SpeechCutless -/
/-! wordhoard/wordhoardlaw.SpeechLambek -/
/-! wordhoard/wordhoardlaw.asksRight -/
/-! slices.ContainsFunc[[][]wordhoard/api.Part,[]wordhoard/api.Part] -/
def ac_slices_ContainsFunc_s_s_api_Part_s_api_Part : AC := (.seq (.reg 0) (.seq (.reg 1) .ret))
def S_slices_ContainsFunc_s_s_api_Part_s_api_Part (a0 a1 : AV) (Q : AV → AH → Prop) (H : AH) : Prop := (
 Ca Try.prog (.fn (.func 67) [] []) [a0, a1] fun v7 =>
 Pu Try.prog (.bin .geq 3) [v7, (.p (.int .i64 0))] fun v8 =>
 Rt Try.prog H.nx v8 Q
 ) H
theorem eq_slices_ContainsFunc_s_s_api_Part_s_api_Part (a0 a1 : AV) (Q : AV → AH → Prop) (H : AH) : FnA Try.prog 9 (regsF Try.f43) ac_slices_ContainsFunc_s_s_api_Part_s_api_Part [.tm 4] [a0, a1] H Q = S_slices_ContainsFunc_s_s_api_Part_s_api_Part a0 a1 Q H := by kernel_rfl
theorem tri_slices_ContainsFunc_s_s_api_Part_s_api_Part {a0 a1 : AV} {H : AH} {Q : AV → AH → Prop} (h : S_slices_ContainsFunc_s_s_api_Part_s_api_Part a0 a1 Q H) : Tri Try.prog 43 [a0, a1] H Q :=
  tri_of (Ms := [#[], #[]]) mixed Try.func43 rfl (by kernel_rfl) (by kernel_rfl) rfl (of_decide_eq_true rfl : 2 ≤ 9) (by rw [eq_slices_ContainsFunc_s_s_api_Part_s_api_Part a0 a1 Q H]; exact h : FnA Try.prog 9 (regsF Try.f43) ac_slices_ContainsFunc_s_s_api_Part_s_api_Part [.tm 4] [a0, a1] H Q)

/-! slices.Clone[[]int,int] -/
/-! slices.IndexFunc[[][]wordhoard/api.Part,[]wordhoard/api.Part] -/
def ac_slices_IndexFunc_s_s_api_Part_s_api_Part : AC := (.seq (.reg 0) (.seq (.seq (.reg 1) (.block 0 (.loop [8] [(4, 6), (9, 19)] (.seq (.reg 2) (.seq (.cond (.tmp 9) .skip (.exit 0)) (.seq (.block 1 (.seq (.reg 3) (.seq (.reg 4) (.cond (.tmp 16) (.seq (.reg 5) .ret) .skip)))) (.reg 6))))))) (.seq (.reg 7) .ret)))
def S_slices_IndexFunc_s_s_api_Part_s_api_Part_L1 (a0 : AV) (a1 : AV) (Q : AV → AH → Prop) (H : AH) (v7 : AV) (vs : List AV) (k : List AV → AH → Prop) : AH → Prop :=
 Pu Try.prog (.bin .lss 3) [(vs.getD 0 .any), v7] fun v9 =>
 CdA v9
 (
 Pu Try.prog (.idx 1) [a0, (vs.getD 0 .any)] fun v14 =>
 RdS Try.prog (.ld 1 false) [v14] fun v15 =>
 Ca Try.prog a1 [v15] fun v16 =>
 CdA v16
 (
 Rt Try.prog H.nx (vs.getD 0 .any) Q
 ) (
 Pu Try.prog (.bin .add 3) [(vs.getD 0 .any), (.p (.int .i64 1))] fun v18 =>
 k [v18]
 )
 ) (
 Rt Try.prog H.nx (.p (.int .i64 (-1))) Q
 )
def S_slices_IndexFunc_s_s_api_Part_s_api_Part (a0 a1 : AV) (Q : AV → AH → Prop) (H : AH) : Prop := (
 Pu Try.prog .len [a0] fun v7 =>
 LoopA Try.prog 1 (S_slices_IndexFunc_s_s_api_Part_s_api_Part_L1 a0 a1 Q H v7) [(.p (.int .i64 0))]
 ) H
theorem eq_slices_IndexFunc_s_s_api_Part_s_api_Part (a0 a1 : AV) (Q : AV → AH → Prop) (H : AH) : FnA Try.prog 19 (regsF Try.f67) ac_slices_IndexFunc_s_s_api_Part_s_api_Part [.tm 4] [a0, a1] H Q = S_slices_IndexFunc_s_s_api_Part_s_api_Part a0 a1 Q H := by kernel_rfl
theorem tri_slices_IndexFunc_s_s_api_Part_s_api_Part {a0 a1 : AV} {H : AH} {Q : AV → AH → Prop} (h : S_slices_IndexFunc_s_s_api_Part_s_api_Part a0 a1 Q H) : Tri Try.prog 67 [a0, a1] H Q :=
  tri_of (Ms := [#[], #[], #[], #[], #[], #[], #[], #[]]) mixed Try.func67 rfl (by kernel_rfl) (by kernel_rfl) rfl (of_decide_eq_true rfl : 2 ≤ 19) (by rw [eq_slices_IndexFunc_s_s_api_Part_s_api_Part a0 a1 Q H]; exact h : FnA Try.prog 19 (regsF Try.f67) ac_slices_IndexFunc_s_s_api_Part_s_api_Part [.tm 4] [a0, a1] H Q)
end Go.Proofs.Ytpmnlikgldacaaa
