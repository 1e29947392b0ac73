/- Texts that the proof rests on, part 8: what each holds stands at its head. -/
import Derived.Test.YtpmnlikgldacaaaSv7

/- Abstract walks of functions, written by a program (wip/aw/aw.py): each equation is checked by the kernel. -/
namespace Go.Proofs.Ytpmnlikgldacaaa
open Go.RowKit

/-! wordhoard/wordhoardref.AsksProof -/
/-! wordhoard/wordhoardref.Proves -/
def ac_wordhoardref_Proves : AC := (.seq (.reg 0) (.seq (.seq (.reg 1) (.cond (.tmp 16) (.seq (.reg 2) .ret) .skip)) (.seq (.seq (.reg 3) (.cond (.tmp 26) (.seq (.reg 4) .ret) .skip)) (.seq (.seq (.reg 5) (.cond (.tmp 64) (.seq (.reg 6) .ret) .skip)) (.seq (.seq (.reg 7) (.block 0 (.loop [5] [(4, 5), (6, 8), (65, 152)] (.seq (.seq (.reg 8) (.cond (.tmp 68) .skip (.exit 0))) (.seq (.block 1 (.seq (.reg 9) (.seq (.reg 10) (.block 2 (.loop [7] [(4, 5), (75, 152)] (.seq (.seq (.reg 11) (.cond (.tmp 78) .skip (.exit 2))) (.seq (.block 3 (.seq (.seq (.reg 12) (.cond (.tmp 116) (.seq (.reg 13) .ret) .skip)) (.seq (.reg 14) (.cond (.tmp 151) (.seq (.reg 15) .ret) .skip)))) (.reg 16)))))))) (.reg 17)))))) (.seq (.reg 18) .ret))))))
def S_wordhoardref_Proves_C1 (a0 : AV) (Q : AV → AH → Prop) (H : AH) (v3 : AV) (vs : List AV) (v6 : AV) (k_142 : List AV → AH → Prop) (vs_143 : List AV) : AH → Prop :=
 Rg 35 fun b_235 =>
 Vw fun V_236 =>
 Pu Try.prog (.addOff 0) [v6] fun v117 =>
 Rd Try.prog V_236 (.ld 1 false) [v117] fun v118 =>
 Pu Try.prog (.bin .eql 3) [v118, (.p (.int .i64 3))] fun v119 =>
 GdV v119 true (fun k_241 => k_241 (vs_143.getD 0 .any) V_236) V_236 fun v121 V_242 =>
 GdV v119 true (fun k_244 => k_244 (vs.getD 0 .any) V_242) V_242 fun v122 V_245 =>
 GdV v119 true (fun k_247 => Pu Try.prog (.bin .lss 3) [v121, v122] (fun a => k_247 a V_245)) V_245 fun v123 V_248 =>
 Pu Try.prog .pick [v119, v123, (.p (.bool false))] fun v124 =>
 GdV v124 true (fun k_251 => k_251 a0 V_248) V_248 fun v126 V_252 =>
 GdV v124 true (fun k_254 => k_254 (vs_143.getD 0 .any) V_252) V_252 fun v127 V_255 =>
 GdV v124 true (fun k_257 => k_257 (vs.getD 0 .any) V_255) V_255 fun v128 V_258 =>
 GdV v124 true (fun k_260 => Pu Try.prog (.slc 3 true true) [v126, v127, v128] (fun a => k_260 a V_258)) V_258 fun v129 V_261 =>
 GdV v124 true (fun k_263 => Pu Try.prog (.addOff 2) [v6] (fun a => k_263 a V_261)) V_261 fun v130 V_264 =>
 GdV v124 true (fun k_266 => Rd Try.prog V_264 (.ld 1 false) [v130] (fun a => k_266 a V_264)) V_264 fun v131 V_267 =>
 GdV v124 true (fun k_269 => Pu Try.prog (.idx 3) [v131, (.p (.int .i64 0))] (fun a => k_269 a V_267)) V_267 fun v132 V_270 =>
 GdV v124 true (fun k_272 => Rd Try.prog V_270 (.ld 3 true) [v132] (fun a => k_272 a V_270)) V_270 fun v133 V_273 =>
 GdV v124 true (fun k_275 => CaV Try.prog V_273 (.fn (.func 12) [] []) [v129, v133] (fun a => k_275 a V_273)) V_273 fun v134 V_276 =>
 Pu Try.prog .pick [v124, v134, (.p (.bool false))] fun v135 =>
 GdV v135 true (fun k_279 => k_279 a0 V_276) V_276 fun v137 V_280 =>
 GdV v135 true (fun k_282 => k_282 (vs_143.getD 0 .any) V_280) V_280 fun v138 V_283 =>
 GdV v135 true (fun k_285 => Pu Try.prog (.slc 3 false true) [v137, v138] (fun a => k_285 a V_283)) V_283 fun v139 V_286 =>
 GdV v135 true (fun k_288 => Pu Try.prog (.addOff 2) [v6] (fun a => k_288 a V_286)) V_286 fun v140 V_289 =>
 GdV v135 true (fun k_291 => Rd Try.prog V_289 (.ld 1 false) [v140] (fun a => k_291 a V_289)) V_289 fun v141 V_292 =>
 GdV v135 true (fun k_294 => Pu Try.prog (.slc 3 true false) [v141, (.p (.int .i64 1))] (fun a => k_294 a V_292)) V_292 fun v142 V_295 =>
 GdV v135 true (fun k_297 => k_297 a0 V_295) V_295 fun v143 V_298 =>
 GdV v135 true (fun k_300 => k_300 (vs.getD 0 .any) V_298) V_298 fun v144 V_301 =>
 GdV v135 true (fun k_303 => Pu Try.prog (.bin .add 3) [v144, (.p (.int .i64 1))] (fun a => k_303 a V_301)) V_301 fun v145 V_304 =>
 GdV v135 true (fun k_306 => Pu Try.prog (.slc 3 true false) [v143, v145] (fun a => k_306 a V_304)) V_304 fun v146 V_307 =>
 GdV v135 true (fun k_309 => Al (b_235 + 30) (.bs 22 1 3 [.p (.slice none 0 0)] [(0, 1), (1, 1), (2, 1)]) [v139, v142, v146] (fun a => k_309 a V_307)) V_307 fun v147 V_310 =>
 GdV v135 true (fun k_312 => CaN Try.prog V_310 [(b_235 + 30)] (.fn (.func 36) [] []) [v147] (fun a => k_312 a V_310)) V_310 fun v148 V_313 =>
 GdV v135 true (fun k_315 => Rd Try.prog V_313 (.ld 3 true) [v3] (fun a => k_315 a V_313)) V_313 fun v149 V_316 =>
 GdV v135 true (fun k_318 => CaV Try.prog V_316 (.fn (.func 12) [] []) [v148, v149] (fun a => k_318 a V_316)) V_316 fun v150 _ =>
 Pu Try.prog .pick [v135, v150, (.p (.bool false))] fun v151 =>
 CdA v151
 (
 Rt Try.prog H.nx (.p (.bool true)) Q
 ) (
 Pu Try.prog (.bin .add 3) [(vs_143.getD 0 .any), (.p (.int .i64 1))] fun v80 =>
 k_142 [v80]
 )
def S_wordhoardref_Proves_C2 (a0 : AV) (Q : AV → AH → Prop) (H : AH) (v3 : AV) (vs : List AV) (v6 : AV) (k_142 : List AV → AH → Prop) (vs_143 : List AV) : AH → Prop :=
 Rg 36 fun b_146 =>
 Vw fun V_147 =>
 Pu Try.prog (.addOff 0) [v6] fun v81 =>
 Rd Try.prog V_147 (.ld 1 false) [v81] fun v82 =>
 Pu Try.prog (.bin .eql 3) [v82, (.p (.int .i64 2))] fun v83 =>
 GdV v83 true (fun k_152 => k_152 (vs_143.getD 0 .any) V_147) V_147 fun v85 V_153 =>
 GdV v83 true (fun k_155 => k_155 (vs.getD 0 .any) V_153) V_153 fun v86 V_156 =>
 GdV v83 true (fun k_158 => Pu Try.prog (.bin .add 3) [v86, (.p (.int .i64 1))] (fun a => k_158 a V_156)) V_156 fun v87 V_159 =>
 GdV v83 true (fun k_161 => Pu Try.prog (.bin .gtr 3) [v85, v87] (fun a => k_161 a V_159)) V_159 fun v88 V_162 =>
 Pu Try.prog .pick [v83, v88, (.p (.bool false))] fun v89 =>
 GdV v89 true (fun k_165 => k_165 a0 V_162) V_162 fun v91 V_166 =>
 GdV v89 true (fun k_168 => k_168 (vs.getD 0 .any) V_166) V_166 fun v92 V_169 =>
 GdV v89 true (fun k_171 => Pu Try.prog (.bin .add 3) [v92, (.p (.int .i64 1))] (fun a => k_171 a V_169)) V_169 fun v93 V_172 =>
 GdV v89 true (fun k_174 => k_174 (vs_143.getD 0 .any) V_172) V_172 fun v94 V_175 =>
 GdV v89 true (fun k_177 => Pu Try.prog (.slc 3 true true) [v91, v93, v94] (fun a => k_177 a V_175)) V_175 fun v95 V_178 =>
 GdV v89 true (fun k_180 => Pu Try.prog (.addOff 2) [v6] (fun a => k_180 a V_178)) V_178 fun v96 V_181 =>
 GdV v89 true (fun k_183 => Rd Try.prog V_181 (.ld 1 false) [v96] (fun a => k_183 a V_181)) V_181 fun v97 V_184 =>
 GdV v89 true (fun k_186 => Pu Try.prog (.idx 3) [v97, (.p (.int .i64 1))] (fun a => k_186 a V_184)) V_184 fun v98 V_187 =>
 GdV v89 true (fun k_189 => Rd Try.prog V_187 (.ld 3 true) [v98] (fun a => k_189 a V_187)) V_187 fun v99 V_190 =>
 GdV v89 true (fun k_192 => CaV Try.prog V_190 (.fn (.func 12) [] []) [v95, v99] (fun a => k_192 a V_190)) V_190 fun v100 V_193 =>
 Pu Try.prog .pick [v89, v100, (.p (.bool false))] fun v101 =>
 GdV v101 true (fun k_196 => k_196 a0 V_193) V_193 fun v103 V_197 =>
 GdV v101 true (fun k_199 => k_199 (vs.getD 0 .any) V_197) V_197 fun v104 V_200 =>
 GdV v101 true (fun k_202 => Pu Try.prog (.slc 3 false true) [v103, v104] (fun a => k_202 a V_200)) V_200 fun v105 V_203 =>
 GdV v101 true (fun k_205 => Pu Try.prog (.addOff 2) [v6] (fun a => k_205 a V_203)) V_203 fun v106 V_206 =>
 GdV v101 true (fun k_208 => Rd Try.prog V_206 (.ld 1 false) [v106] (fun a => k_208 a V_206)) V_206 fun v107 V_209 =>
 GdV v101 true (fun k_211 => Pu Try.prog (.slc 3 false true) [v107, (.p (.int .i64 1))] (fun a => k_211 a V_209)) V_209 fun v108 V_212 =>
 GdV v101 true (fun k_214 => k_214 a0 V_212) V_212 fun v109 V_215 =>
 GdV v101 true (fun k_217 => k_217 (vs_143.getD 0 .any) V_215) V_215 fun v110 V_218 =>
 GdV v101 true (fun k_220 => Pu Try.prog (.slc 3 true false) [v109, v110] (fun a => k_220 a V_218)) V_218 fun v111 V_221 =>
 GdV v101 true (fun k_223 => Al (b_146 + 31) (.bs 22 1 3 [.p (.slice none 0 0)] [(0, 1), (1, 1), (2, 1)]) [v105, v108, v111] (fun a => k_223 a V_221)) V_221 fun v112 V_224 =>
 GdV v101 true (fun k_226 => CaN Try.prog V_224 [(b_146 + 31)] (.fn (.func 36) [] []) [v112] (fun a => k_226 a V_224)) V_224 fun v113 V_227 =>
 GdV v101 true (fun k_229 => Rd Try.prog V_227 (.ld 3 true) [v3] (fun a => k_229 a V_227)) V_227 fun v114 V_230 =>
 GdV v101 true (fun k_232 => CaV Try.prog V_230 (.fn (.func 12) [] []) [v113, v114] (fun a => k_232 a V_230)) V_230 fun v115 _ =>
 Pu Try.prog .pick [v101, v115, (.p (.bool false))] fun v116 =>
 CdA v116
 (
 Rt Try.prog H.nx (.p (.bool true)) Q
 ) (S_wordhoardref_Proves_C1 a0 Q H v3 vs v6 k_142 vs_143)
def S_wordhoardref_Proves_L3 (a0 : AV) (Q : AV → AH → Prop) (H : AH) (v3 : AV) (k_133 : List AV → AH → Prop) (vs : List AV) (v6 : AV) (vs_143 : List AV) (k_142 : List AV → AH → Prop) : AH → Prop :=
 Pu Try.prog .len [a0] fun v77 =>
 Pu Try.prog (.bin .leq 3) [(vs_143.getD 0 .any), v77] fun v78 =>
 CdA v78
 (S_wordhoardref_Proves_C2 a0 Q H v3 vs v6 k_142 vs_143) (
 Pu Try.prog (.bin .add 3) [(vs.getD 0 .any), (.p (.int .i64 1))] fun v70 =>
 k_133 [v70]
 )
def S_wordhoardref_Proves_L4 (a0 : AV) (Q : AV → AH → Prop) (H : AH) (v3 : AV) (vs : List AV) (k_133 : List AV → AH → Prop) : AH → Prop :=
 Pu Try.prog .len [a0] fun v67 =>
 Pu Try.prog (.bin .lss 3) [(vs.getD 0 .any), v67] fun v68 =>
 CdA v68
 (
 Rg 6 fun b_137 =>
 Pu Try.prog (.idx 3) [a0, (vs.getD 0 .any)] fun v73 =>
 RdS Try.prog (.ld 3 true) [v73] fun v74 =>
 Al (b_137 + 4) (.nw 24 [.p (.int .i64 0), .p (.int .i64 0), .p (.slice none 0 0)]) [] fun v6 =>
 WrS Try.prog (b_137 + 5) (.st 3) [v6, v74] fun _ =>
 LoopA Try.prog 1 (S_wordhoardref_Proves_L3 a0 Q H v3 k_133 vs v6) [(.p (.int .i64 0))]
 ) (
 Rt Try.prog H.nx (.p (.bool false)) Q
 )
def S_wordhoardref_Proves_C5 (a0 : AV) (Q : AV → AH → Prop) (H : AH) (v3 : AV) : AH → Prop :=
 Rg 38 fun b_33 =>
 Vw fun V_34 =>
 Pu Try.prog (.addOff 0) [v3] fun v27 =>
 Rd Try.prog V_34 (.ld 1 false) [v27] fun v28 =>
 Pu Try.prog (.bin .eql 3) [v28, (.p (.int .i64 2))] fun v29 =>
 GdV v29 true (fun k_39 => k_39 a0 V_34) V_34 fun v31 V_40 =>
 GdV v29 true (fun k_42 => Pu Try.prog (.addOff 2) [v3] (fun a => k_42 a V_40)) V_40 fun v32 V_43 =>
 GdV v29 true (fun k_45 => Rd Try.prog V_43 (.ld 1 false) [v32] (fun a => k_45 a V_43)) V_43 fun v33 V_46 =>
 GdV v29 true (fun k_48 => Pu Try.prog (.idx 3) [v33, (.p (.int .i64 1))] (fun a => k_48 a V_46)) V_46 fun v34 V_49 =>
 GdV v29 true (fun k_51 => Rd Try.prog V_49 (.ld 3 true) [v34] (fun a => k_51 a V_49)) V_49 fun v35 V_52 =>
 GdV v29 true (fun k_54 => Al (b_33 + 9) (.bs 24 3 1 [.p (.int .i64 0), .p (.int .i64 0), .p (.slice none 0 0)] [(0, 3)]) [v35] (fun a => k_54 a V_52)) V_52 fun v36 V_55 =>
 GdV v29 true (fun k_57 => Al (b_33 + 10) (.bs 22 1 2 [.p (.slice none 0 0)] [(0, 1), (1, 1)]) [v31, v36] (fun a => k_57 a V_55)) V_55 fun v37 V_58 =>
 GdV v29 true (fun k_60 => CaN Try.prog V_58 [(b_33 + 10), (b_33 + 9)] (.fn (.func 36) [] []) [v37] (fun a => k_60 a V_58)) V_58 fun v38 V_61 =>
 GdV v29 true (fun k_63 => Pu Try.prog (.addOff 2) [v3] (fun a => k_63 a V_61)) V_61 fun v39 V_64 =>
 GdV v29 true (fun k_66 => Rd Try.prog V_64 (.ld 1 false) [v39] (fun a => k_66 a V_64)) V_64 fun v40 V_67 =>
 GdV v29 true (fun k_69 => Pu Try.prog (.idx 3) [v40, (.p (.int .i64 0))] (fun a => k_69 a V_67)) V_67 fun v41 V_70 =>
 GdV v29 true (fun k_72 => Rd Try.prog V_70 (.ld 3 true) [v41] (fun a => k_72 a V_70)) V_70 fun v42 V_73 =>
 GdV v29 true (fun k_75 => CaV Try.prog V_73 (.fn (.func 12) [] []) [v38, v42] (fun a => k_75 a V_73)) V_73 fun v43 V_76 =>
 Pu Try.prog .pick [v29, v43, (.p (.bool false))] fun v44 =>
 GdV v44 false (fun k_79 => Pu Try.prog (.addOff 0) [v3] (fun a => k_79 a V_76)) V_76 fun v46 V_80 =>
 GdV v44 false (fun k_82 => Rd Try.prog V_80 (.ld 1 false) [v46] (fun a => k_82 a V_80)) V_80 fun v47 V_83 =>
 GdV v44 false (fun k_85 => Pu Try.prog (.bin .eql 3) [v47, (.p (.int .i64 3))] (fun a => k_85 a V_83)) V_83 fun v48 V_86 =>
 GdV v44 false (fun k_88 => k_88 v48 V_86) V_86 fun v49 V_89 =>
 GdV v49 true (fun k_91 => Pu Try.prog (.addOff 2) [v3] (fun a => k_91 a V_89)) V_89 fun v50 V_92 =>
 GdV v49 true (fun k_94 => Rd Try.prog V_92 (.ld 1 false) [v50] (fun a => k_94 a V_92)) V_92 fun v51 V_95 =>
 GdV v49 true (fun k_97 => Pu Try.prog (.idx 3) [v51, (.p (.int .i64 0))] (fun a => k_97 a V_95)) V_95 fun v52 V_98 =>
 GdV v49 true (fun k_100 => Rd Try.prog V_98 (.ld 3 true) [v52] (fun a => k_100 a V_98)) V_98 fun v53 V_101 =>
 GdV v49 true (fun k_103 => Al (b_33 + 27) (.bs 24 3 1 [.p (.int .i64 0), .p (.int .i64 0), .p (.slice none 0 0)] [(0, 3)]) [v53] (fun a => k_103 a V_101)) V_101 fun v54 V_104 =>
 GdV v49 true (fun k_106 => k_106 a0 V_104) V_104 fun v55 V_107 =>
 GdV v49 true (fun k_109 => Al (b_33 + 29) (.bs 22 1 2 [.p (.slice none 0 0)] [(0, 1), (1, 1)]) [v54, v55] (fun a => k_109 a V_107)) V_107 fun v56 V_110 =>
 GdV v49 true (fun k_112 => CaN Try.prog V_110 [(b_33 + 29), (b_33 + 27)] (.fn (.func 36) [] []) [v56] (fun a => k_112 a V_110)) V_110 fun v57 V_113 =>
 GdV v49 true (fun k_115 => Pu Try.prog (.addOff 2) [v3] (fun a => k_115 a V_113)) V_113 fun v58 V_116 =>
 GdV v49 true (fun k_118 => Rd Try.prog V_116 (.ld 1 false) [v58] (fun a => k_118 a V_116)) V_116 fun v59 V_119 =>
 GdV v49 true (fun k_121 => Pu Try.prog (.idx 3) [v59, (.p (.int .i64 1))] (fun a => k_121 a V_119)) V_119 fun v60 V_122 =>
 GdV v49 true (fun k_124 => Rd Try.prog V_122 (.ld 3 true) [v60] (fun a => k_124 a V_122)) V_122 fun v61 V_125 =>
 GdV v49 true (fun k_127 => CaV Try.prog V_125 (.fn (.func 12) [] []) [v57, v61] (fun a => k_127 a V_125)) V_125 fun v62 V_128 =>
 GdV v44 false (fun k_130 => Pu Try.prog .pick [v49, v62, (.p (.bool false))] (fun a => k_130 a V_128)) V_128 fun v63 _ =>
 Pu Try.prog .pick [v44, (.p (.bool true)), v63] fun v64 =>
 CdA v64
 (
 Rt Try.prog H.nx (.p (.bool true)) Q
 ) (
 LoopA Try.prog 1 (S_wordhoardref_Proves_L4 a0 Q H v3) [(.p (.int .i64 0))]
 )
def S_wordhoardref_Proves (a0 a1 : AV) (Q : AV → AH → Prop) (H : AH) : Prop := (
 Rg 2 fun b =>
 Al (b + 0) (.bx 24) [a1] fun v3 =>
 Pu Try.prog .len [a0] fun v9 =>
 Pu Try.prog (.bin .eql 3) [v9, (.p (.int .i64 0))] fun v10 =>
 Gd v10 false (fun k => k a0) fun v12 =>
 Gd v10 false (fun k_8 => RdS Try.prog (.ld 3 true) [v3] k_8) fun v13 =>
 Gd v10 false (fun k_10 => Ca Try.prog (.fn (.func 30) [] []) [v12, v13] k_10) fun v14 =>
 Gd v10 false (fun k_12 => Pu Try.prog (.un .not) [v14] k_12) fun v15 =>
 Pu Try.prog .pick [v10, (.p (.bool true)), v15] fun v16 =>
 CdA v16
 (
 Rt Try.prog H.nx (.p (.bool false)) Q
 ) (
 Vw fun V =>
 Pu Try.prog .len [a0] fun v18 =>
 Pu Try.prog (.bin .eql 3) [v18, (.p (.int .i64 1))] fun v19 =>
 GdV v19 true (fun k_18 => k_18 a0 V) V fun v21 V_19 =>
 GdV v19 true (fun k_21 => Pu Try.prog (.idx 3) [v21, (.p (.int .i64 0))] (fun a => k_21 a V_19)) V_19 fun v22 V_22 =>
 GdV v19 true (fun k_24 => Rd Try.prog V_22 (.ld 3 true) [v22] (fun a => k_24 a V_22)) V_22 fun v23 V_25 =>
 GdV v19 true (fun k_27 => Rd Try.prog V_25 (.ld 3 true) [v3] (fun a => k_27 a V_25)) V_25 fun v24 V_28 =>
 GdV v19 true (fun k_30 => CaV Try.prog V_28 (.fn (.func 25) [] []) [v23, v24] (fun a => k_30 a V_28)) V_28 fun v25 _ =>
 Pu Try.prog .pick [v19, v25, (.p (.bool false))] fun v26 =>
 CdA v26
 (
 Rt Try.prog H.nx (.p (.bool true)) Q
 ) (S_wordhoardref_Proves_C5 a0 Q H v3)
 )
 ) H
theorem eq_wordhoardref_Proves (a0 a1 : AV) (Q : AV → AH → Prop) (H : AH) : FnA Try.prog 152 (regsF Try.f12) ac_wordhoardref_Proves [.tm 4] [a0, a1] H Q = S_wordhoardref_Proves a0 a1 Q H := by kernel_rfl
theorem tri_wordhoardref_Proves {a0 a1 : AV} {H : AH} {Q : AV → AH → Prop} (h : S_wordhoardref_Proves a0 a1 Q H) : Tri Try.prog 12 [a0, a1] H Q :=
  tri_of (Ms := [#[], #[], #[], #[0, 1, 3, 7, 15, 31, 63, 15, 255, 511], #[], #[0, 1, 3, 7, 15, 15, 47, 111, 239, 495, 1023, 2047, 15, 4111, 12303, 28687, 65535, 131071, 262143, 524287, 1048575, 2097151, 4194303, 8388607, 16777215, 33554431, 67108863, 134217727, 8388607, 536870911, 1073741823, 8388607, 2155872255, 6450839551, 15040774143, 34359738367, 68719476735, 137438953471], #[], #[], #[], #[], #[], #[], #[0, 1, 3, 7, 15, 15, 47, 127, 255, 511, 1023, 1023, 3071, 1023, 16383, 1023, 33791, 99327, 230399, 524287, 1048575, 2097151, 4194303, 4194303, 16777215, 4194303, 37748735, 104857599, 4194303, 4194303, 809500671, 2147483647, 4294967295, 4194303, 17179869183, 34359738367], #[], #[0, 1, 3, 7, 15, 15, 63, 127, 255, 511, 511, 511, 4095, 511, 8703, 25087, 57855, 131071, 262143, 524287, 1048575, 1048575, 4194303, 1048575, 9437183, 26214399, 1048575, 1048575, 135266303, 470810623, 1073741823, 2147483647, 1048575, 8589934591, 17179869183], #[], #[], #[], #[]]) mixed Try.func12 rfl (by kernel_rfl) (by kernel_rfl) rfl (of_decide_eq_true rfl : 2 ≤ 152) (by rw [eq_wordhoardref_Proves a0 a1 Q H]; exact h : FnA Try.prog 152 (regsF Try.f12) ac_wordhoardref_Proves [.tm 4] [a0, a1] H Q)

/-! wordhoard/wordhoardref.CheckPart -/
def ac_wordhoardref_CheckPart : AC := (.seq (.reg 0) (.seq (.seq (.reg 1) (.cond (.tmp 5) (.seq (.reg 2) .ret) .skip)) (.seq (.reg 3) .ret)))
def S_wordhoardref_CheckPart (a0 : AV) (Q : AV → AH → Prop) (H : AH) : Prop := (
 Rg 2 fun b =>
 Al (b + 0) (.bx 24) [a0] fun v1 =>
 RdS Try.prog (.ld 3 true) [v1] fun v3 =>
 Ca Try.prog (.fn (.func 50) [] []) [v3, (.p (.int .i64 15))] fun v4 =>
 Pu Try.prog (.bin .gtr 3) [v4, (.p (.int .i64 15))] fun v5 =>
 CdA v5
 (
 Rt Try.prog H.nx (.p (.int .i64 7)) Q
 ) (
 RdS Try.prog (.ld 3 true) [v1] fun v6 =>
 Ca Try.prog (.fn (.func 51) [] []) [v6] fun v7 =>
 Rt Try.prog H.nx v7 Q
 )
 ) H
theorem eq_wordhoardref_CheckPart (a0 : AV) (Q : AV → AH → Prop) (H : AH) : FnA Try.prog 8 (regsF Try.f19) ac_wordhoardref_CheckPart [.tm 2] [a0] H Q = S_wordhoardref_CheckPart a0 Q H := by kernel_rfl
theorem tri_wordhoardref_CheckPart {a0 : AV} {H : AH} {Q : AV → AH → Prop} (h : S_wordhoardref_CheckPart a0 Q H) : Tri Try.prog 19 [a0] H Q :=
  tri_of (Ms := [#[], #[], #[], #[]]) mixed Try.func19 rfl (by kernel_rfl) (by kernel_rfl) rfl (of_decide_eq_true rfl : 1 ≤ 8) (by rw [eq_wordhoardref_CheckPart a0 Q H]; exact h : FnA Try.prog 8 (regsF Try.f19) ac_wordhoardref_CheckPart [.tm 2] [a0] H Q)

/-! wordhoard/wordhoardref.SamePart -/
def ac_wordhoardref_SamePart : AC := (.seq (.reg 0) (.seq (.reg 1) .ret))
def S_wordhoardref_SamePart (a0 a1 : AV) (Q : AV → AH → Prop) (H : AH) : Prop := (
 Rg 3 fun b =>
 Al (b + 0) (.bx 24) [a0] fun v2 =>
 Al (b + 1) (.bx 24) [a1] fun v3 =>
 Pu Try.prog (.addOff 0) [v2] fun v5 =>
 RdS Try.prog (.ld 1 false) [v5] fun v6 =>
 Pu Try.prog (.addOff 0) [v3] fun v7 =>
 RdS Try.prog (.ld 1 false) [v7] fun v8 =>
 Pu Try.prog (.bin .eql 3) [v6, v8] fun v9 =>
 Gd v9 true (fun k => Pu Try.prog (.addOff 1) [v2] k) fun v11 =>
 Gd v9 true (fun k_12 => RdS Try.prog (.ld 1 false) [v11] k_12) fun v12 =>
 Gd v9 true (fun k_14 => Pu Try.prog (.addOff 1) [v3] k_14) fun v13 =>
 Gd v9 true (fun k_16 => RdS Try.prog (.ld 1 false) [v13] k_16) fun v14 =>
 Gd v9 true (fun k_18 => Pu Try.prog (.bin .eql 3) [v12, v14] k_18) fun v15 =>
 Pu Try.prog .pick [v9, v15, (.p (.bool false))] fun v16 =>
 Gd v16 true (fun k_21 => Pu Try.prog (.addOff 2) [v2] k_21) fun v18 =>
 Gd v16 true (fun k_23 => RdS Try.prog (.ld 1 false) [v18] k_23) fun v19 =>
 Gd v16 true (fun k_25 => Pu Try.prog (.addOff 2) [v3] k_25) fun v20 =>
 Gd v16 true (fun k_27 => RdS Try.prog (.ld 1 false) [v20] k_27) fun v21 =>
 Gd v16 true (fun k_29 => Ca Try.prog (.fn (.func 42) [] []) [v19, v21] k_29) fun v22 =>
 Pu Try.prog .pick [v16, v22, (.p (.bool false))] fun v23 =>
 Rt Try.prog H.nx v23 Q
 ) H
theorem eq_wordhoardref_SamePart (a0 a1 : AV) (Q : AV → AH → Prop) (H : AH) : FnA Try.prog 24 (regsF Try.f25) ac_wordhoardref_SamePart [.tm 4] [a0, a1] H Q = S_wordhoardref_SamePart a0 a1 Q H := by kernel_rfl
theorem tri_wordhoardref_SamePart {a0 a1 : AV} {H : AH} {Q : AV → AH → Prop} (h : S_wordhoardref_SamePart a0 a1 Q H) : Tri Try.prog 25 [a0, a1] H Q :=
  tri_of (Ms := [#[], #[]]) mixed Try.func25 rfl (by kernel_rfl) (by kernel_rfl) rfl (of_decide_eq_true rfl : 2 ≤ 24) (by rw [eq_wordhoardref_SamePart a0 a1 Q H]; exact h : FnA Try.prog 24 (regsF Try.f25) ac_wordhoardref_SamePart [.tm 4] [a0, a1] H Q)

/-! wordhoard/wordhoardref.RightProof -/
def S_wordhoardref_RightProof_C2 (Q : AV → AH → Prop) (H : AH) (v1 : AV) : AH → Prop :=
 Rg 14 fun b_101 =>
 Vw fun V_102 =>
 Pu Try.prog (.addOff 2) [v1] fun v85 =>
 Pu Try.prog (.addOff 2) [v85] fun v86 =>
 Rd Try.prog V_102 (.ld 1 false) [v86] fun v87 =>
 Pu Try.prog (.idx 3) [v87, (.p (.int .i64 0))] fun v88 =>
 Rd Try.prog V_102 (.ld 3 true) [v88] fun v89 =>
 Pu Try.prog (.addOff 2) [v1] fun v90 =>
 Pu Try.prog (.addOff 2) [v90] fun v91 =>
 Rd Try.prog V_102 (.ld 1 false) [v91] fun v92 =>
 Pu Try.prog (.idx 3) [v92, (.p (.int .i64 1))] fun v93 =>
 Rd Try.prog V_102 (.ld 3 true) [v93] fun v94 =>
 Al (b_101 + 10) (.nw 24 [.p (.int .i64 0), .p (.int .i64 0), .p (.slice none 0 0)]) [] fun v5 =>
 Al (b_101 + 11) (.nw 24 [.p (.int .i64 0), .p (.int .i64 0), .p (.slice none 0 0)]) [] fun v6 =>
 WrF V_102 (some (b_101 + 10)) none (b_101 + 12) (.st 3) [v5, v89] fun _ =>
 WrF V_102 (some (b_101 + 11)) none (b_101 + 13) (.st 3) [v6, v94] fun _ =>
 Pu Try.prog (.addOff 0) [v1] fun v95 =>
 RdS Try.prog (.ld 1 false) [v95] fun v96 =>
 Pu Try.prog (.bin .eql 3) [v96, (.p (.int .i64 2))] fun v97 =>
 CdA v97
 (
 Rg 13 fun b_120 =>
 Vw fun V_121 =>
 Pu Try.prog (.addOff 7) [v1] fun v98 =>
 Rd Try.prog V_121 (.ld 1 false) [v98] fun v99 =>
 Pu Try.prog (.idx 8) [v99, (.p (.int .i64 0))] fun v100 =>
 Rd Try.prog V_121 (.ld 8 true) [v100] fun v101 =>
 Pu Try.prog (.addOff 1) [v1] fun v102 =>
 Rd Try.prog V_121 (.ld 1 false) [v102] fun v103 =>
 Rd Try.prog V_121 (.ld 3 true) [v6] fun v104 =>
 Al (b_120 + 7) (.bs 24 3 1 [.p (.int .i64 0), .p (.int .i64 0), .p (.slice none 0 0)] [(0, 3)]) [v104] fun v105 =>
 Al (b_120 + 8) (.bs 22 1 2 [.p (.slice none 0 0)] [(0, 1), (1, 1)]) [v103, v105] fun v106 =>
 CaN Try.prog V_121 [(b_120 + 8), (b_120 + 7)] (.fn (.func 36) [] []) [v106] fun v107 =>
 Rd Try.prog V_121 (.ld 3 true) [v5] fun v108 =>
 CaV Try.prog V_121 (.fn (.func 60) [] []) [v101, v107, v108] fun v109 =>
 Rt Try.prog H.nx v109 Q
 ) (
 Rg 13 fun b_134 =>
 Vw fun V_135 =>
 Pu Try.prog (.addOff 7) [v1] fun v110 =>
 Rd Try.prog V_135 (.ld 1 false) [v110] fun v111 =>
 Pu Try.prog (.idx 8) [v111, (.p (.int .i64 0))] fun v112 =>
 Rd Try.prog V_135 (.ld 8 true) [v112] fun v113 =>
 Rd Try.prog V_135 (.ld 3 true) [v5] fun v114 =>
 Al (b_134 + 5) (.bs 24 3 1 [.p (.int .i64 0), .p (.int .i64 0), .p (.slice none 0 0)] [(0, 3)]) [v114] fun v115 =>
 Pu Try.prog (.addOff 1) [v1] fun v116 =>
 Rd Try.prog V_135 (.ld 1 false) [v116] fun v117 =>
 Al (b_134 + 8) (.bs 22 1 2 [.p (.slice none 0 0)] [(0, 1), (1, 1)]) [v115, v117] fun v118 =>
 CaN Try.prog V_135 [(b_134 + 8), (b_134 + 5)] (.fn (.func 36) [] []) [v118] fun v119 =>
 Rd Try.prog V_135 (.ld 3 true) [v6] fun v120 =>
 CaV Try.prog V_135 (.fn (.func 60) [] []) [v113, v119, v120] fun v121 =>
 Rt Try.prog H.nx v121 Q
 )
def S_wordhoardref_RightProof_K4 (Q : AV → AH → Prop) (H : AH) (v1 : AV) (v165 : AV) (v10 : AV) (v11 : AV) (vs_231 : List AV) (vs_233 : List AV) : AH → Prop :=
 Rg 23 fun b_234 =>
 Vw fun V_235 =>
 Pu Try.prog (.addOff 7) [v1] fun v246 =>
 Rd Try.prog V_235 (.ld 1 false) [v246] fun v247 =>
 Pu Try.prog (.idx 8) [v247, (.p (.int .i64 0))] fun v248 =>
 Rd Try.prog V_235 (.ld 8 true) [v248] fun v249 =>
 Rd Try.prog V_235 (.ld 3 true) [v11] fun v251 =>
 CaV Try.prog V_235 (.fn (.func 60) [] []) [v249, v165, v251] fun v252 =>
 GdV v252 true (fun k_243 => Pu Try.prog (.addOff 7) [v1] (fun a => k_243 a V_235)) V_235 fun v254 V_244 =>
 GdV v252 true (fun k_246 => Rd Try.prog V_244 (.ld 1 false) [v254] (fun a => k_246 a V_244)) V_244 fun v255 V_247 =>
 GdV v252 true (fun k_249 => Pu Try.prog (.idx 8) [v255, (.p (.int .i64 1))] (fun a => k_249 a V_247)) V_247 fun v256 V_250 =>
 GdV v252 true (fun k_252 => Rd Try.prog V_250 (.ld 8 true) [v256] (fun a => k_252 a V_250)) V_250 fun v257 V_253 =>
 GdV v252 true (fun k_255 => k_255 (vs_231.getD 0 .any) V_253) V_253 fun v258 V_256 =>
 GdV v252 true (fun k_258 => Rd Try.prog V_256 (.ld 3 true) [v10] (fun a => k_258 a V_256)) V_256 fun v259 V_259 =>
 GdV v252 true (fun k_261 => Al (b_234 + 14) (.bs 24 3 1 [.p (.int .i64 0), .p (.int .i64 0), .p (.slice none 0 0)] [(0, 3)]) [v259] (fun a => k_261 a V_259)) V_259 fun v260 V_262 =>
 GdV v252 true (fun k_264 => k_264 (vs_233.getD 0 .any) V_262) V_262 fun v261 V_265 =>
 GdV v252 true (fun k_267 => Al (b_234 + 16) (.bs 22 1 3 [.p (.slice none 0 0)] [(0, 1), (1, 1), (2, 1)]) [v258, v260, v261] (fun a => k_267 a V_265)) V_265 fun v262 V_268 =>
 GdV v252 true (fun k_270 => CaN Try.prog V_268 [(b_234 + 16), (b_234 + 14)] (.fn (.func 36) [] []) [v262] (fun a => k_270 a V_268)) V_268 fun v263 V_271 =>
 GdV v252 true (fun k_273 => Pu Try.prog (.addOff 2) [v1] (fun a => k_273 a V_271)) V_271 fun v264 V_274 =>
 GdV v252 true (fun k_276 => Rd Try.prog V_274 (.ld 3 true) [v264] (fun a => k_276 a V_274)) V_274 fun v265 V_277 =>
 GdV v252 true (fun k_279 => CaV Try.prog V_277 (.fn (.func 60) [] []) [v257, v263, v265] (fun a => k_279 a V_277)) V_277 fun v266 _ =>
 Pu Try.prog .pick [v252, v266, (.p (.bool false))] fun v267 =>
 Rt Try.prog H.nx v267 Q
def S_wordhoardref_RightProof_C5 (Q : AV → AH → Prop) (H : AH) (v173 : AV) (v10 : AV) (v11 : AV) (k_232 : List AV → AH → Prop) : AH → Prop :=
 Pu Try.prog .len [v173] fun v223 =>
 Pu Try.prog (.bin .eql 3) [v223, (.p (.int .i64 0))] fun v224 =>
 Gd v224 false (fun k_288 => k_288 v173) fun v226 =>
 Gd v224 false (fun k_290 => Pu Try.prog (.idx 3) [v226, (.p (.int .i64 0))] k_290) fun v227 =>
 Gd v224 false (fun k_292 => Pu Try.prog (.addOff 0) [v227] k_292) fun v228 =>
 Gd v224 false (fun k_294 => RdS Try.prog (.ld 1 false) [v228] k_294) fun v229 =>
 Gd v224 false (fun k_296 => Pu Try.prog (.bin .neq 3) [v229, (.p (.int .i64 3))] k_296) fun v230 =>
 Pu Try.prog .pick [v224, (.p (.bool true)), v230] fun v231 =>
 CdA v231
 (
 Rt Try.prog H.nx (.p (.bool false)) Q
 ) (
 Rg 17 fun b_298 =>
 VwD fun V_299 =>
 Pu Try.prog (.idx 3) [v173, (.p (.int .i64 0))] fun v233 =>
 Pu Try.prog (.addOff 2) [v233] fun v234 =>
 Rd Try.prog V_299 (.ld 1 false) [v234] fun v235 =>
 Pu Try.prog (.idx 3) [v235, (.p (.int .i64 1))] fun v236 =>
 Rd Try.prog V_299 (.ld 3 true) [v236] fun v237 =>
 Pu Try.prog (.idx 3) [v173, (.p (.int .i64 0))] fun v239 =>
 Pu Try.prog (.addOff 2) [v239] fun v240 =>
 Rd Try.prog V_299 (.ld 1 false) [v240] fun v241 =>
 Pu Try.prog (.idx 3) [v241, (.p (.int .i64 0))] fun v242 =>
 Rd Try.prog V_299 (.ld 3 true) [v242] fun v243 =>
 Pu Try.prog (.slc 3 true false) [v173, (.p (.int .i64 1))] fun v245 =>
 WrO V_299 b_298 none (b_298 + 14) (.st 3) [v10, v237] fun _ =>
 Wr Try.prog (b_298 + 15) (.st 3) [v11, v243] fun _ _ =>
 k_232 [v245]
 )
def S_wordhoardref_RightProof_K6 (Q : AV → AH → Prop) (H : AH) (v1 : AV) (v165 : AV) (v173 : AV) (v10 : AV) (v11 : AV) (vs_231 : List AV) : AH → Prop :=
 CutA Try.prog 1 (fun k_232 =>
 Pu Try.prog (.addOff 0) [v1] fun v219 =>
 RdS Try.prog (.ld 1 false) [v219] fun v220 =>
 Pu Try.prog (.bin .eql 3) [v220, (.p (.int .i64 5))] fun v221 =>
 CdA v221
 (S_wordhoardref_RightProof_C5 Q H v173 v10 v11 k_232) (
 k_232 [v173]
 )
 ) (S_wordhoardref_RightProof_K4 Q H v1 v165 v10 v11 vs_231)
def S_wordhoardref_RightProof_C7 (Q : AV → AH → Prop) (H : AH) (v155 : AV) (v10 : AV) (v11 : AV) (k_230 : List AV → AH → Prop) : AH → Prop :=
 Pu Try.prog .len [v155] fun v188 =>
 Pu Try.prog (.bin .eql 3) [v188, (.p (.int .i64 0))] fun v189 =>
 Gd v189 false (fun k_320 => k_320 v155) fun v191 =>
 Gd v189 false (fun k_322 => k_322 v155) fun v192 =>
 Gd v189 false (fun k_324 => Pu Try.prog .len [v192] k_324) fun v193 =>
 Gd v189 false (fun k_326 => Pu Try.prog (.bin .sub 3) [v193, (.p (.int .i64 1))] k_326) fun v194 =>
 Gd v189 false (fun k_328 => Pu Try.prog (.idx 3) [v191, v194] k_328) fun v195 =>
 Gd v189 false (fun k_330 => Pu Try.prog (.addOff 0) [v195] k_330) fun v196 =>
 Gd v189 false (fun k_332 => RdS Try.prog (.ld 1 false) [v196] k_332) fun v197 =>
 Gd v189 false (fun k_334 => Pu Try.prog (.bin .neq 3) [v197, (.p (.int .i64 2))] k_334) fun v198 =>
 Pu Try.prog .pick [v189, (.p (.bool true)), v198] fun v199 =>
 CdA v199
 (
 Rt Try.prog H.nx (.p (.bool false)) Q
 ) (
 Rg 8 fun b_336 =>
 Pu Try.prog .len [v155] fun v202 =>
 Pu Try.prog (.bin .sub 3) [v202, (.p (.int .i64 1))] fun v203 =>
 Pu Try.prog (.idx 3) [v155, v203] fun v204 =>
 RdS Try.prog (.ld 3 true) [v204] fun v205 =>
 Al (b_336 + 6) (.nw 24 [.p (.int .i64 0), .p (.int .i64 0), .p (.slice none 0 0)]) [] fun v12 =>
 WrS Try.prog (b_336 + 7) (.st 3) [v12, v205] fun _ =>
 Rg 16 fun b_343 =>
 VwD fun V_344 =>
 Pu Try.prog (.addOff 2) [v12] fun v206 =>
 Rd Try.prog V_344 (.ld 1 false) [v206] fun v207 =>
 Pu Try.prog (.idx 3) [v207, (.p (.int .i64 0))] fun v208 =>
 Rd Try.prog V_344 (.ld 3 true) [v208] fun v209 =>
 Pu Try.prog (.addOff 2) [v12] fun v210 =>
 Rd Try.prog V_344 (.ld 1 false) [v210] fun v211 =>
 Pu Try.prog (.idx 3) [v211, (.p (.int .i64 1))] fun v212 =>
 Rd Try.prog V_344 (.ld 3 true) [v212] fun v213 =>
 Pu Try.prog .len [v155] fun v216 =>
 Pu Try.prog (.bin .sub 3) [v216, (.p (.int .i64 1))] fun v217 =>
 Pu Try.prog (.slc 3 false true) [v155, v217] fun v218 =>
 WrO V_344 b_343 none (b_343 + 13) (.st 3) [v10, v209] fun _ =>
 Wr Try.prog (b_343 + 14) (.st 3) [v11, v213] fun _ _ =>
 k_230 [v218]
 )
def S_wordhoardref_RightProof_C8 (Q : AV → AH → Prop) (H : AH) (v1 : AV) : AH → Prop :=
 Vw fun V_190 =>
 Pu Try.prog (.addOff 1) [v1] fun v151 =>
 Rd Try.prog V_190 (.ld 1 false) [v151] fun v152 =>
 Pu Try.prog (.addOff 5) [v1] fun v153 =>
 Rd Try.prog V_190 (.ld 1 false) [v153] fun v154 =>
 Pu Try.prog (.slc 3 false true) [v152, v154] fun v155 =>
 Pu Try.prog (.addOff 1) [v1] fun v156 =>
 Rd Try.prog V_190 (.ld 1 false) [v156] fun v157 =>
 Pu Try.prog (.addOff 5) [v1] fun v158 =>
 Rd Try.prog V_190 (.ld 1 false) [v158] fun v159 =>
 Pu Try.prog (.addOff 5) [v1] fun v160 =>
 Rd Try.prog V_190 (.ld 1 false) [v160] fun v161 =>
 Pu Try.prog (.addOff 6) [v1] fun v162 =>
 Rd Try.prog V_190 (.ld 1 false) [v162] fun v163 =>
 Pu Try.prog (.bin .add 3) [v161, v163] fun v164 =>
 Pu Try.prog (.slc 3 true true) [v157, v159, v164] fun v165 =>
 Pu Try.prog (.addOff 1) [v1] fun v166 =>
 Rd Try.prog V_190 (.ld 1 false) [v166] fun v167 =>
 Pu Try.prog (.addOff 5) [v1] fun v168 =>
 Rd Try.prog V_190 (.ld 1 false) [v168] fun v169 =>
 Pu Try.prog (.addOff 6) [v1] fun v170 =>
 Rd Try.prog V_190 (.ld 1 false) [v170] fun v171 =>
 Pu Try.prog (.bin .add 3) [v169, v171] fun v172 =>
 Pu Try.prog (.slc 3 true false) [v167, v172] fun v173 =>
 Rg 14 fun b_214 =>
 Vw fun V_215 =>
 Pu Try.prog (.addOff 7) [v1] fun v174 =>
 Rd Try.prog V_215 (.ld 1 false) [v174] fun v175 =>
 Pu Try.prog (.idx 8) [v175, (.p (.int .i64 0))] fun v176 =>
 Pu Try.prog (.addOff 2) [v176] fun v177 =>
 Rd Try.prog V_215 (.ld 3 true) [v177] fun v178 =>
 Pu Try.prog (.addOff 7) [v1] fun v179 =>
 Rd Try.prog V_215 (.ld 1 false) [v179] fun v180 =>
 Pu Try.prog (.idx 8) [v180, (.p (.int .i64 0))] fun v181 =>
 Pu Try.prog (.addOff 2) [v181] fun v182 =>
 Rd Try.prog V_215 (.ld 3 true) [v182] fun v183 =>
 Al (b_214 + 10) (.nw 24 [.p (.int .i64 0), .p (.int .i64 0), .p (.slice none 0 0)]) [] fun v10 =>
 Al (b_214 + 11) (.nw 24 [.p (.int .i64 0), .p (.int .i64 0), .p (.slice none 0 0)]) [] fun v11 =>
 WrF V_215 (some (b_214 + 10)) none (b_214 + 12) (.st 3) [v10, v178] fun _ =>
 WrF V_215 (some (b_214 + 11)) none (b_214 + 13) (.st 3) [v11, v183] fun _ =>
 CutA Try.prog 1 (fun k_230 =>
 Pu Try.prog (.addOff 0) [v1] fun v184 =>
 RdS Try.prog (.ld 1 false) [v184] fun v185 =>
 Pu Try.prog (.bin .eql 3) [v185, (.p (.int .i64 4))] fun v186 =>
 CdA v186
 (S_wordhoardref_RightProof_C7 Q H v155 v10 v11 k_230) (
 k_230 [v155]
 )
 ) (S_wordhoardref_RightProof_K6 Q H v1 v165 v173 v10 v11)
def S_wordhoardref_RightProof_C9 (Q : AV → AH → Prop) (H : AH) (v1 : AV) (v29 : AV) : AH → Prop :=
 Pu Try.prog (.addOff 7) [v1] fun v122 =>
 RdS Try.prog (.ld 1 false) [v122] fun v123 =>
 Pu Try.prog .len [v123] fun v124 =>
 Pu Try.prog (.bin .neq 3) [v124, (.p (.int .i64 2))] fun v125 =>
 Gd v125 false (fun k_153 => Pu Try.prog (.addOff 5) [v1] k_153) fun v127 =>
 Gd v125 false (fun k_155 => RdS Try.prog (.ld 1 false) [v127] k_155) fun v128 =>
 Gd v125 false (fun k_157 => Pu Try.prog (.bin .lss 3) [v128, (.p (.int .i64 0))] k_157) fun v129 =>
 Pu Try.prog .pick [v125, (.p (.bool true)), v129] fun v130 =>
 Gd v130 false (fun k_160 => Pu Try.prog (.addOff 6) [v1] k_160) fun v132 =>
 Gd v130 false (fun k_162 => RdS Try.prog (.ld 1 false) [v132] k_162) fun v133 =>
 Gd v130 false (fun k_164 => Pu Try.prog (.bin .lss 3) [v133, (.p (.int .i64 1))] k_164) fun v134 =>
 Pu Try.prog .pick [v130, (.p (.bool true)), v134] fun v135 =>
 Gd v135 false (fun k_167 => Pu Try.prog (.addOff 5) [v1] k_167) fun v137 =>
 Gd v135 false (fun k_169 => RdS Try.prog (.ld 1 false) [v137] k_169) fun v138 =>
 Gd v135 false (fun k_171 => k_171 v29) fun v139 =>
 Gd v135 false (fun k_173 => Pu Try.prog (.bin .gtr 3) [v138, v139] k_173) fun v140 =>
 Pu Try.prog .pick [v135, (.p (.bool true)), v140] fun v141 =>
 Gd v141 false (fun k_176 => Pu Try.prog (.addOff 6) [v1] k_176) fun v143 =>
 Gd v141 false (fun k_178 => RdS Try.prog (.ld 1 false) [v143] k_178) fun v144 =>
 Gd v141 false (fun k_180 => k_180 v29) fun v145 =>
 Gd v141 false (fun k_182 => Pu Try.prog (.addOff 5) [v1] k_182) fun v146 =>
 Gd v141 false (fun k_184 => RdS Try.prog (.ld 1 false) [v146] k_184) fun v147 =>
 Gd v141 false (fun k_186 => Pu Try.prog (.bin .sub 3) [v145, v147] k_186) fun v148 =>
 Gd v141 false (fun k_188 => Pu Try.prog (.bin .gtr 3) [v144, v148] k_188) fun v149 =>
 Pu Try.prog .pick [v141, (.p (.bool true)), v149] fun v150 =>
 CdA v150
 (
 Rt Try.prog H.nx (.p (.bool false)) Q
 ) (S_wordhoardref_RightProof_C8 Q H v1)
/-! wordhoard/wordhoardref.Level -/
def ac_wordhoardref_Level : AC := (.seq (.reg 0) (.seq (.seq (.reg 1) (.block 0 (.loop [5] [(4, 5), (6, 31)] (.seq (.seq (.reg 2) (.cond (.tmp 9) .skip (.exit 0))) (.seq (.block 1 (.seq (.reg 3) (.seq (.seq (.reg 4) (.block 2 (.loop [6, 7] [(12, 26)] (.seq (.seq (.reg 5) (.cond (.tmp 15) .skip (.exit 2))) (.seq (.block 3 (.reg 6)) (.reg 7)))))) (.seq (.reg 8) (.cond (.tmp 30) (.seq (.reg 9) .ret) .skip))))) (.reg 10)))))) (.seq (.reg 11) .ret)))
def S_wordhoardref_Level_L1 (a0 : AV) (Q : AV → AH → Prop) (H : AH) (v3 : AV) (k : List AV → AH → Prop) (vs : List AV) (vs_7 : List AV) (k_6 : List AV → AH → Prop) : AH → Prop :=
 Pu Try.prog .len [a0] fun v14 =>
 Pu Try.prog (.bin .lss 3) [(vs_7.getD 1 .any), v14] fun v15 =>
 CdA v15
 (
 Pu Try.prog (.idx 3) [a0, (vs_7.getD 1 .any)] fun v21 =>
 RdS Try.prog (.ld 3 true) [v21] fun v22 =>
 Ca Try.prog (.fn (.func 61) [] []) [v22, (vs.getD 0 .any)] fun v24 =>
 Pu Try.prog (.bin .add 3) [(vs_7.getD 0 .any), v24] fun v25 =>
 Pu Try.prog (.bin .add 3) [(vs_7.getD 1 .any), (.p (.int .i64 1))] fun v17 =>
 k_6 [v25, v17]
 ) (
 RdS Try.prog (.ld 3 true) [v3] fun v27 =>
 Ca Try.prog (.fn (.func 61) [] []) [v27, (vs.getD 0 .any)] fun v29 =>
 Pu Try.prog (.bin .neq 3) [(vs_7.getD 0 .any), v29] fun v30 =>
 CdA v30
 (
 Rt Try.prog H.nx (.p (.bool false)) Q
 ) (
 Pu Try.prog (.bin .add 3) [(vs.getD 0 .any), (.p (.int .i64 1))] fun v11 =>
 k [v11]
 )
 )
def S_wordhoardref_Level_L2 (a0 : AV) (Q : AV → AH → Prop) (H : AH) (v3 : AV) (vs : List AV) (k : List AV → AH → Prop) : AH → Prop :=
 Pu Try.prog (.bin .lss 3) [(vs.getD 0 .any), (.p (.int .i64 10))] fun v9 =>
 CdA v9
 (
 LoopA Try.prog 2 (S_wordhoardref_Level_L1 a0 Q H v3 k vs) [(.p (.int .i64 0)), (.p (.int .i64 0))]
 ) (
 Rt Try.prog H.nx (.p (.bool true)) Q
 )
def S_wordhoardref_Level (a0 a1 : AV) (Q : AV → AH → Prop) (H : AH) : Prop := (
 Rg 2 fun b =>
 Al (b + 0) (.bx 24) [a1] fun v3 =>
 LoopA Try.prog 1 (S_wordhoardref_Level_L2 a0 Q H v3) [(.p (.int .i64 0))]
 ) H
theorem eq_wordhoardref_Level (a0 a1 : AV) (Q : AV → AH → Prop) (H : AH) : FnA Try.prog 31 (regsF Try.f30) ac_wordhoardref_Level [.tm 4] [a0, a1] H Q = S_wordhoardref_Level a0 a1 Q H := by kernel_rfl
theorem tri_wordhoardref_Level {a0 a1 : AV} {H : AH} {Q : AV → AH → Prop} (h : S_wordhoardref_Level a0 a1 Q H) : Tri Try.prog 30 [a0, a1] H Q :=
  tri_of (Ms := [#[], #[], #[], #[], #[], #[], #[], #[], #[], #[], #[], #[]]) mixed Try.func30 rfl (by kernel_rfl) (by kernel_rfl) rfl (of_decide_eq_true rfl : 2 ≤ 31) (by rw [eq_wordhoardref_Level a0 a1 Q H]; exact h : FnA Try.prog 31 (regsF Try.f30) ac_wordhoardref_Level [.tm 4] [a0, a1] H Q)

/-! wordhoard/wordhoardref.join -/
def ac_wordhoardref_join : AC := (.seq (.reg 0) (.seq (.reg 1) (.seq (.seq (.reg 2) (.block 0 (.loop [3, 4] [(5, 17)] (.seq (.seq (.reg 3) (.cond (.tmp 8) .skip (.exit 0))) (.seq (.block 1 (.reg 4)) (.reg 5)))))) (.seq (.reg 6) .ret))))
def S_wordhoardref_join_L1 (a0 : AV) (Q : AV → AH → Prop) (H : AH) (vs : List AV) (k : List AV → AH → Prop) : AH → Prop :=
 Pu Try.prog .len [a0] fun v7 =>
 Pu Try.prog (.bin .lss 3) [(vs.getD 1 .any), v7] fun v8 =>
 CdA v8
 (
 Rg 7 fun b =>
 Pu Try.prog (.idx 1) [a0, (vs.getD 1 .any)] fun v14 =>
 RdS Try.prog (.ld 1 false) [v14] fun v15 =>
 WrS Try.prog (b + 5) (.app 24 3 40) [(vs.getD 0 .any), v15] fun v16 =>
 Pu Try.prog (.bin .add 3) [(vs.getD 1 .any), (.p (.int .i64 1))] fun v10 =>
 k [v16, v10]
 ) (
 Rt Try.prog H.nx (vs.getD 0 .any) Q
 )
def S_wordhoardref_join (a0 : AV) (Q : AV → AH → Prop) (H : AH) : Prop := (
 LoopA Try.prog 2 (S_wordhoardref_join_L1 a0 Q H) [(.p (.slice none 0 0)), (.p (.int .i64 0))]
 ) H
theorem eq_wordhoardref_join (a0 : AV) (Q : AV → AH → Prop) (H : AH) : FnA Try.prog 18 (regsF Try.f36) ac_wordhoardref_join [.tm 2] [a0] H Q = S_wordhoardref_join a0 Q H := by kernel_rfl
theorem tri_wordhoardref_join {a0 : AV} {H : AH} {Q : AV → AH → Prop} (h : S_wordhoardref_join a0 Q H) : Tri Try.prog 36 [a0] H Q :=
  tri_of (Ms := [#[], #[], #[], #[], #[], #[], #[]]) mixed Try.func36 rfl (by kernel_rfl) (by kernel_rfl) rfl (of_decide_eq_true rfl : 1 ≤ 18) (by rw [eq_wordhoardref_join a0 Q H]; exact h : FnA Try.prog 18 (regsF Try.f36) ac_wordhoardref_join [.tm 2] [a0] H Q)

/-! wordhoard/wordhoardref.Slashes -/
def ac_wordhoardref_Slashes : AC := (.seq (.reg 0) (.seq (.reg 1) (.seq (.seq (.reg 2) (.block 0 (.loop [3, 4] [(5, 26)] (.seq (.seq (.reg 3) (.cond (.tmp 8) .skip (.exit 0))) (.seq (.block 1 (.seq (.reg 4) (.cond (.tmp 16) (.reg 5) .skip))) (.reg 6)))))) (.seq (.reg 7) .ret))))
def S_wordhoardref_Slashes_L1 (a0 : AV) (Q : AV → AH → Prop) (H : AH) (vs : List AV) (k : List AV → AH → Prop) : AH → Prop :=
 Pu Try.prog .len [a0] fun v7 =>
 Pu Try.prog (.bin .lss 3) [(vs.getD 1 .any), v7] fun v8 =>
 CdA v8
 (
 Pu Try.prog (.idx 3) [a0, (vs.getD 1 .any)] fun v13 =>
 Pu Try.prog (.addOff 0) [v13] fun v14 =>
 RdS Try.prog (.ld 1 false) [v14] fun v15 =>
 Pu Try.prog (.bin .neq 3) [v15, (.p (.int .i64 1))] fun v16 =>
 CdA v16
 (
 Pu Try.prog (.idx 3) [a0, (vs.getD 1 .any)] fun v20 =>
 Pu Try.prog (.addOff 2) [v20] fun v21 =>
 RdS Try.prog (.ld 1 false) [v21] fun v22 =>
 Ca Try.prog (.fn (.func 37) [] []) [v22] fun v23 =>
 Pu Try.prog (.bin .add 3) [(.p (.int .i64 1)), v23] fun v24 =>
 Pu Try.prog (.bin .add 3) [(vs.getD 0 .any), v24] fun v25 =>
 Pu Try.prog (.bin .add 3) [(vs.getD 1 .any), (.p (.int .i64 1))] fun v10 =>
 k [v25, v10]
 ) (
 Pu Try.prog (.bin .add 3) [(vs.getD 1 .any), (.p (.int .i64 1))] fun v10_16 =>
 k [(vs.getD 0 .any), v10_16]
 )
 ) (
 Rt Try.prog H.nx (vs.getD 0 .any) Q
 )
def S_wordhoardref_Slashes (a0 : AV) (Q : AV → AH → Prop) (H : AH) : Prop := (
 LoopA Try.prog 2 (S_wordhoardref_Slashes_L1 a0 Q H) [(.p (.int .i64 0)), (.p (.int .i64 0))]
 ) H
theorem eq_wordhoardref_Slashes (a0 : AV) (Q : AV → AH → Prop) (H : AH) : FnA Try.prog 27 (regsF Try.f37) ac_wordhoardref_Slashes [.tm 2] [a0] H Q = S_wordhoardref_Slashes a0 Q H := by kernel_rfl
theorem tri_wordhoardref_Slashes {a0 : AV} {H : AH} {Q : AV → AH → Prop} (h : S_wordhoardref_Slashes a0 Q H) : Tri Try.prog 37 [a0] H Q :=
  tri_of (Ms := [#[], #[], #[], #[], #[], #[], #[], #[]]) mixed Try.func37 rfl (by kernel_rfl) (by kernel_rfl) rfl (of_decide_eq_true rfl : 1 ≤ 27) (by rw [eq_wordhoardref_Slashes a0 Q H]; exact h : FnA Try.prog 27 (regsF Try.f37) ac_wordhoardref_Slashes [.tm 2] [a0] H Q)

/-! wordhoard/wordhoardref.ProofSize -/
/-! wordhoard/wordhoardref.ProofParts -/
/-! wordhoard/wordhoardref.HasCut -/
/-! wordhoard/wordhoardref.SameParts -/
def ac_wordhoardref_SameParts : AC := (.seq (.reg 0) (.seq (.seq (.reg 1) (.cond (.tmp 10) (.seq (.reg 2) .ret) .skip)) (.seq (.seq (.reg 3) (.block 0 (.loop [5] [(4, 5), (11, 27)] (.seq (.seq (.reg 4) (.cond (.tmp 14) .skip (.exit 0))) (.seq (.block 1 (.seq (.reg 5) (.cond (.tmp 26) (.seq (.reg 6) .ret) .skip))) (.reg 7)))))) (.seq (.reg 8) .ret))))
def S_wordhoardref_SameParts_L1 (a0 : AV) (a1 : AV) (Q : AV → AH → Prop) (H : AH) (vs : List AV) (k : List AV → AH → Prop) : AH → Prop :=
 Pu Try.prog .len [a0] fun v13 =>
 Pu Try.prog (.bin .lss 3) [(vs.getD 0 .any), v13] fun v14 =>
 CdA v14
 (
 Vw fun V =>
 Pu Try.prog (.idx 3) [a0, (vs.getD 0 .any)] fun v19 =>
 Rd Try.prog V (.ld 3 true) [v19] fun v20 =>
 Pu Try.prog (.idx 3) [a1, (vs.getD 0 .any)] fun v23 =>
 Rd Try.prog V (.ld 3 true) [v23] fun v24 =>
 CaV Try.prog V (.fn (.func 25) [] []) [v20, v24] fun v25 =>
 Pu Try.prog (.un .not) [v25] fun v26 =>
 CdA v26
 (
 Rt Try.prog H.nx (.p (.bool false)) Q
 ) (
 Pu Try.prog (.bin .add 3) [(vs.getD 0 .any), (.p (.int .i64 1))] fun v16 =>
 k [v16]
 )
 ) (
 Rt Try.prog H.nx (.p (.bool true)) Q
 )
def S_wordhoardref_SameParts (a0 a1 : AV) (Q : AV → AH → Prop) (H : AH) : Prop := (
 Pu Try.prog .len [a0] fun v7 =>
 Pu Try.prog .len [a1] fun v9 =>
 Pu Try.prog (.bin .neq 3) [v7, v9] fun v10 =>
 CdA v10
 (
 Rt Try.prog H.nx (.p (.bool false)) Q
 ) (
 LoopA Try.prog 1 (S_wordhoardref_SameParts_L1 a0 a1 Q H) [(.p (.int .i64 0))]
 )
 ) H
theorem eq_wordhoardref_SameParts (a0 a1 : AV) (Q : AV → AH → Prop) (H : AH) : FnA Try.prog 27 (regsF Try.f42) ac_wordhoardref_SameParts [.tm 4] [a0, a1] H Q = S_wordhoardref_SameParts a0 a1 Q H := by kernel_rfl
theorem tri_wordhoardref_SameParts {a0 a1 : AV} {H : AH} {Q : AV → AH → Prop} (h : S_wordhoardref_SameParts a0 a1 Q H) : Tri Try.prog 42 [a0, a1] H Q :=
  tri_of (Ms := [#[], #[], #[], #[], #[], #[0, 0, 3, 7, 0, 0, 48, 112, 255, 511], #[], #[], #[]]) mixed Try.func42 rfl (by kernel_rfl) (by kernel_rfl) rfl (of_decide_eq_true rfl : 2 ≤ 27) (by rw [eq_wordhoardref_SameParts a0 a1 Q H]; exact h : FnA Try.prog 27 (regsF Try.f42) ac_wordhoardref_SameParts [.tm 4] [a0, a1] H Q)

/-! wordhoard/wordhoardref.PartSize -/
def ac_wordhoardref_PartSize : AC := (.seq (.reg 0) (.seq (.reg 1) (.seq (.seq (.reg 2) (.block 0 (.loop [5, 6] [(7, 30)] (.seq (.seq (.reg 3) (.cond (.tmp 16) .skip (.exit 0))) (.seq (.block 1 (.reg 4)) (.reg 5)))))) (.seq (.seq (.reg 6) (.cond (.tmp 32) (.seq (.reg 7) .ret) .skip)) (.seq (.reg 8) .ret)))))
def S_wordhoardref_PartSize_L1 (a1 : AV) (Q : AV → AH → Prop) (H : AH) (v2 : AV) (vs : List AV) (k : List AV → AH → Prop) : AH → Prop :=
 Pu Try.prog (.addOff 2) [v2] fun v8 =>
 RdS Try.prog (.ld 1 false) [v8] fun v9 =>
 Pu Try.prog .len [v9] fun v10 =>
 Pu Try.prog (.bin .lss 3) [(vs.getD 1 .any), v10] fun v11 =>
 Gd v11 true (fun k_10 => k_10 (vs.getD 0 .any)) fun v13 =>
 Gd v11 true (fun k_12 => k_12 a1) fun v14 =>
 Gd v11 true (fun k_14 => Pu Try.prog (.bin .leq 3) [v13, v14] k_14) fun v15 =>
 Pu Try.prog .pick [v11, v15, (.p (.bool false))] fun v16 =>
 CdA v16
 (
 Pu Try.prog (.addOff 2) [v2] fun v20 =>
 RdS Try.prog (.ld 1 false) [v20] fun v21 =>
 Pu Try.prog (.idx 3) [v21, (vs.getD 1 .any)] fun v23 =>
 RdS Try.prog (.ld 3 true) [v23] fun v24 =>
 Pu Try.prog (.bin .sub 3) [a1, (vs.getD 0 .any)] fun v27 =>
 Ca Try.prog (.fn (.func 50) [] []) [v24, v27] fun v28 =>
 Pu Try.prog (.bin .add 3) [(vs.getD 0 .any), v28] fun v29 =>
 Pu Try.prog (.bin .add 3) [(vs.getD 1 .any), (.p (.int .i64 1))] fun v18 =>
 k [v29, v18]
 ) (
 Pu Try.prog (.bin .gtr 3) [(vs.getD 0 .any), a1] fun v32 =>
 CdA v32
 (
 Pu Try.prog (.bin .add 3) [a1, (.p (.int .i64 1))] fun v34 =>
 Rt Try.prog H.nx v34 Q
 ) (
 Rt Try.prog H.nx (vs.getD 0 .any) Q
 )
 )
def S_wordhoardref_PartSize (a0 a1 : AV) (Q : AV → AH → Prop) (H : AH) : Prop := (
 Rg 2 fun b =>
 Al (b + 0) (.bx 24) [a0] fun v2 =>
 LoopA Try.prog 2 (S_wordhoardref_PartSize_L1 a1 Q H v2) [(.p (.int .i64 1)), (.p (.int .i64 0))]
 ) H
theorem eq_wordhoardref_PartSize (a0 a1 : AV) (Q : AV → AH → Prop) (H : AH) : FnA Try.prog 36 (regsF Try.f50) ac_wordhoardref_PartSize [.tm 4] [a0, a1] H Q = S_wordhoardref_PartSize a0 a1 Q H := by kernel_rfl
theorem tri_wordhoardref_PartSize {a0 a1 : AV} {H : AH} {Q : AV → AH → Prop} (h : S_wordhoardref_PartSize a0 a1 Q H) : Tri Try.prog 50 [a0, a1] H Q :=
  tri_of (Ms := [#[], #[], #[], #[], #[], #[], #[], #[], #[]]) mixed Try.func50 rfl (by kernel_rfl) (by kernel_rfl) rfl (of_decide_eq_true rfl : 2 ≤ 36) (by rw [eq_wordhoardref_PartSize a0 a1 Q H]; exact h : FnA Try.prog 36 (regsF Try.f50) ac_wordhoardref_PartSize [.tm 4] [a0, a1] H Q)

/-! wordhoard/wordhoardref.partWrong -/
def ac_wordhoardref_partWrong : AC := (.seq (.reg 0) (.seq (.seq (.reg 1) (.cond (.tmp 12) (.seq (.reg 2) .ret) .skip)) (.seq (.seq (.reg 3) (.cond (.tmp 32) (.seq (.reg 4) .ret) .skip)) (.seq (.seq (.reg 5) (.cond (.tmp 50) (.seq (.reg 6) .ret) .skip)) (.seq (.seq (.reg 7) (.block 0 (.loop [3] [(2, 3), (4, 5), (51, 67)] (.seq (.seq (.reg 8) (.cond (.tmp 55) .skip (.exit 0))) (.seq (.block 1 (.seq (.reg 9) (.seq (.reg 10) (.cond (.tmp 65) (.seq (.reg 11) .ret) .skip)))) (.reg 12)))))) (.seq (.reg 13) .ret))))))
def S_wordhoardref_partWrong_L1 (Q : AV → AH → Prop) (H : AH) (v1 : AV) (vs : List AV) (k_71 : List AV → AH → Prop) : AH → Prop :=
 Pu Try.prog (.addOff 2) [v1] fun v52 =>
 RdS Try.prog (.ld 1 false) [v52] fun v53 =>
 Pu Try.prog .len [v53] fun v54 =>
 Pu Try.prog (.bin .lss 3) [(vs.getD 0 .any), v54] fun v55 =>
 CdA v55
 (
 Pu Try.prog (.addOff 2) [v1] fun v58 =>
 RdS Try.prog (.ld 1 false) [v58] fun v59 =>
 Pu Try.prog (.idx 3) [v59, (vs.getD 0 .any)] fun v61 =>
 RdS Try.prog (.ld 3 true) [v61] fun v62 =>
 Ca Try.prog (.fn (.func 51) [] []) [v62] fun v63 =>
 Pu Try.prog (.bin .neq 28) [v63, (.p (.int .i64 0))] fun v65 =>
 CdA v65
 (
 Rt Try.prog H.nx v63 Q
 ) (
 Pu Try.prog (.bin .add 3) [(vs.getD 0 .any), (.p (.int .i64 1))] fun v57 =>
 k_71 [v57]
 )
 ) (
 Rt Try.prog H.nx (.p (.int .i64 0)) Q
 )
def S_wordhoardref_partWrong_C2 (Q : AV → AH → Prop) (H : AH) (v1 : AV) : AH → Prop :=
 Pu Try.prog (.addOff 1) [v1] fun v33 =>
 RdS Try.prog (.ld 1 false) [v33] fun v34 =>
 Pu Try.prog (.bin .lss 3) [v34, (.p (.int .i64 0))] fun v35 =>
 Gd v35 false (fun k_48 => Pu Try.prog (.addOff 1) [v1] k_48) fun v37 =>
 Gd v35 false (fun k_50 => RdS Try.prog (.ld 1 false) [v37] k_50) fun v38 =>
 Gd v35 false (fun k_52 => Pu Try.prog (.bin .gtr 3) [v38, (.p (.int .i64 9))] k_52) fun v39 =>
 Pu Try.prog .pick [v35, (.p (.bool true)), v39] fun v40 =>
 Gd v40 false (fun k_55 => Pu Try.prog (.addOff 0) [v1] k_55) fun v42 =>
 Gd v40 false (fun k_57 => RdS Try.prog (.ld 1 false) [v42] k_57) fun v43 =>
 Gd v40 false (fun k_59 => Pu Try.prog (.bin .gtr 3) [v43, (.p (.int .i64 1))] k_59) fun v44 =>
 Gd v40 false (fun k_61 => k_61 v44) fun v45 =>
 Gd v45 true (fun k_63 => Pu Try.prog (.addOff 1) [v1] k_63) fun v46 =>
 Gd v45 true (fun k_65 => RdS Try.prog (.ld 1 false) [v46] k_65) fun v47 =>
 Gd v45 true (fun k_67 => Pu Try.prog (.bin .neq 3) [v47, (.p (.int .i64 0))] k_67) fun v48 =>
 Gd v40 false (fun k_69 => Pu Try.prog .pick [v45, v48, (.p (.bool false))] k_69) fun v49 =>
 Pu Try.prog .pick [v40, (.p (.bool true)), v49] fun v50 =>
 CdA v50
 (
 Rt Try.prog H.nx (.p (.int .i64 3)) Q
 ) (
 LoopA Try.prog 1 (S_wordhoardref_partWrong_L1 Q H v1) [(.p (.int .i64 0))]
 )
def S_wordhoardref_partWrong_C3 (Q : AV → AH → Prop) (H : AH) (v1 : AV) : AH → Prop :=
 Pu Try.prog (.addOff 0) [v1] fun v13 =>
 RdS Try.prog (.ld 1 false) [v13] fun v14 =>
 Pu Try.prog (.bin .eql 3) [v14, (.p (.int .i64 1))] fun v15 =>
 Gd v15 true (fun k_17 => Pu Try.prog (.addOff 2) [v1] k_17) fun v17 =>
 Gd v15 true (fun k_19 => RdS Try.prog (.ld 1 false) [v17] k_19) fun v18 =>
 Gd v15 true (fun k_21 => Pu Try.prog .len [v18] k_21) fun v19 =>
 Gd v15 true (fun k_23 => Pu Try.prog (.bin .neq 3) [v19, (.p (.int .i64 0))] k_23) fun v20 =>
 Pu Try.prog .pick [v15, v20, (.p (.bool false))] fun v21 =>
 Gd v21 false (fun k_26 => Pu Try.prog (.addOff 0) [v1] k_26) fun v23 =>
 Gd v21 false (fun k_28 => RdS Try.prog (.ld 1 false) [v23] k_28) fun v24 =>
 Gd v21 false (fun k_30 => Pu Try.prog (.bin .gtr 3) [v24, (.p (.int .i64 1))] k_30) fun v25 =>
 Gd v21 false (fun k_32 => k_32 v25) fun v26 =>
 Gd v26 true (fun k_34 => Pu Try.prog (.addOff 2) [v1] k_34) fun v27 =>
 Gd v26 true (fun k_36 => RdS Try.prog (.ld 1 false) [v27] k_36) fun v28 =>
 Gd v26 true (fun k_38 => Pu Try.prog .len [v28] k_38) fun v29 =>
 Gd v26 true (fun k_40 => Pu Try.prog (.bin .neq 3) [v29, (.p (.int .i64 2))] k_40) fun v30 =>
 Gd v21 false (fun k_42 => Pu Try.prog .pick [v26, v30, (.p (.bool false))] k_42) fun v31 =>
 Pu Try.prog .pick [v21, (.p (.bool true)), v31] fun v32 =>
 CdA v32
 (
 Rt Try.prog H.nx (.p (.int .i64 1)) Q
 ) (S_wordhoardref_partWrong_C2 Q H v1)
def S_wordhoardref_partWrong (a0 : AV) (Q : AV → AH → Prop) (H : AH) : Prop := (
 Rg 2 fun b =>
 Al (b + 0) (.bx 24) [a0] fun v1 =>
 Pu Try.prog (.addOff 0) [v1] fun v5 =>
 RdS Try.prog (.ld 1 false) [v5] fun v6 =>
 Pu Try.prog (.bin .lss 3) [v6, (.p (.int .i64 1))] fun v7 =>
 Gd v7 false (fun k => Pu Try.prog (.addOff 0) [v1] k) fun v9 =>
 Gd v7 false (fun k_9 => RdS Try.prog (.ld 1 false) [v9] k_9) fun v10 =>
 Gd v7 false (fun k_11 => Pu Try.prog (.bin .gtr 3) [v10, (.p (.int .i64 3))] k_11) fun v11 =>
 Pu Try.prog .pick [v7, (.p (.bool true)), v11] fun v12 =>
 CdA v12
 (
 Rt Try.prog H.nx (.p (.int .i64 4)) Q
 ) (S_wordhoardref_partWrong_C3 Q H v1)
 ) H
theorem eq_wordhoardref_partWrong (a0 : AV) (Q : AV → AH → Prop) (H : AH) : FnA Try.prog 67 (regsF Try.f51) ac_wordhoardref_partWrong [.tm 2] [a0] H Q = S_wordhoardref_partWrong a0 Q H := by kernel_rfl
theorem tri_wordhoardref_partWrong {a0 : AV} {H : AH} {Q : AV → AH → Prop} (h : S_wordhoardref_partWrong a0 Q H) : Tri Try.prog 51 [a0] H Q :=
  tri_of (Ms := [#[], #[], #[], #[], #[], #[], #[], #[], #[], #[], #[], #[], #[], #[]]) mixed Try.func51 rfl (by kernel_rfl) (by kernel_rfl) rfl (of_decide_eq_true rfl : 1 ≤ 67) (by rw [eq_wordhoardref_partWrong a0 Q H]; exact h : FnA Try.prog 67 (regsF Try.f51) ac_wordhoardref_partWrong [.tm 2] [a0] H Q)

/-! wordhoard/wordhoardref.says -/
def ac_wordhoardref_says : AC := (.seq (.reg 0) (.seq (.reg 1) .ret))
def S_wordhoardref_says (a0 a1 a2 : AV) (Q : AV → AH → Prop) (H : AH) : Prop := (
 Rg 3 fun b =>
 Al (b + 0) (.bx 27) [a0] fun v3 =>
 Al (b + 1) (.bx 24) [a2] fun v5 =>
 Pu Try.prog (.addOff 1) [v3] fun v7 =>
 RdS Try.prog (.ld 1 false) [v7] fun v8 =>
 Ca Try.prog (.fn (.func 42) [] []) [v8, a1] fun v10 =>
 Gd v10 true (fun k => Pu Try.prog (.addOff 2) [v3] k) fun v12 =>
 Gd v10 true (fun k_10 => RdS Try.prog (.ld 3 true) [v12] k_10) fun v13 =>
 Gd v10 true (fun k_12 => RdS Try.prog (.ld 3 true) [v5] k_12) fun v14 =>
 Gd v10 true (fun k_14 => Ca Try.prog (.fn (.func 25) [] []) [v13, v14] k_14) fun v15 =>
 Pu Try.prog .pick [v10, v15, (.p (.bool false))] fun v16 =>
 Rt Try.prog H.nx v16 Q
 ) H
theorem eq_wordhoardref_says (a0 a1 a2 : AV) (Q : AV → AH → Prop) (H : AH) : FnA Try.prog 17 (regsF Try.f60) ac_wordhoardref_says [.tm 6] [a0, a1, a2] H Q = S_wordhoardref_says a0 a1 a2 Q H := by kernel_rfl
theorem tri_wordhoardref_says {a0 a1 a2 : AV} {H : AH} {Q : AV → AH → Prop} (h : S_wordhoardref_says a0 a1 a2 Q H) : Tri Try.prog 60 [a0, a1, a2] H Q :=
  tri_of (Ms := [#[], #[]]) mixed Try.func60 rfl (by kernel_rfl) (by kernel_rfl) rfl (of_decide_eq_true rfl : 3 ≤ 17) (by rw [eq_wordhoardref_says a0 a1 a2 Q H]; exact h : FnA Try.prog 17 (regsF Try.f60) ac_wordhoardref_says [.tm 6] [a0, a1, a2] H Q)

/-! wordhoard/wordhoardref.Gives -/
def ac_wordhoardref_Gives : AC := (.seq (.reg 0) (.seq (.seq (.reg 1) (.block 0 (.seq (.reg 2) (.cond (.tmp 7) (.seq (.seq (.reg 3) (.cond (.tmp 12) (.seq (.reg 4) .ret) .skip)) (.seq (.reg 5) .ret)) (.seq (.reg 6) (.cond (.tmp 13) (.seq (.reg 7) .ret) .skip)))))) (.seq (.reg 8) .ret)))
def S_wordhoardref_Gives_C1 (a1 : AV) (Q : AV → AH → Prop) (H : AH) (v2 : AV) (v6 : AV) : AH → Prop :=
 Pu Try.prog (.bin .eql 3) [v6, (.p (.int .i64 2))] fun v14 =>
 CdA v14
 (
 Vw fun V =>
 Pu Try.prog (.addOff 2) [v2] fun v15 =>
 Rd Try.prog V (.ld 1 false) [v15] fun v16 =>
 Pu Try.prog (.idx 3) [v16, (.p (.int .i64 0))] fun v17 =>
 Rd Try.prog V (.ld 3 true) [v17] fun v18 =>
 CaV Try.prog V (.fn (.func 61) [] []) [v18, a1] fun v20 =>
 Pu Try.prog (.addOff 2) [v2] fun v21 =>
 Rd Try.prog V (.ld 1 false) [v21] fun v22 =>
 Pu Try.prog (.idx 3) [v22, (.p (.int .i64 1))] fun v23 =>
 Rd Try.prog V (.ld 3 true) [v23] fun v24 =>
 CaV Try.prog V (.fn (.func 61) [] []) [v24, a1] fun v26 =>
 Pu Try.prog (.bin .sub 3) [v20, v26] fun v27 =>
 Rt Try.prog H.nx v27 Q
 ) (
 Vw fun V_22 =>
 Pu Try.prog (.addOff 2) [v2] fun v28 =>
 Rd Try.prog V_22 (.ld 1 false) [v28] fun v29 =>
 Pu Try.prog (.idx 3) [v29, (.p (.int .i64 1))] fun v30 =>
 Rd Try.prog V_22 (.ld 3 true) [v30] fun v31 =>
 CaV Try.prog V_22 (.fn (.func 61) [] []) [v31, a1] fun v33 =>
 Pu Try.prog (.addOff 2) [v2] fun v34 =>
 Rd Try.prog V_22 (.ld 1 false) [v34] fun v35 =>
 Pu Try.prog (.idx 3) [v35, (.p (.int .i64 0))] fun v36 =>
 Rd Try.prog V_22 (.ld 3 true) [v36] fun v37 =>
 CaV Try.prog V_22 (.fn (.func 61) [] []) [v37, a1] fun v39 =>
 Pu Try.prog (.bin .sub 3) [v33, v39] fun v40 =>
 Rt Try.prog H.nx v40 Q
 )
def S_wordhoardref_Gives (a0 a1 : AV) (Q : AV → AH → Prop) (H : AH) : Prop := (
 Rg 2 fun b =>
 Al (b + 0) (.bx 24) [a0] fun v2 =>
 Pu Try.prog (.addOff 0) [v2] fun v5 =>
 RdS Try.prog (.ld 1 false) [v5] fun v6 =>
 Pu Try.prog (.bin .eql 3) [v6, (.p (.int .i64 1))] fun v8 =>
 CdA v8
 (
 Pu Try.prog (.addOff 1) [v2] fun v9 =>
 RdS Try.prog (.ld 1 false) [v9] fun v10 =>
 Pu Try.prog (.bin .eql 3) [v10, a1] fun v12 =>
 CdA v12
 (
 Rt Try.prog H.nx (.p (.int .i64 1)) Q
 ) (
 Rt Try.prog H.nx (.p (.int .i64 0)) Q
 )
 ) (S_wordhoardref_Gives_C1 a1 Q H v2 v6)
 ) H
theorem eq_wordhoardref_Gives (a0 a1 : AV) (Q : AV → AH → Prop) (H : AH) : FnA Try.prog 41 (regsF Try.f61) ac_wordhoardref_Gives [.tm 4] [a0, a1] H Q = S_wordhoardref_Gives a0 a1 Q H := by kernel_rfl
theorem tri_wordhoardref_Gives {a0 a1 : AV} {H : AH} {Q : AV → AH → Prop} (h : S_wordhoardref_Gives a0 a1 Q H) : Tri Try.prog 61 [a0, a1] H Q :=
  tri_of (Ms := [#[], #[], #[], #[], #[], #[], #[], #[0, 1, 3, 7, 0, 31, 0, 64, 192, 448, 0, 2047, 4095, 8191], #[0, 1, 3, 7, 0, 31, 0, 64, 192, 448, 0, 2047, 4095, 8191]]) mixed Try.func61 rfl (by kernel_rfl) (by kernel_rfl) rfl (of_decide_eq_true rfl : 2 ≤ 41) (by rw [eq_wordhoardref_Gives a0 a1 Q H]; exact h : FnA Try.prog 41 (regsF Try.f61) ac_wordhoardref_Gives [.tm 4] [a0, a1] H Q)
end Go.Proofs.Ytpmnlikgldacaaa
