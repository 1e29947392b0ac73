/- Texts that the proof rests on, part 15: what each holds stands at its head. -/
import Derived.Test.YtpmnlikgldacaaaSq14

/- Abstract walks of functions, written by a program (wip/aw/aw.py): each equation is checked by the kernel. -/
namespace Go.Proofs.Ytpmnlikgldacaaa
open Go.RowKit

/-! wordhoard/speech.Says -/
/-! wordhoard/speech.Right -/
/-! wordhoard/speech.Cutless -/
/-! wordhoard/speech.Says$1 -/
/-! wordhoard/speech.Says$2 -/
/-! wordhoard/speech.size -/
/-! wordhoard/speech.parts -/
/-! wordhoard/speech.right -/
/-! wordhoard/speech.stepRight -/
def S_speech_stepRight_K3 (Q : AV → AH → Prop) (H : AH) (v1 : AV) (v4 : AV) (v5 : AV) (v136 : AV) (v141 : AV) (v10 : AV) (vs_229 : List AV) : AH → Prop :=
 Rg 27 fun b_230 =>
 Vw fun V_231 =>
 Pu Try.prog (.addOff 2) [v5] fun v252 =>
 Rd Try.prog V_231 (.ld 3 true) [v252] fun v253 =>
 Pu Try.prog (.addOff 2) [v1] fun v254 =>
 Rd Try.prog V_231 (.ld 3 true) [v254] fun v255 =>
 CaV Try.prog V_231 (.fn (.func 76) [] []) [v253, v255] fun v256 =>
 GdV v256 true (fun k_238 => Pu Try.prog (.addOff 1) [v4] (fun a => k_238 a V_231)) V_231 fun v258 V_239 =>
 GdV v256 true (fun k_241 => Rd Try.prog V_239 (.ld 1 false) [v258] (fun a => k_241 a V_239)) V_239 fun v259 V_242 =>
 GdV v256 true (fun k_244 => Pu Try.prog (.addOff 1) [v1] (fun a => k_244 a V_242)) V_242 fun v260 V_245 =>
 GdV v256 true (fun k_247 => Rd Try.prog V_245 (.ld 1 false) [v260] (fun a => k_247 a V_245)) V_245 fun v261 V_248 =>
 GdV v256 true (fun k_250 => k_250 v136 V_248) V_248 fun v262 V_251 =>
 GdV v256 true (fun k_253 => k_253 v141 V_251) V_251 fun v263 V_254 =>
 GdV v256 true (fun k_256 => Pu Try.prog (.slc 3 true true) [v261, v262, v263] (fun a => k_256 a V_254)) V_254 fun v264 V_257 =>
 GdV v256 true (fun k_259 => CaV Try.prog V_257 (.fn (.func 78) [] []) [v259, v264] (fun a => k_259 a V_257)) V_257 fun v265 V_260 =>
 Pu Try.prog .pick [v256, v265, (.p (.bool false))] fun v266 =>
 GdV v266 true (fun k_263 => Pu Try.prog (.addOff 1) [v5] (fun a => k_263 a V_260)) V_260 fun v268 V_264 =>
 GdV v266 true (fun k_266 => Rd Try.prog V_264 (.ld 1 false) [v268] (fun a => k_266 a V_264)) V_264 fun v269 V_267 =>
 GdV v266 true (fun k_269 => k_269 (vs_229.getD 0 .any) V_267) V_267 fun v270 V_270 =>
 GdV v266 true (fun k_272 => Rd Try.prog V_270 (.ld 3 true) [v10] (fun a => k_272 a V_270)) V_270 fun v271 V_273 =>
 GdV v266 true (fun k_275 => Al (b_230 + 20) (.bs 24 3 1 [.p (.int .i64 0), .p (.int .i64 0), .p (.slice none 0 0)] [(0, 3)]) [v271] (fun a => k_275 a V_273)) V_273 fun v272 V_276 =>
 GdV v266 true (fun k_278 => k_278 (vs_229.getD 1 .any) V_276) V_276 fun v273 V_279 =>
 GdV v266 true (fun k_281 => Al (b_230 + 22) (.bs 22 1 3 [.p (.slice none 0 0)] [(0, 1), (1, 1), (2, 1)]) [v270, v272, v273] (fun a => k_281 a V_279)) V_279 fun v274 V_282 =>
 GdV v266 true (fun k_284 => CaN Try.prog V_282 [(b_230 + 22), (b_230 + 20)] (.fn (.func 45) [] []) [v274] (fun a => k_284 a V_282)) V_282 fun v275 V_285 =>
 GdV v266 true (fun k_287 => CaV Try.prog V_285 (.fn (.func 78) [] []) [v269, v275] (fun a => k_287 a V_285)) V_285 fun v276 _ =>
 Pu Try.prog .pick [v266, v276, (.p (.bool false))] fun v277 =>
 Rt Try.prog H.nx v277 Q
def S_speech_stepRight_C4 (Q : AV → AH → Prop) (H : AH) (v4 : AV) (v136 : AV) (v172 : AV) (v176 : AV) (v10 : AV) (k_228 : List AV → AH → Prop) : AH → Prop :=
 Vw fun V_293 =>
 Pu Try.prog (.bin .eql 3) [v136, (.p (.int .i64 0))] fun v184 =>
 GdV v184 false (fun k_296 => k_296 v172 V_293) V_293 fun v186 V_297 =>
 GdV v184 false (fun k_299 => k_299 v136 V_297) V_297 fun v187 V_300 =>
 GdV v184 false (fun k_302 => Pu Try.prog (.bin .sub 3) [v187, (.p (.int .i64 1))] (fun a => k_302 a V_300)) V_300 fun v188 V_303 =>
 GdV v184 false (fun k_305 => Pu Try.prog (.idx 3) [v186, v188] (fun a => k_305 a V_303)) V_303 fun v189 V_306 =>
 GdV v184 false (fun k_308 => Pu Try.prog (.addOff 0) [v189] (fun a => k_308 a V_306)) V_306 fun v190 V_309 =>
 GdV v184 false (fun k_311 => Rd Try.prog V_309 (.ld 1 false) [v190] (fun a => k_311 a V_309)) V_309 fun v191 V_312 =>
 GdV v184 false (fun k_314 => Pu Try.prog (.bin .neq 3) [v191, (.p (.int .i64 2))] (fun a => k_314 a V_312)) V_312 fun v192 V_315 =>
 Pu Try.prog .pick [v184, (.p (.bool true)), v192] fun v193 =>
 GdV v193 false (fun k_318 => k_318 v172 V_315) V_315 fun v195 V_319 =>
 GdV v193 false (fun k_321 => k_321 v136 V_319) V_319 fun v196 V_322 =>
 GdV v193 false (fun k_324 => Pu Try.prog (.bin .sub 3) [v196, (.p (.int .i64 1))] (fun a => k_324 a V_322)) V_322 fun v197 V_325 =>
 GdV v193 false (fun k_327 => Pu Try.prog (.idx 3) [v195, v197] (fun a => k_327 a V_325)) V_325 fun v198 V_328 =>
 GdV v193 false (fun k_330 => Pu Try.prog (.addOff 2) [v198] (fun a => k_330 a V_328)) V_328 fun v199 V_331 =>
 GdV v193 false (fun k_333 => Rd Try.prog V_331 (.ld 1 false) [v199] (fun a => k_333 a V_331)) V_331 fun v200 V_334 =>
 GdV v193 false (fun k_336 => Pu Try.prog (.idx 3) [v200, (.p (.int .i64 1))] (fun a => k_336 a V_334)) V_334 fun v201 V_337 =>
 GdV v193 false (fun k_339 => Rd Try.prog V_337 (.ld 3 true) [v201] (fun a => k_339 a V_337)) V_337 fun v202 V_340 =>
 GdV v193 false (fun k_342 => Pu Try.prog (.addOff 2) [v4] (fun a => k_342 a V_340)) V_340 fun v203 V_343 =>
 GdV v193 false (fun k_345 => Rd Try.prog V_343 (.ld 3 true) [v203] (fun a => k_345 a V_343)) V_343 fun v204 V_346 =>
 GdV v193 false (fun k_348 => CaV Try.prog V_346 (.fn (.func 76) [] []) [v202, v204] (fun a => k_348 a V_346)) V_346 fun v205 V_349 =>
 GdV v193 false (fun k_351 => Pu Try.prog (.un .not) [v205] (fun a => k_351 a V_349)) V_349 fun v206 _ =>
 Pu Try.prog .pick [v193, (.p (.bool true)), v206] fun v207 =>
 CdA v207
 (
 Rt Try.prog H.nx (.p (.bool false)) Q
 ) (
 Rg 14 fun b_354 =>
 Vw fun V_355 =>
 Pu Try.prog (.bin .sub 3) [v136, (.p (.int .i64 1))] fun v210 =>
 Pu Try.prog (.idx 3) [v172, v210] fun v211 =>
 Pu Try.prog (.addOff 2) [v211] fun v212 =>
 Rd Try.prog V_355 (.ld 1 false) [v212] fun v213 =>
 Pu Try.prog (.idx 3) [v213, (.p (.int .i64 0))] fun v214 =>
 Rd Try.prog V_355 (.ld 3 true) [v214] fun v215 =>
 Pu Try.prog (.bin .sub 3) [v136, (.p (.int .i64 1))] fun v218 =>
 Pu Try.prog (.slc 3 false true) [v172, v218] fun v219 =>
 Wr Try.prog (b_354 + 12) (.st 3) [v10, v215] fun _ _ =>
 k_228 [v219, v176]
 )
def S_speech_stepRight_C5 (Q : AV → AH → Prop) (H : AH) (v4 : AV) (v172 : AV) (v176 : AV) (v10 : AV) (k_228 : List AV → AH → Prop) : AH → Prop :=
 Vw fun V_367 =>
 Pu Try.prog .len [v176] fun v223 =>
 Pu Try.prog (.bin .eql 3) [v223, (.p (.int .i64 0))] fun v224 =>
 GdV v224 false (fun k_371 => k_371 v176 V_367) V_367 fun v226 V_372 =>
 GdV v224 false (fun k_374 => Pu Try.prog (.idx 3) [v226, (.p (.int .i64 0))] (fun a => k_374 a V_372)) V_372 fun v227 V_375 =>
 GdV v224 false (fun k_377 => Pu Try.prog (.addOff 0) [v227] (fun a => k_377 a V_375)) V_375 fun v228 V_378 =>
 GdV v224 false (fun k_380 => Rd Try.prog V_378 (.ld 1 false) [v228] (fun a => k_380 a V_378)) V_378 fun v229 V_381 =>
 GdV v224 false (fun k_383 => Pu Try.prog (.bin .neq 3) [v229, (.p (.int .i64 3))] (fun a => k_383 a V_381)) V_381 fun v230 V_384 =>
 Pu Try.prog .pick [v224, (.p (.bool true)), v230] fun v231 =>
 GdV v231 false (fun k_387 => k_387 v176 V_384) V_384 fun v233 V_388 =>
 GdV v231 false (fun k_390 => Pu Try.prog (.idx 3) [v233, (.p (.int .i64 0))] (fun a => k_390 a V_388)) V_388 fun v234 V_391 =>
 GdV v231 false (fun k_393 => Pu Try.prog (.addOff 2) [v234] (fun a => k_393 a V_391)) V_391 fun v235 V_394 =>
 GdV v231 false (fun k_396 => Rd Try.prog V_394 (.ld 1 false) [v235] (fun a => k_396 a V_394)) V_394 fun v236 V_397 =>
 GdV v231 false (fun k_399 => Pu Try.prog (.idx 3) [v236, (.p (.int .i64 0))] (fun a => k_399 a V_397)) V_397 fun v237 V_400 =>
 GdV v231 false (fun k_402 => Rd Try.prog V_400 (.ld 3 true) [v237] (fun a => k_402 a V_400)) V_400 fun v238 V_403 =>
 GdV v231 false (fun k_405 => Pu Try.prog (.addOff 2) [v4] (fun a => k_405 a V_403)) V_403 fun v239 V_406 =>
 GdV v231 false (fun k_408 => Rd Try.prog V_406 (.ld 3 true) [v239] (fun a => k_408 a V_406)) V_406 fun v240 V_409 =>
 GdV v231 false (fun k_411 => CaV Try.prog V_409 (.fn (.func 76) [] []) [v238, v240] (fun a => k_411 a V_409)) V_409 fun v241 V_412 =>
 GdV v231 false (fun k_414 => Pu Try.prog (.un .not) [v241] (fun a => k_414 a V_412)) V_412 fun v242 _ =>
 Pu Try.prog .pick [v231, (.p (.bool true)), v242] fun v243 =>
 CdA v243
 (
 Rt Try.prog H.nx (.p (.bool false)) Q
 ) (
 Rg 10 fun b_417 =>
 Vw fun V_418 =>
 Pu Try.prog (.idx 3) [v176, (.p (.int .i64 0))] fun v245 =>
 Pu Try.prog (.addOff 2) [v245] fun v246 =>
 Rd Try.prog V_418 (.ld 1 false) [v246] fun v247 =>
 Pu Try.prog (.idx 3) [v247, (.p (.int .i64 1))] fun v248 =>
 Rd Try.prog V_418 (.ld 3 true) [v248] fun v249 =>
 Pu Try.prog (.slc 3 true false) [v176, (.p (.int .i64 1))] fun v251 =>
 Wr Try.prog (b_417 + 8) (.st 3) [v10, v249] fun _ _ =>
 k_228 [v172, v251]
 )
def S_speech_stepRight_C6 (Q : AV → AH → Prop) (H : AH) (v1 : AV) (v4 : AV) : AH → Prop :=
 Rg 6 fun b_159 =>
 Pu Try.prog (.addOff 7) [v1] fun v131 =>
 RdS Try.prog (.ld 1 false) [v131] fun v132 =>
 Pu Try.prog (.idx 8) [v132, (.p (.int .i64 1))] fun v133 =>
 RdS Try.prog (.ld 8 true) [v133] fun v134 =>
 Al (b_159 + 4) (.nw 27 [.p (.int .i64 0), .p (.slice none 0 0), .p (.int .i64 0), .p (.int .i64 0), .p (.slice none 0 0), .p (.int .i64 0), .p (.int .i64 0), .p (.slice none 0 0)]) [] fun v5 =>
 WrS Try.prog (b_159 + 5) (.st 8) [v5, v134] fun _ =>
 Vw fun V_166 =>
 Pu Try.prog (.addOff 5) [v1] fun v135 =>
 Rd Try.prog V_166 (.ld 1 false) [v135] fun v136 =>
 Pu Try.prog (.addOff 5) [v1] fun v137 =>
 Rd Try.prog V_166 (.ld 1 false) [v137] fun v138 =>
 Pu Try.prog (.addOff 6) [v1] fun v139 =>
 Rd Try.prog V_166 (.ld 1 false) [v139] fun v140 =>
 Pu Try.prog (.bin .add 3) [v138, v140] fun v141 =>
 Pu Try.prog (.addOff 5) [v1] fun v142 =>
 RdS Try.prog (.ld 1 false) [v142] fun v143 =>
 Pu Try.prog (.bin .lss 3) [v143, (.p (.int .i64 0))] fun v144 =>
 Gd v144 false (fun k_178 => Pu Try.prog (.addOff 6) [v1] k_178) fun v146 =>
 Gd v144 false (fun k_180 => RdS Try.prog (.ld 1 false) [v146] k_180) fun v147 =>
 Gd v144 false (fun k_182 => Pu Try.prog (.bin .lss 3) [v147, (.p (.int .i64 1))] k_182) fun v148 =>
 Pu Try.prog .pick [v144, (.p (.bool true)), v148] fun v149 =>
 Gd v149 false (fun k_185 => Pu Try.prog (.addOff 6) [v1] k_185) fun v151 =>
 Gd v149 false (fun k_187 => RdS Try.prog (.ld 1 false) [v151] k_187) fun v152 =>
 Gd v149 false (fun k_189 => Pu Try.prog (.addOff 1) [v1] k_189) fun v153 =>
 Gd v149 false (fun k_191 => RdS Try.prog (.ld 1 false) [v153] k_191) fun v154 =>
 Gd v149 false (fun k_193 => Pu Try.prog .len [v154] k_193) fun v155 =>
 Gd v149 false (fun k_195 => Pu Try.prog (.bin .gtr 3) [v152, v155] k_195) fun v156 =>
 Pu Try.prog .pick [v149, (.p (.bool true)), v156] fun v157 =>
 Gd v157 false (fun k_198 => Pu Try.prog (.addOff 5) [v1] k_198) fun v159 =>
 Gd v157 false (fun k_200 => RdS Try.prog (.ld 1 false) [v159] k_200) fun v160 =>
 Gd v157 false (fun k_202 => Pu Try.prog (.addOff 1) [v1] k_202) fun v161 =>
 Gd v157 false (fun k_204 => RdS Try.prog (.ld 1 false) [v161] k_204) fun v162 =>
 Gd v157 false (fun k_206 => Pu Try.prog .len [v162] k_206) fun v163 =>
 Gd v157 false (fun k_208 => Pu Try.prog (.addOff 6) [v1] k_208) fun v164 =>
 Gd v157 false (fun k_210 => RdS Try.prog (.ld 1 false) [v164] k_210) fun v165 =>
 Gd v157 false (fun k_212 => Pu Try.prog (.bin .sub 3) [v163, v165] k_212) fun v166 =>
 Gd v157 false (fun k_214 => Pu Try.prog (.bin .gtr 3) [v160, v166] k_214) fun v167 =>
 Pu Try.prog .pick [v157, (.p (.bool true)), v167] fun v168 =>
 CdA v168
 (
 Rt Try.prog H.nx (.p (.bool false)) Q
 ) (
 Vw fun V_216 =>
 Pu Try.prog (.addOff 1) [v1] fun v169 =>
 Rd Try.prog V_216 (.ld 1 false) [v169] fun v170 =>
 Pu Try.prog (.slc 3 false true) [v170, v136] fun v172 =>
 Pu Try.prog (.addOff 1) [v1] fun v173 =>
 Rd Try.prog V_216 (.ld 1 false) [v173] fun v174 =>
 Pu Try.prog (.slc 3 true false) [v174, v141] fun v176 =>
 Rg 4 fun b_223 =>
 Pu Try.prog (.addOff 2) [v4] fun v177 =>
 RdS Try.prog (.ld 3 true) [v177] fun v178 =>
 Al (b_223 + 2) (.nw 24 [.p (.int .i64 0), .p (.int .i64 0), .p (.slice none 0 0)]) [] fun v10 =>
 WrS Try.prog (b_223 + 3) (.st 3) [v10, v178] fun _ =>
 CutA Try.prog 2 (fun k_228 =>
 Pu Try.prog (.addOff 0) [v1] fun v179 =>
 RdS Try.prog (.ld 1 false) [v179] fun v180 =>
 Pu Try.prog (.bin .eql 3) [v180, (.p (.int .i64 4))] fun v182 =>
 CdA v182
 (S_speech_stepRight_C4 Q H v4 v136 v172 v176 v10 k_228) (
 Pu Try.prog (.bin .eql 3) [v180, (.p (.int .i64 5))] fun v221 =>
 CdA v221
 (S_speech_stepRight_C5 Q H v4 v172 v176 v10 k_228) (
 k_228 [v172, v176]
 )
 )
 ) (S_speech_stepRight_K3 Q H v1 v4 v5 v136 v141 v10)
 )
/-! wordhoard/wordhoardref.AsksWords -/
/-! wordhoard/wordhoardref.Says -/
/-! wordhoard/wordhoardref.Same -/
/-! wordhoard/wordhoardlaw.SpeechSays -/
/-! wordhoard/wordhoardlaw.SpeechRight -/
/-! wordhoard/wordhoardlaw.SpeechCutless -/
/-! wordhoard/wordhoardlaw.SpeechLambek -/
/-! wordhoard/wordhoardlaw.asksRight -/
/-! slices.ContainsFunc[[][]wordhoard/api.Part,[]wordhoard/api.Part] -/
/-! slices.Clone[[]int,int] -/
/-! slices.IndexFunc[[][]wordhoard/api.Part,[]wordhoard/api.Part] -/
end Go.Proofs.Ytpmnlikgldacaaa
