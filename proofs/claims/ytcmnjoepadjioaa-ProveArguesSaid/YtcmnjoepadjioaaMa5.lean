/- The law ProveArgues holds: whatever comes in, the call returns true and its arguments read as they did. No condition. -/
import Derived.Test.YtcmnjoepadjioaaMa4
import Derived.Laws.StructEq
import Derived.JoinedOf
import Derived.JoinedAt

/- Abstract walks of functions, written by a program (wip/aw/aw.py): each equation is checked by the kernel. -/
namespace Go.Proofs.Ytcmnjoepadjioaa
open Go.RowKit

/-! wordhoard/wordhoardref.SoundLine -/
def ac_wordhoardref_SoundLine : AC := (.seq (.reg 0) (.seq (.reg 1) (.seq (.reg 2) (.seq (.reg 3) (.seq (.seq (.reg 4) (.block 0 (.loop [9, 10] [(6, 7), (11, 12), (20, 65)] (.seq (.seq (.reg 5) (.cond (.tmp 24) .skip (.exit 0))) (.seq (.block 1 (.seq (.reg 6) (.seq (.seq (.reg 7) (.cond (.tmp 34) (.seq (.seq (.reg 8) (.cond (.tmp 42) (.seq (.reg 9) .ret) .skip)) (.seq (.reg 10) (.exit 1))) .skip)) (.seq (.seq (.reg 11) (.cond (.tmp 56) (.seq (.reg 12) .ret) .skip)) (.reg 13))))) (.reg 14)))))) (.seq (.seq (.reg 15) (.cond (.tmp 83) (.seq (.reg 16) .ret) .skip)) (.seq (.reg 17) (.cut [] [(84, 90)] (.seq (.reg 18) (.cond (.tmp 86) (.reg 19) .skip)) (.cut [] [(90, 96)] (.seq (.reg 20) (.cond (.tmp 92) (.reg 21) .skip)) (.seq (.seq (.reg 22) (.block 2 (.seq (.reg 23) (.cond (.tmp 98) (.seq (.reg 24) .ret) (.seq (.reg 25) (.cond (.tmp 103) (.seq (.reg 26) .ret) (.seq (.reg 27) (.cond (.tmp 115) (.seq (.reg 28) .ret) (.seq (.reg 29) (.cond (.tmp 151) (.seq (.reg 30) .ret) (.seq (.reg 31) (.cond (.tmp 177) (.seq (.reg 32) .ret) (.seq (.reg 33) (.cond (.tmp 202) (.seq (.reg 34) .ret) (.seq (.reg 35) (.cond (.tmp 227) (.seq (.reg 36) .ret) (.seq (.reg 37) (.cond (.tmp 249) (.seq (.reg 38) .ret) (.seq (.reg 39) (.cond (.tmp 271) (.seq (.reg 40) .ret) .skip)))))))))))))))))))) (.seq (.reg 41) .ret)))))))))))
def S_wordhoardref_SoundLine_C1 (a0 : AV) (a1 : AV) (a2 : AV) (Q : AV → AH → Prop) (H : AH) (v7 : AV) (k : List AV → AH → Prop) (vs : List AV) : AH → Prop :=
  Pu Try.prog (.addOff 4) [v7] fun v27 =>
  RdS Try.prog (.ld 1 false) [v27] fun v28 =>
  Pu Try.prog (.idx 1) [v28, (vs.getD 1 .any)] fun v30 =>
  RdS Try.prog (.ld 1 false) [v30] fun v31 =>
  Pu Try.prog (.addOff 0) [v7] fun v32 =>
  RdS Try.prog (.ld 1 false) [v32] fun v33 =>
  Pu Try.prog (.bin .eql 3) [v33, (.p (.int .i64 1))] fun v34 =>
  CdA v34
    (
    Pu Try.prog (.bin .lss 3) [v31, (.p (.int .i64 0))] fun v36 =>
    Gd v36 false (fun k_26 => k_26 v31) fun v38 =>
    Gd v36 false (fun k_28 => k_28 a0) fun v39 =>
    Gd v36 false (fun k_30 => Pu Try.prog .len [v39] k_30) fun v40 =>
    Gd v36 false (fun k_32 => Pu Try.prog (.bin .geq 3) [v38, v40] k_32) fun v41 =>
    Pu Try.prog .pick [v36, (.p (.bool true)), v41] fun v42 =>
    CdA v42
      (
      Rt Try.prog H.nx (.p (.bool false)) Q
      ) (
      Rg 8 fun b_34 =>
      Pu Try.prog (.idx 3) [a0, v31] fun v46 =>
      RdS Try.prog (.ld 3 true) [v46] fun v47 =>
      Al (b_34 + 5) (.bs 24 3 1 [.p (.bool false), .p (.int .i64 0), .p (.int .i64 0)] [(0, 3)]) [v47] fun v48 =>
      WrS Try.prog (b_34 + 6) (.app 24 3 24) [(vs.getD 0 .any), v48] fun v49 =>
      Pu Try.prog (.bin .add 3) [(vs.getD 1 .any), (.p (.int .i64 1))] fun v26 =>
      k [v49, v26]
      )
    ) (
    Pu Try.prog (.bin .lss 3) [v31, (.p (.int .i64 0))] fun v51 =>
    Gd v51 false (fun k_42 => k_42 v31) fun v53 =>
    Gd v51 false (fun k_44 => k_44 a2) fun v54 =>
    Gd v51 false (fun k_46 => Pu Try.prog (.bin .geq 3) [v53, v54] k_46) fun v55 =>
    Pu Try.prog .pick [v51, (.p (.bool true)), v55] fun v56 =>
    CdA v56
      (
      Rt Try.prog H.nx (.p (.bool false)) Q
      ) (
      Rg 9 fun b_48 =>
      Pu Try.prog (.idx 5) [a1, v31] fun v60 =>
      Pu Try.prog (.addOff 1) [v60] fun v61 =>
      RdS Try.prog (.ld 3 true) [v61] fun v62 =>
      Al (b_48 + 6) (.bs 24 3 1 [.p (.bool false), .p (.int .i64 0), .p (.int .i64 0)] [(0, 3)]) [v62] fun v63 =>
      WrS Try.prog (b_48 + 7) (.app 24 3 24) [(vs.getD 0 .any), v63] fun v64 =>
      Pu Try.prog (.bin .add 3) [(vs.getD 1 .any), (.p (.int .i64 1))] fun v26_54 =>
      k [v64, v26_54]
      )
    )
def S_wordhoardref_SoundLine_C2 (Q : AV → AH → Prop) (H : AH) (v8 : AV) (v12 : AV) (v13 : AV) : AH → Prop :=
  Pu Try.prog (.addOff 0) [v12] fun v117 =>
  RdS Try.prog (.ld 1 false) [v117] fun v118 =>
  Pu Try.prog (.un .not) [v118] fun v119 =>
  Gd v119 true (fun k_118 => Pu Try.prog (.addOff 0) [v13] k_118) fun v121 =>
  Gd v119 true (fun k_120 => RdS Try.prog (.ld 1 false) [v121] k_120) fun v122 =>
  Gd v119 true (fun k_122 => Pu Try.prog (.un .not) [v122] k_122) fun v123 =>
  Pu Try.prog .pick [v119, v123, (.p (.bool false))] fun v124 =>
  Gd v124 true (fun k_125 => Pu Try.prog (.addOff 0) [v8] k_125) fun v126 =>
  Gd v124 true (fun k_127 => RdS Try.prog (.ld 1 false) [v126] k_127) fun v127 =>
  Gd v124 true (fun k_129 => Pu Try.prog (.un .not) [v127] k_129) fun v128 =>
  Pu Try.prog .pick [v124, v128, (.p (.bool false))] fun v129 =>
  Gd v129 true (fun k_132 => Pu Try.prog (.addOff 2) [v12] k_132) fun v131 =>
  Gd v129 true (fun k_134 => RdS Try.prog (.ld 1 false) [v131] k_134) fun v132 =>
  Gd v129 true (fun k_136 => Pu Try.prog (.addOff 1) [v13] k_136) fun v133 =>
  Gd v129 true (fun k_138 => RdS Try.prog (.ld 1 false) [v133] k_138) fun v134 =>
  Gd v129 true (fun k_140 => Pu Try.prog (.bin .eql 3) [v132, v134] k_140) fun v135 =>
  Pu Try.prog .pick [v129, v135, (.p (.bool false))] fun v136 =>
  Gd v136 true (fun k_143 => Pu Try.prog (.addOff 1) [v8] k_143) fun v138 =>
  Gd v136 true (fun k_145 => RdS Try.prog (.ld 1 false) [v138] k_145) fun v139 =>
  Gd v136 true (fun k_147 => Pu Try.prog (.addOff 1) [v12] k_147) fun v140 =>
  Gd v136 true (fun k_149 => RdS Try.prog (.ld 1 false) [v140] k_149) fun v141 =>
  Gd v136 true (fun k_151 => Pu Try.prog (.bin .eql 3) [v139, v141] k_151) fun v142 =>
  Pu Try.prog .pick [v136, v142, (.p (.bool false))] fun v143 =>
  Gd v143 true (fun k_154 => Pu Try.prog (.addOff 2) [v8] k_154) fun v145 =>
  Gd v143 true (fun k_156 => RdS Try.prog (.ld 1 false) [v145] k_156) fun v146 =>
  Gd v143 true (fun k_158 => Pu Try.prog (.addOff 2) [v13] k_158) fun v147 =>
  Gd v143 true (fun k_160 => RdS Try.prog (.ld 1 false) [v147] k_160) fun v148 =>
  Gd v143 true (fun k_162 => Pu Try.prog (.bin .eql 3) [v146, v148] k_162) fun v149 =>
  Pu Try.prog .pick [v143, v149, (.p (.bool false))] fun v150 =>
  Rt Try.prog H.nx v150 Q
def S_wordhoardref_SoundLine_C3 (Q : AV → AH → Prop) (H : AH) (v8 : AV) (v12 : AV) : AH → Prop :=
  Pu Try.prog (.addOff 0) [v12] fun v153 =>
  RdS Try.prog (.ld 1 false) [v153] fun v154 =>
  Pu Try.prog (.un .not) [v154] fun v155 =>
  Gd v155 true (fun k_169 => Pu Try.prog (.addOff 0) [v8] k_169) fun v157 =>
  Gd v155 true (fun k_171 => RdS Try.prog (.ld 1 false) [v157] k_171) fun v158 =>
  Gd v155 true (fun k_173 => Pu Try.prog (.un .not) [v158] k_173) fun v159 =>
  Pu Try.prog .pick [v155, v159, (.p (.bool false))] fun v160 =>
  Gd v160 true (fun k_176 => Pu Try.prog (.addOff 1) [v8] k_176) fun v162 =>
  Gd v160 true (fun k_178 => RdS Try.prog (.ld 1 false) [v162] k_178) fun v163 =>
  Gd v160 true (fun k_180 => Pu Try.prog (.addOff 2) [v12] k_180) fun v164 =>
  Gd v160 true (fun k_182 => RdS Try.prog (.ld 1 false) [v164] k_182) fun v165 =>
  Gd v160 true (fun k_184 => Pu Try.prog (.un .neg) [v165] k_184) fun v166 =>
  Gd v160 true (fun k_186 => Pu Try.prog (.bin .eql 3) [v163, v166] k_186) fun v167 =>
  Pu Try.prog .pick [v160, v167, (.p (.bool false))] fun v168 =>
  Gd v168 true (fun k_189 => Pu Try.prog (.addOff 2) [v8] k_189) fun v170 =>
  Gd v168 true (fun k_191 => RdS Try.prog (.ld 1 false) [v170] k_191) fun v171 =>
  Gd v168 true (fun k_193 => Pu Try.prog (.addOff 1) [v12] k_193) fun v172 =>
  Gd v168 true (fun k_195 => RdS Try.prog (.ld 1 false) [v172] k_195) fun v173 =>
  Gd v168 true (fun k_197 => Pu Try.prog (.un .neg) [v173] k_197) fun v174 =>
  Gd v168 true (fun k_199 => Pu Try.prog (.bin .eql 3) [v171, v174] k_199) fun v175 =>
  Pu Try.prog .pick [v168, v175, (.p (.bool false))] fun v176 =>
  Rt Try.prog H.nx v176 Q
def S_wordhoardref_SoundLine_C4 (Q : AV → AH → Prop) (H : AH) (v8 : AV) (v12 : AV) : AH → Prop :=
  Pu Try.prog (.addOff 0) [v12] fun v179 =>
  RdS Try.prog (.ld 1 false) [v179] fun v180 =>
  Pu Try.prog (.un .not) [v180] fun v181 =>
  Gd v181 true (fun k_206 => Pu Try.prog (.addOff 2) [v12] k_206) fun v183 =>
  Gd v181 true (fun k_208 => RdS Try.prog (.ld 1 false) [v183] k_208) fun v184 =>
  Gd v181 true (fun k_210 => Pu Try.prog (.addOff 1) [v12] k_210) fun v185 =>
  Gd v181 true (fun k_212 => RdS Try.prog (.ld 1 false) [v185] k_212) fun v186 =>
  Gd v181 true (fun k_214 => Pu Try.prog (.un .neg) [v186] k_214) fun v187 =>
  Gd v181 true (fun k_216 => Pu Try.prog (.bin .eql 3) [v184, v187] k_216) fun v188 =>
  Pu Try.prog .pick [v181, v188, (.p (.bool false))] fun v189 =>
  Gd v189 true (fun k_219 => Pu Try.prog (.addOff 0) [v8] k_219) fun v191 =>
  Gd v189 true (fun k_221 => RdS Try.prog (.ld 1 false) [v191] k_221) fun v192 =>
  Gd v189 true (fun k_223 => Pu Try.prog (.un .not) [v192] k_223) fun v193 =>
  Pu Try.prog .pick [v189, v193, (.p (.bool false))] fun v194 =>
  Gd v194 true (fun k_226 => Pu Try.prog (.addOff 1) [v8] k_226) fun v196 =>
  Gd v194 true (fun k_228 => RdS Try.prog (.ld 1 false) [v196] k_228) fun v197 =>
  Gd v194 true (fun k_230 => Pu Try.prog (.addOff 1) [v12] k_230) fun v198 =>
  Gd v194 true (fun k_232 => RdS Try.prog (.ld 1 false) [v198] k_232) fun v199 =>
  Gd v194 true (fun k_234 => Pu Try.prog (.bin .eql 3) [v197, v199] k_234) fun v200 =>
  Pu Try.prog .pick [v194, v200, (.p (.bool false))] fun v201 =>
  Rt Try.prog H.nx v201 Q
def S_wordhoardref_SoundLine_C5 (Q : AV → AH → Prop) (H : AH) (v8 : AV) (v12 : AV) : AH → Prop :=
  Pu Try.prog (.addOff 0) [v12] fun v204 =>
  RdS Try.prog (.ld 1 false) [v204] fun v205 =>
  Pu Try.prog (.un .not) [v205] fun v206 =>
  Gd v206 true (fun k_241 => Pu Try.prog (.addOff 1) [v12] k_241) fun v208 =>
  Gd v206 true (fun k_243 => RdS Try.prog (.ld 1 false) [v208] k_243) fun v209 =>
  Gd v206 true (fun k_245 => Pu Try.prog (.addOff 2) [v12] k_245) fun v210 =>
  Gd v206 true (fun k_247 => RdS Try.prog (.ld 1 false) [v210] k_247) fun v211 =>
  Gd v206 true (fun k_249 => Pu Try.prog (.un .neg) [v211] k_249) fun v212 =>
  Gd v206 true (fun k_251 => Pu Try.prog (.bin .eql 3) [v209, v212] k_251) fun v213 =>
  Pu Try.prog .pick [v206, v213, (.p (.bool false))] fun v214 =>
  Gd v214 true (fun k_254 => Pu Try.prog (.addOff 0) [v8] k_254) fun v216 =>
  Gd v214 true (fun k_256 => RdS Try.prog (.ld 1 false) [v216] k_256) fun v217 =>
  Gd v214 true (fun k_258 => Pu Try.prog (.un .not) [v217] k_258) fun v218 =>
  Pu Try.prog .pick [v214, v218, (.p (.bool false))] fun v219 =>
  Gd v219 true (fun k_261 => Pu Try.prog (.addOff 2) [v8] k_261) fun v221 =>
  Gd v219 true (fun k_263 => RdS Try.prog (.ld 1 false) [v221] k_263) fun v222 =>
  Gd v219 true (fun k_265 => Pu Try.prog (.addOff 2) [v12] k_265) fun v223 =>
  Gd v219 true (fun k_267 => RdS Try.prog (.ld 1 false) [v223] k_267) fun v224 =>
  Gd v219 true (fun k_269 => Pu Try.prog (.bin .eql 3) [v222, v224] k_269) fun v225 =>
  Pu Try.prog .pick [v219, v225, (.p (.bool false))] fun v226 =>
  Rt Try.prog H.nx v226 Q
def S_wordhoardref_SoundLine_C6 (Q : AV → AH → Prop) (H : AH) (v8 : AV) (v12 : AV) : AH → Prop :=
  Pu Try.prog (.addOff 0) [v12] fun v229 =>
  RdS Try.prog (.ld 1 false) [v229] fun v230 =>
  Gd v230 true (fun k_275 => Pu Try.prog (.addOff 0) [v8] k_275) fun v232 =>
  Gd v230 true (fun k_277 => RdS Try.prog (.ld 1 false) [v232] k_277) fun v233 =>
  Pu Try.prog .pick [v230, v233, (.p (.bool false))] fun v234 =>
  Gd v234 true (fun k_280 => Pu Try.prog (.addOff 1) [v8] k_280) fun v236 =>
  Gd v234 true (fun k_282 => RdS Try.prog (.ld 1 false) [v236] k_282) fun v237 =>
  Gd v234 true (fun k_284 => Pu Try.prog (.addOff 2) [v12] k_284) fun v238 =>
  Gd v234 true (fun k_286 => RdS Try.prog (.ld 1 false) [v238] k_286) fun v239 =>
  Gd v234 true (fun k_288 => Pu Try.prog (.bin .eql 3) [v237, v239] k_288) fun v240 =>
  Pu Try.prog .pick [v234, v240, (.p (.bool false))] fun v241 =>
  Gd v241 true (fun k_291 => Pu Try.prog (.addOff 2) [v8] k_291) fun v243 =>
  Gd v241 true (fun k_293 => RdS Try.prog (.ld 1 false) [v243] k_293) fun v244 =>
  Gd v241 true (fun k_295 => Pu Try.prog (.addOff 1) [v12] k_295) fun v245 =>
  Gd v241 true (fun k_297 => RdS Try.prog (.ld 1 false) [v245] k_297) fun v246 =>
  Gd v241 true (fun k_299 => Pu Try.prog (.bin .eql 3) [v244, v246] k_299) fun v247 =>
  Pu Try.prog .pick [v241, v247, (.p (.bool false))] fun v248 =>
  Rt Try.prog H.nx v248 Q
def S_wordhoardref_SoundLine_C7 (Q : AV → AH → Prop) (H : AH) (v8 : AV) (v12 : AV) : AH → Prop :=
  Pu Try.prog (.addOff 0) [v12] fun v251 =>
  RdS Try.prog (.ld 1 false) [v251] fun v252 =>
  Gd v252 true (fun k_305 => Pu Try.prog (.addOff 0) [v8] k_305) fun v254 =>
  Gd v252 true (fun k_307 => RdS Try.prog (.ld 1 false) [v254] k_307) fun v255 =>
  Pu Try.prog .pick [v252, v255, (.p (.bool false))] fun v256 =>
  Gd v256 true (fun k_310 => Pu Try.prog (.addOff 1) [v8] k_310) fun v258 =>
  Gd v256 true (fun k_312 => RdS Try.prog (.ld 1 false) [v258] k_312) fun v259 =>
  Gd v256 true (fun k_314 => Pu Try.prog (.addOff 1) [v12] k_314) fun v260 =>
  Gd v256 true (fun k_316 => RdS Try.prog (.ld 1 false) [v260] k_316) fun v261 =>
  Gd v256 true (fun k_318 => Pu Try.prog (.bin .eql 3) [v259, v261] k_318) fun v262 =>
  Pu Try.prog .pick [v256, v262, (.p (.bool false))] fun v263 =>
  Gd v263 true (fun k_321 => Pu Try.prog (.addOff 2) [v8] k_321) fun v265 =>
  Gd v263 true (fun k_323 => RdS Try.prog (.ld 1 false) [v265] k_323) fun v266 =>
  Gd v263 true (fun k_325 => Pu Try.prog (.addOff 1) [v12] k_325) fun v267 =>
  Gd v263 true (fun k_327 => RdS Try.prog (.ld 1 false) [v267] k_327) fun v268 =>
  Gd v263 true (fun k_329 => Pu Try.prog (.bin .eql 3) [v266, v268] k_329) fun v269 =>
  Pu Try.prog .pick [v263, v269, (.p (.bool false))] fun v270 =>
  Rt Try.prog H.nx v270 Q
def S_wordhoardref_SoundLine_C8 (Q : AV → AH → Prop) (H : AH) (v8 : AV) (v12 : AV) (v13 : AV) : AH → Prop :=
  Pu Try.prog (.addOff 0) [v12] fun v273 =>
  RdS Try.prog (.ld 1 false) [v273] fun v274 =>
  Gd v274 true (fun k_335 => Pu Try.prog (.addOff 0) [v13] k_335) fun v276 =>
  Gd v274 true (fun k_337 => RdS Try.prog (.ld 1 false) [v276] k_337) fun v277 =>
  Gd v274 true (fun k_339 => Pu Try.prog (.un .not) [v277] k_339) fun v278 =>
  Pu Try.prog .pick [v274, v278, (.p (.bool false))] fun v279 =>
  Gd v279 true (fun k_342 => Pu Try.prog (.addOff 0) [v8] k_342) fun v281 =>
  Gd v279 true (fun k_344 => RdS Try.prog (.ld 1 false) [v281] k_344) fun v282 =>
  Pu Try.prog .pick [v279, v282, (.p (.bool false))] fun v283 =>
  Gd v283 true (fun k_347 => Pu Try.prog (.addOff 2) [v12] k_347) fun v285 =>
  Gd v283 true (fun k_349 => RdS Try.prog (.ld 1 false) [v285] k_349) fun v286 =>
  Gd v283 true (fun k_351 => Pu Try.prog (.addOff 1) [v13] k_351) fun v287 =>
  Gd v283 true (fun k_353 => RdS Try.prog (.ld 1 false) [v287] k_353) fun v288 =>
  Gd v283 true (fun k_355 => Pu Try.prog (.bin .eql 3) [v286, v288] k_355) fun v289 =>
  Pu Try.prog .pick [v283, v289, (.p (.bool false))] fun v290 =>
  Gd v290 true (fun k_358 => Pu Try.prog (.addOff 1) [v8] k_358) fun v292 =>
  Gd v290 true (fun k_360 => RdS Try.prog (.ld 1 false) [v292] k_360) fun v293 =>
  Gd v290 true (fun k_362 => Pu Try.prog (.addOff 1) [v12] k_362) fun v294 =>
  Gd v290 true (fun k_364 => RdS Try.prog (.ld 1 false) [v294] k_364) fun v295 =>
  Gd v290 true (fun k_366 => Pu Try.prog (.bin .eql 3) [v293, v295] k_366) fun v296 =>
  Pu Try.prog .pick [v290, v296, (.p (.bool false))] fun v297 =>
  Gd v297 true (fun k_369 => Pu Try.prog (.addOff 2) [v8] k_369) fun v299 =>
  Gd v297 true (fun k_371 => RdS Try.prog (.ld 1 false) [v299] k_371) fun v300 =>
  Gd v297 true (fun k_373 => Pu Try.prog (.addOff 2) [v13] k_373) fun v301 =>
  Gd v297 true (fun k_375 => RdS Try.prog (.ld 1 false) [v301] k_375) fun v302 =>
  Gd v297 true (fun k_377 => Pu Try.prog (.bin .eql 3) [v300, v302] k_377) fun v303 =>
  Pu Try.prog .pick [v297, v303, (.p (.bool false))] fun v304 =>
  Rt Try.prog H.nx v304 Q
def S_wordhoardref_SoundLine_C9 (Q : AV → AH → Prop) (H : AH) (v12 : AV) (v13 : AV) : AH → Prop :=
  Pu Try.prog (.addOff 0) [v12] fun v305 =>
  RdS Try.prog (.ld 1 false) [v305] fun v306 =>
  Pu Try.prog (.un .not) [v306] fun v307 =>
  Gd v307 true (fun k_383 => Pu Try.prog (.addOff 0) [v13] k_383) fun v309 =>
  Gd v307 true (fun k_385 => RdS Try.prog (.ld 1 false) [v309] k_385) fun v310 =>
  Pu Try.prog .pick [v307, v310, (.p (.bool false))] fun v311 =>
  Gd v311 true (fun k_388 => Pu Try.prog (.addOff 1) [v13] k_388) fun v313 =>
  Gd v311 true (fun k_390 => RdS Try.prog (.ld 1 false) [v313] k_390) fun v314 =>
  Gd v311 true (fun k_392 => Pu Try.prog (.addOff 1) [v12] k_392) fun v315 =>
  Gd v311 true (fun k_394 => RdS Try.prog (.ld 1 false) [v315] k_394) fun v316 =>
  Gd v311 true (fun k_396 => Pu Try.prog (.bin .eql 3) [v314, v316] k_396) fun v317 =>
  Pu Try.prog .pick [v311, v317, (.p (.bool false))] fun v318 =>
  Gd v318 true (fun k_399 => Pu Try.prog (.addOff 2) [v13] k_399) fun v320 =>
  Gd v318 true (fun k_401 => RdS Try.prog (.ld 1 false) [v320] k_401) fun v321 =>
  Gd v318 true (fun k_403 => Pu Try.prog (.addOff 2) [v12] k_403) fun v322 =>
  Gd v318 true (fun k_405 => RdS Try.prog (.ld 1 false) [v322] k_405) fun v323 =>
  Gd v318 true (fun k_407 => Pu Try.prog (.un .neg) [v323] k_407) fun v324 =>
  Gd v318 true (fun k_409 => Pu Try.prog (.bin .eql 3) [v321, v324] k_409) fun v325 =>
  Pu Try.prog .pick [v318, v325, (.p (.bool false))] fun v326 =>
  Rt Try.prog H.nx v326 Q
def S_wordhoardref_SoundLine_C10 (Q : AV → AH → Prop) (H : AH) (v8 : AV) (v12 : AV) (v13 : AV) (v97 : AV) : AH → Prop :=
  Pu Try.prog (.bin .eql 3) [v97, (.p (.int .i64 2))] fun v104 =>
  CdA v104
    (
    Pu Try.prog (.addOff 0) [v8] fun v105 =>
    RdS Try.prog (.ld 1 false) [v105] fun v106 =>
    Pu Try.prog (.un .not) [v106] fun v107 =>
    Gd v107 true (fun k_103 => Pu Try.prog (.addOff 1) [v8] k_103) fun v109 =>
    Gd v107 true (fun k_105 => RdS Try.prog (.ld 1 false) [v109] k_105) fun v110 =>
    Gd v107 true (fun k_107 => Pu Try.prog (.addOff 2) [v8] k_107) fun v111 =>
    Gd v107 true (fun k_109 => RdS Try.prog (.ld 1 false) [v111] k_109) fun v112 =>
    Gd v107 true (fun k_111 => Pu Try.prog (.bin .eql 3) [v110, v112] k_111) fun v113 =>
    Pu Try.prog .pick [v107, v113, (.p (.bool false))] fun v114 =>
    Rt Try.prog H.nx v114 Q
    ) (
    Pu Try.prog (.bin .eql 3) [v97, (.p (.int .i64 3))] fun v116 =>
    CdA v116
      (S_wordhoardref_SoundLine_C2 Q H v8 v12 v13) (
      Pu Try.prog (.bin .eql 3) [v97, (.p (.int .i64 4))] fun v152 =>
      CdA v152
        (S_wordhoardref_SoundLine_C3 Q H v8 v12) (
        Pu Try.prog (.bin .eql 3) [v97, (.p (.int .i64 5))] fun v178 =>
        CdA v178
          (S_wordhoardref_SoundLine_C4 Q H v8 v12) (
          Pu Try.prog (.bin .eql 3) [v97, (.p (.int .i64 6))] fun v203 =>
          CdA v203
            (S_wordhoardref_SoundLine_C5 Q H v8 v12) (
            Pu Try.prog (.bin .eql 3) [v97, (.p (.int .i64 7))] fun v228 =>
            CdA v228
              (S_wordhoardref_SoundLine_C6 Q H v8 v12) (
              Pu Try.prog (.bin .eql 3) [v97, (.p (.int .i64 8))] fun v250 =>
              CdA v250
                (S_wordhoardref_SoundLine_C7 Q H v8 v12) (
                Pu Try.prog (.bin .eql 3) [v97, (.p (.int .i64 9))] fun v272 =>
                CdA v272
                  (S_wordhoardref_SoundLine_C8 Q H v8 v12 v13) (S_wordhoardref_SoundLine_C9 Q H v12 v13)
                )
              )
            )
          )
        )
      )
    )
def S_wordhoardref_SoundLine_K11 (Q : AV → AH → Prop) (H : AH) (v7 : AV) (v8 : AV) (v12 : AV) (v13 : AV) (_vs_91 : List AV) : AH → Prop :=
  Pu Try.prog (.addOff 0) [v7] fun v96 =>
  RdS Try.prog (.ld 1 false) [v96] fun v97 =>
  Pu Try.prog (.bin .eql 3) [v97, (.p (.int .i64 1))] fun v99 =>
  CdA v99
    (
    RdS Try.prog (.ld 3 true) [v8] fun v100 =>
    RdS Try.prog (.ld 3 true) [v12] fun v101 =>
    Pu Try.prog (.bin .eql 24) [v100, v101] fun v102 =>
    Rt Try.prog H.nx v102 Q
    ) (S_wordhoardref_SoundLine_C10 Q H v8 v12 v13 v97)
def S_wordhoardref_SoundLine_K12 (Q : AV → AH → Prop) (H : AH) (v7 : AV) (v8 : AV) (vs : List AV) (v12 : AV) (v13 : AV) (_vs_89 : List AV) : AH → Prop :=
  CutA Try.prog 0 (fun k_90 =>
    Pu Try.prog .len [(vs.getD 0 .any)] fun v91 =>
    Pu Try.prog (.bin .gtr 3) [v91, (.p (.int .i64 1))] fun v92 =>
    CdA v92
      (
      Rg 4 fun b_413 =>
      Pu Try.prog (.idx 3) [(vs.getD 0 .any), (.p (.int .i64 1))] fun v94 =>
      RdS Try.prog (.ld 3 true) [v94] fun v95 =>
      WrS Try.prog (b_413 + 3) (.st 3) [v13, v95] fun _ =>
      k_90 []
      ) (
      k_90 []
      )
    ) (S_wordhoardref_SoundLine_K11 Q H v7 v8 v12 v13)
def S_wordhoardref_SoundLine_C13 (Q : AV → AH → Prop) (H : AH) (v7 : AV) (v8 : AV) (vs : List AV) : AH → Prop :=
  Rg 19 fun b_55 =>
  Pu Try.prog (.addOff 0) [v7] fun v65 =>
  RdS Try.prog (.ld 1 false) [v65] fun v66 =>
  Pu Try.prog (.bin .lss 3) [v66, (.p (.int .i64 1))] fun v67 =>
  Gd v67 false (fun k_60 => Pu Try.prog (.addOff 0) [v7] k_60) fun v69 =>
  Gd v67 false (fun k_62 => RdS Try.prog (.ld 1 false) [v69] k_62) fun v70 =>
  Gd v67 false (fun k_64 => Pu Try.prog (.bin .gtr 3) [v70, (.p (.int .i64 10))] k_64) fun v71 =>
  Pu Try.prog .pick [v67, (.p (.bool true)), v71] fun v72 =>
  Gd v72 false (fun k_67 => k_67 (vs.getD 0 .any)) fun v74 =>
  Gd v72 false (fun k_69 => Pu Try.prog .len [v74] k_69) fun v75 =>
  Gd v72 false (fun k_71 => Al (b_55 + 11) (.bs 3 1 10 [.p (.int .i64 0)] [(0, 1), (1, 1), (2, 1), (3, 1), (4, 1), (5, 1), (6, 1), (7, 1), (8, 1), (9, 1)]) [(.p (.int .i64 1)), (.p (.int .i64 0)), (.p (.int .i64 2)), (.p (.int .i64 1)), (.p (.int .i64 1)), (.p (.int .i64 1)), (.p (.int .i64 1)), (.p (.int .i64 1)), (.p (.int .i64 2)), (.p (.int .i64 2))] k_71) fun v76 =>
  Gd v72 false (fun k_73 => Pu Try.prog (.addOff 0) [v7] k_73) fun v77 =>
  Gd v72 false (fun k_75 => RdS Try.prog (.ld 1 false) [v77] k_75) fun v78 =>
  Gd v72 false (fun k_77 => Pu Try.prog (.bin .sub 3) [v78, (.p (.int .i64 1))] k_77) fun v79 =>
  Gd v72 false (fun k_79 => Pu Try.prog (.idx 1) [v76, v79] k_79) fun v80 =>
  Gd v72 false (fun k_81 => RdS Try.prog (.ld 1 false) [v80] k_81) fun v81 =>
  Gd v72 false (fun k_83 => Pu Try.prog (.bin .neq 3) [v75, v81] k_83) fun v82 =>
  Pu Try.prog .pick [v72, (.p (.bool true)), v82] fun v83 =>
  CdA v83
    (
    Rt Try.prog H.nx (.p (.bool false)) Q
    ) (
    Rg 2 fun b_85 =>
    Al (b_85 + 0) (.nw 24 [.p (.bool false), .p (.int .i64 0), .p (.int .i64 0)]) [] fun v12 =>
    Al (b_85 + 1) (.nw 24 [.p (.bool false), .p (.int .i64 0), .p (.int .i64 0)]) [] fun v13 =>
    CutA Try.prog 0 (fun k_88 =>
      Pu Try.prog .len [(vs.getD 0 .any)] fun v85 =>
      Pu Try.prog (.bin .gtr 3) [v85, (.p (.int .i64 0))] fun v86 =>
      CdA v86
        (
        Rg 4 fun b_419 =>
        Pu Try.prog (.idx 3) [(vs.getD 0 .any), (.p (.int .i64 0))] fun v88 =>
        RdS Try.prog (.ld 3 true) [v88] fun v89 =>
        WrS Try.prog (b_419 + 3) (.st 3) [v12, v89] fun _ =>
        k_88 []
        ) (
        k_88 []
        )
      ) (S_wordhoardref_SoundLine_K12 Q H v7 v8 vs v12 v13)
    )
def S_wordhoardref_SoundLine_L14 (a0 : AV) (a1 : AV) (a2 : AV) (Q : AV → AH → Prop) (H : AH) (v7 : AV) (v8 : AV) (vs : List AV) (k : List AV → AH → Prop) : AH → Prop :=
  Pu Try.prog (.addOff 4) [v7] fun v21 =>
  RdS Try.prog (.ld 1 false) [v21] fun v22 =>
  Pu Try.prog .len [v22] fun v23 =>
  Pu Try.prog (.bin .lss 3) [(vs.getD 1 .any), v23] fun v24 =>
  CdA v24
    (S_wordhoardref_SoundLine_C1 a0 a1 a2 Q H v7 k vs) (S_wordhoardref_SoundLine_C13 Q H v7 v8 vs)
def S_wordhoardref_SoundLine (a0 a1 a2 : AV) (Q : AV → AH → Prop) (H : AH) : Prop := (
    Rg 6 fun b =>
    Pu Try.prog (.idx 5) [a1, a2] fun v16 =>
    RdS Try.prog (.ld 5 true) [v16] fun v17 =>
    Al (b + 4) (.nw 36 [.p (.int .i64 0), .p (.bool false), .p (.int .i64 0), .p (.int .i64 0), .p (.slice none 0 0)]) [] fun v7 =>
    WrS Try.prog (b + 5) (.st 5) [v7, v17] fun _ =>
    Rg 4 fun b_6 =>
    Pu Try.prog (.addOff 1) [v7] fun v18 =>
    RdS Try.prog (.ld 3 true) [v18] fun v19 =>
    Al (b_6 + 2) (.nw 24 [.p (.bool false), .p (.int .i64 0), .p (.int .i64 0)]) [] fun v8 =>
    WrS Try.prog (b_6 + 3) (.st 3) [v8, v19] fun _ =>
    LoopA Try.prog 2 (S_wordhoardref_SoundLine_L14 a0 a1 a2 Q H v7 v8) [(.p (.slice none 0 0)), (.p (.int .i64 0))]
    ) H
theorem eq_wordhoardref_SoundLine (a0 a1 a2 : AV) (Q : AV → AH → Prop) (H : AH) : FnA Try.prog 327 (regsF Try.f15) ac_wordhoardref_SoundLine [.tm 6] [a0, a1, a2] H Q = S_wordhoardref_SoundLine a0 a1 a2 Q H := by kernel_rfl
theorem tri_wordhoardref_SoundLine {a0 a1 a2 : AV} {H : AH} {Q : AV → AH → Prop} (h : S_wordhoardref_SoundLine a0 a1 a2 Q H) : Tri Try.prog 15 [a0, a1, a2] H Q :=
  tri_of (Ms := [#[], #[], #[], #[], #[], #[], #[], #[], #[], #[], #[], #[], #[], #[], #[], #[], #[], #[], #[], #[], #[], #[], #[], #[], #[], #[], #[], #[], #[], #[], #[], #[], #[], #[], #[], #[], #[], #[], #[], #[], #[], #[]]) mixed Try.func15 rfl (by kernel_rfl) (by kernel_rfl) rfl (of_decide_eq_true rfl : 3 ≤ 327) ((eq_wordhoardref_SoundLine a0 a1 a2 Q H).symm ▸ h : FnA Try.prog 327 (regsF Try.f15) ac_wordhoardref_SoundLine [.tm 6] [a0, a1, a2] H Q)

/-! wordhoard/prove.right -/
def ac_prove_right : AC := (.seq (.reg 0) (.seq (.reg 1) (.seq (.reg 2) (.seq (.seq (.reg 3) (.cond (.tmp 27) (.seq (.reg 4) .ret) .skip)) (.seq (.reg 5) (.seq (.reg 6) (.seq (.seq (.reg 7) (.cond (.tmp 76) (.seq (.reg 8) .ret) .skip)) (.seq (.reg 9) (.seq (.seq (.reg 10) (.block 0 (.loop [80] [(6, 7), (13, 15), (81, 100)] (.seq (.reg 11) (.seq (.cond (.tmp 81) .skip (.exit 0)) (.seq (.block 1 (.seq (.reg 12) (.seq (.seq (.reg 13) (.cond (.tmp 91) (.seq (.reg 14) .ret) .skip)) (.reg 15)))) (.reg 16))))))) (.seq (.reg 17) (.seq (.reg 18) (.seq (.reg 19) (.seq (.seq (.reg 20) (.block 2 (.seq (.reg 21) (.cond (.tmp 106) (.seq (.reg 22) .ret) (.seq (.reg 23) (.cond (.tmp 116) (.seq (.reg 24) .ret) (.seq (.reg 25) (.cond (.tmp 141) (.seq (.reg 26) .ret) (.seq (.reg 27) (.cond (.tmp 158) (.seq (.reg 28) .ret) (.seq (.reg 29) (.cond (.tmp 174) (.seq (.reg 30) .ret) (.seq (.reg 31) (.cond (.tmp 190) (.seq (.reg 32) .ret) (.seq (.reg 33) (.cond (.tmp 204) (.seq (.reg 34) .ret) (.seq (.reg 35) (.cond (.tmp 218) (.seq (.reg 36) .ret) .skip)))))))))))))))))) (.seq (.reg 37) .ret))))))))))))))
def S_prove_right_C1 (a0 : AV) (Q : AV → AH → Prop) (H : AH) (v7 : AV) (v8 : AV) : AH → Prop :=
  Vw fun V =>
  Pu Try.prog (.addOff 4) [v7] fun v28 =>
  Rd Try.prog V (.ld 1 false) [v28] fun v29 =>
  Pu Try.prog .len [v29] fun v30 =>
  Pu Try.prog (.bin .eql 3) [v30, (.p (.int .i64 1))] fun v31 =>
  GdV v31 true (fun k => Pu Try.prog (.addOff 4) [v7] (fun a => k a V)) V fun v33 V_21 =>
  GdV v31 true (fun k_23 => Rd Try.prog V_21 (.ld 1 false) [v33] (fun a => k_23 a V_21)) V_21 fun v34 V_24 =>
  GdV v31 true (fun k_26 => Pu Try.prog (.idx 1) [v34, (.p (.int .i64 0))] (fun a => k_26 a V_24)) V_24 fun v35 V_27 =>
  GdV v31 true (fun k_29 => Rd Try.prog V_27 (.ld 1 false) [v35] (fun a => k_29 a V_27)) V_27 fun v36 V_30 =>
  GdV v31 true (fun k_32 => Pu Try.prog (.bin .geq 3) [v36, (.p (.int .i64 0))] (fun a => k_32 a V_30)) V_30 fun v37 V_33 =>
  Pu Try.prog .pick [v31, v37, (.p (.bool false))] fun v38 =>
  GdV v38 true (fun k_36 => Pu Try.prog (.addOff 4) [v7] (fun a => k_36 a V_33)) V_33 fun v40 V_37 =>
  GdV v38 true (fun k_39 => Rd Try.prog V_37 (.ld 1 false) [v40] (fun a => k_39 a V_37)) V_37 fun v41 V_40 =>
  GdV v38 true (fun k_42 => Pu Try.prog (.idx 1) [v41, (.p (.int .i64 0))] (fun a => k_42 a V_40)) V_40 fun v42 V_43 =>
  GdV v38 true (fun k_45 => Rd Try.prog V_43 (.ld 1 false) [v42] (fun a => k_45 a V_43)) V_43 fun v43 V_46 =>
  GdV v38 true (fun k_48 => k_48 a0 V_46) V_46 fun v44 V_49 =>
  GdV v38 true (fun k_51 => Pu Try.prog .len [v44] (fun a => k_51 a V_49)) V_49 fun v45 V_52 =>
  GdV v38 true (fun k_54 => Pu Try.prog (.bin .lss 3) [v43, v45] (fun a => k_54 a V_52)) V_52 fun v46 V_55 =>
  Pu Try.prog .pick [v38, v46, (.p (.bool false))] fun v47 =>
  GdV v47 true (fun k_58 => k_58 a0 V_55) V_55 fun v49 V_59 =>
  GdV v47 true (fun k_61 => Pu Try.prog (.addOff 4) [v7] (fun a => k_61 a V_59)) V_59 fun v50 V_62 =>
  GdV v47 true (fun k_64 => Rd Try.prog V_62 (.ld 1 false) [v50] (fun a => k_64 a V_62)) V_62 fun v51 V_65 =>
  GdV v47 true (fun k_67 => Pu Try.prog (.idx 1) [v51, (.p (.int .i64 0))] (fun a => k_67 a V_65)) V_65 fun v52 V_68 =>
  GdV v47 true (fun k_70 => Rd Try.prog V_68 (.ld 1 false) [v52] (fun a => k_70 a V_68)) V_68 fun v53 V_71 =>
  GdV v47 true (fun k_73 => Pu Try.prog (.idx 3) [v49, v53] (fun a => k_73 a V_71)) V_71 fun v54 V_74 =>
  GdV v47 true (fun k_76 => Rd Try.prog V_74 (.ld 3 true) [v54] (fun a => k_76 a V_74)) V_74 fun v55 V_77 =>
  GdV v47 true (fun k_79 => Rd Try.prog V_77 (.ld 3 true) [v8] (fun a => k_79 a V_77)) V_77 fun v56 V_80 =>
  GdV v47 true (fun k_82 => Pu Try.prog (.bin .eql 24) [v55, v56] (fun a => k_82 a V_80)) V_80 fun v57 _ =>
  Pu Try.prog .pick [v47, v57, (.p (.bool false))] fun v58 =>
  Rt Try.prog H.nx v58 Q
def S_prove_right_C2 (Q : AV → AH → Prop) (H : AH) (v8 : AV) (v15 : AV) (v16 : AV) : AH → Prop :=
  Vw fun V_160 =>
  Rd Try.prog V_160 (.ld 3 true) [v15] fun v118 =>
  Pu Try.prog (.addOff 1) [v8] fun v120 =>
  Rd Try.prog V_160 (.ld 1 false) [v120] fun v121 =>
  Pu Try.prog (.addOff 2) [v15] fun v122 =>
  Rd Try.prog V_160 (.ld 1 false) [v122] fun v123 =>
  CaV Try.prog V_160 (.fn (.func 41) [] []) [v121, v123] fun v124 =>
  Pu Try.prog (.bin .eql 24) [v118, v124] fun v125 =>
  GdV v125 true (fun k_169 => Rd Try.prog V_160 (.ld 3 true) [v16] (fun a => k_169 a V_160)) V_160 fun v127 V_170 =>
  GdV v125 true (fun k_172 => k_172 (.fn (.func 41) [] []) V_170) V_170 fun v128 V_173 =>
  GdV v125 true (fun k_175 => Pu Try.prog (.addOff 2) [v15] (fun a => k_175 a V_173)) V_173 fun v129 V_176 =>
  GdV v125 true (fun k_178 => Rd Try.prog V_176 (.ld 1 false) [v129] (fun a => k_178 a V_176)) V_176 fun v130 V_179 =>
  GdV v125 true (fun k_181 => Pu Try.prog (.addOff 2) [v8] (fun a => k_181 a V_179)) V_179 fun v131 V_182 =>
  GdV v125 true (fun k_184 => Rd Try.prog V_182 (.ld 1 false) [v131] (fun a => k_184 a V_182)) V_182 fun v132 V_185 =>
  GdV v125 true (fun k_187 => CaV Try.prog V_185 v128 [v130, v132] (fun a => k_187 a V_185)) V_185 fun v133 V_188 =>
  GdV v125 true (fun k_190 => Pu Try.prog (.bin .eql 24) [v127, v133] (fun a => k_190 a V_188)) V_188 fun v134 V_191 =>
  Pu Try.prog .pick [v125, v134, (.p (.bool false))] fun v135 =>
  GdV v135 true (fun k_194 => Pu Try.prog (.addOff 0) [v8] (fun a => k_194 a V_191)) V_191 fun v137 V_195 =>
  GdV v135 true (fun k_197 => Rd Try.prog V_195 (.ld 1 false) [v137] (fun a => k_197 a V_195)) V_195 fun v138 V_198 =>
  GdV v135 true (fun k_200 => Pu Try.prog (.un .not) [v138] (fun a => k_200 a V_198)) V_198 fun v139 _ =>
  Pu Try.prog .pick [v135, v139, (.p (.bool false))] fun v140 =>
  Rt Try.prog H.nx v140 Q
def S_prove_right_C3 (Q : AV → AH → Prop) (H : AH) (v8 : AV) (v15 : AV) : AH → Prop :=
  Vw fun V_204 =>
  Pu Try.prog (.addOff 0) [v15] fun v143 =>
  Rd Try.prog V_204 (.ld 1 false) [v143] fun v144 =>
  Pu Try.prog (.un .not) [v144] fun v145 =>
  GdV v145 true (fun k_209 => Rd Try.prog V_204 (.ld 3 true) [v8] (fun a => k_209 a V_204)) V_204 fun v147 V_210 =>
  GdV v145 true (fun k_212 => k_212 (.fn (.func 41) [] []) V_210) V_210 fun v148 V_213 =>
  GdV v145 true (fun k_215 => Pu Try.prog (.addOff 2) [v15] (fun a => k_215 a V_213)) V_213 fun v149 V_216 =>
  GdV v145 true (fun k_218 => Rd Try.prog V_216 (.ld 1 false) [v149] (fun a => k_218 a V_216)) V_216 fun v150 V_219 =>
  GdV v145 true (fun k_221 => Pu Try.prog (.un .neg) [v150] (fun a => k_221 a V_219)) V_219 fun v151 V_222 =>
  GdV v145 true (fun k_224 => Pu Try.prog (.addOff 1) [v15] (fun a => k_224 a V_222)) V_222 fun v152 V_225 =>
  GdV v145 true (fun k_227 => Rd Try.prog V_225 (.ld 1 false) [v152] (fun a => k_227 a V_225)) V_225 fun v153 V_228 =>
  GdV v145 true (fun k_230 => Pu Try.prog (.un .neg) [v153] (fun a => k_230 a V_228)) V_228 fun v154 V_231 =>
  GdV v145 true (fun k_233 => CaV Try.prog V_231 v148 [v151, v154] (fun a => k_233 a V_231)) V_231 fun v155 V_234 =>
  GdV v145 true (fun k_236 => Pu Try.prog (.bin .eql 24) [v147, v155] (fun a => k_236 a V_234)) V_234 fun v156 _ =>
  Pu Try.prog .pick [v145, v156, (.p (.bool false))] fun v157 =>
  Rt Try.prog H.nx v157 Q
def S_prove_right_C4 (Q : AV → AH → Prop) (H : AH) (v8 : AV) (v15 : AV) (v16 : AV) : AH → Prop :=
  Vw fun V_338 =>
  Rd Try.prog V_338 (.ld 3 true) [v15] fun v220 =>
  Pu Try.prog (.addOff 1) [v8] fun v222 =>
  Rd Try.prog V_338 (.ld 1 false) [v222] fun v223 =>
  Pu Try.prog (.addOff 2) [v15] fun v224 =>
  Rd Try.prog V_338 (.ld 1 false) [v224] fun v225 =>
  CaV Try.prog V_338 (.fn (.func 42) [] []) [v223, v225] fun v226 =>
  Pu Try.prog (.bin .eql 24) [v220, v226] fun v227 =>
  GdV v227 true (fun k_347 => Rd Try.prog V_338 (.ld 3 true) [v16] (fun a => k_347 a V_338)) V_338 fun v229 V_348 =>
  GdV v227 true (fun k_350 => k_350 (.fn (.func 41) [] []) V_348) V_348 fun v230 V_351 =>
  GdV v227 true (fun k_353 => Pu Try.prog (.addOff 2) [v15] (fun a => k_353 a V_351)) V_351 fun v231 V_354 =>
  GdV v227 true (fun k_356 => Rd Try.prog V_354 (.ld 1 false) [v231] (fun a => k_356 a V_354)) V_354 fun v232 V_357 =>
  GdV v227 true (fun k_359 => Pu Try.prog (.addOff 2) [v8] (fun a => k_359 a V_357)) V_357 fun v233 V_360 =>
  GdV v227 true (fun k_362 => Rd Try.prog V_360 (.ld 1 false) [v233] (fun a => k_362 a V_360)) V_360 fun v234 V_363 =>
  GdV v227 true (fun k_365 => CaV Try.prog V_363 v230 [v232, v234] (fun a => k_365 a V_363)) V_363 fun v235 V_366 =>
  GdV v227 true (fun k_368 => Pu Try.prog (.bin .eql 24) [v229, v235] (fun a => k_368 a V_366)) V_366 fun v236 V_369 =>
  Pu Try.prog .pick [v227, v236, (.p (.bool false))] fun v237 =>
  GdV v237 true (fun k_372 => Pu Try.prog (.addOff 0) [v8] (fun a => k_372 a V_369)) V_369 fun v239 V_373 =>
  GdV v237 true (fun k_375 => Rd Try.prog V_373 (.ld 1 false) [v239] (fun a => k_375 a V_373)) V_373 fun v240 _ =>
  Pu Try.prog .pick [v237, v240, (.p (.bool false))] fun v241 =>
  Rt Try.prog H.nx v241 Q
def S_prove_right_C5 (Q : AV → AH → Prop) (H : AH) (v15 : AV) (v16 : AV) : AH → Prop :=
  Vw fun V_378 =>
  Pu Try.prog (.addOff 0) [v15] fun v242 =>
  Rd Try.prog V_378 (.ld 1 false) [v242] fun v243 =>
  Pu Try.prog (.un .not) [v243] fun v244 =>
  GdV v244 true (fun k_383 => Rd Try.prog V_378 (.ld 3 true) [v16] (fun a => k_383 a V_378)) V_378 fun v246 V_384 =>
  GdV v244 true (fun k_386 => k_386 (.fn (.func 42) [] []) V_384) V_384 fun v247 V_387 =>
  GdV v244 true (fun k_389 => Pu Try.prog (.addOff 1) [v15] (fun a => k_389 a V_387)) V_387 fun v248 V_390 =>
  GdV v244 true (fun k_392 => Rd Try.prog V_390 (.ld 1 false) [v248] (fun a => k_392 a V_390)) V_390 fun v249 V_393 =>
  GdV v244 true (fun k_395 => Pu Try.prog (.addOff 2) [v15] (fun a => k_395 a V_393)) V_393 fun v250 V_396 =>
  GdV v244 true (fun k_398 => Rd Try.prog V_396 (.ld 1 false) [v250] (fun a => k_398 a V_396)) V_396 fun v251 V_399 =>
  GdV v244 true (fun k_401 => Pu Try.prog (.un .neg) [v251] (fun a => k_401 a V_399)) V_399 fun v252 V_402 =>
  GdV v244 true (fun k_404 => CaV Try.prog V_402 v247 [v249, v252] (fun a => k_404 a V_402)) V_402 fun v253 V_405 =>
  GdV v244 true (fun k_407 => Pu Try.prog (.bin .eql 24) [v246, v253] (fun a => k_407 a V_405)) V_405 fun v254 _ =>
  Pu Try.prog .pick [v244, v254, (.p (.bool false))] fun v255 =>
  Rt Try.prog H.nx v255 Q
def S_prove_right_C6 (Q : AV → AH → Prop) (H : AH) (v8 : AV) (v15 : AV) (v16 : AV) (v105 : AV) : AH → Prop :=
  Pu Try.prog (.bin .eql 3) [v105, (.p (.int .i64 8))] fun v205 =>
  CdA v205
    (
    Vw fun V_309 =>
    Pu Try.prog (.addOff 0) [v15] fun v206 =>
    Rd Try.prog V_309 (.ld 1 false) [v206] fun v207 =>
    GdV v207 true (fun k_313 => Rd Try.prog V_309 (.ld 3 true) [v8] (fun a => k_313 a V_309)) V_309 fun v209 V_314 =>
    GdV v207 true (fun k_316 => k_316 (.fn (.func 42) [] []) V_314) V_314 fun v210 V_317 =>
    GdV v207 true (fun k_319 => Pu Try.prog (.addOff 1) [v15] (fun a => k_319 a V_317)) V_317 fun v211 V_320 =>
    GdV v207 true (fun k_322 => Rd Try.prog V_320 (.ld 1 false) [v211] (fun a => k_322 a V_320)) V_320 fun v212 V_323 =>
    GdV v207 true (fun k_325 => Pu Try.prog (.addOff 1) [v15] (fun a => k_325 a V_323)) V_323 fun v213 V_326 =>
    GdV v207 true (fun k_328 => Rd Try.prog V_326 (.ld 1 false) [v213] (fun a => k_328 a V_326)) V_326 fun v214 V_329 =>
    GdV v207 true (fun k_331 => CaV Try.prog V_329 v210 [v212, v214] (fun a => k_331 a V_329)) V_329 fun v215 V_332 =>
    GdV v207 true (fun k_334 => Pu Try.prog (.bin .eql 24) [v209, v215] (fun a => k_334 a V_332)) V_332 fun v216 _ =>
    Pu Try.prog .pick [v207, v216, (.p (.bool false))] fun v217 =>
    Rt Try.prog H.nx v217 Q
    ) (
    Pu Try.prog (.bin .eql 3) [v105, (.p (.int .i64 9))] fun v219 =>
    CdA v219
      (S_prove_right_C4 Q H v8 v15 v16) (S_prove_right_C5 Q H v15 v16)
    )
def S_prove_right_C7 (Q : AV → AH → Prop) (H : AH) (v8 : AV) (v15 : AV) (v16 : AV) (v105 : AV) : AH → Prop :=
  Pu Try.prog (.bin .eql 3) [v105, (.p (.int .i64 7))] fun v191 =>
  CdA v191
    (
    Vw fun V_280 =>
    Pu Try.prog (.addOff 0) [v15] fun v192 =>
    Rd Try.prog V_280 (.ld 1 false) [v192] fun v193 =>
    GdV v193 true (fun k_284 => Rd Try.prog V_280 (.ld 3 true) [v8] (fun a => k_284 a V_280)) V_280 fun v195 V_285 =>
    GdV v193 true (fun k_287 => k_287 (.fn (.func 42) [] []) V_285) V_285 fun v196 V_288 =>
    GdV v193 true (fun k_290 => Pu Try.prog (.addOff 2) [v15] (fun a => k_290 a V_288)) V_288 fun v197 V_291 =>
    GdV v193 true (fun k_293 => Rd Try.prog V_291 (.ld 1 false) [v197] (fun a => k_293 a V_291)) V_291 fun v198 V_294 =>
    GdV v193 true (fun k_296 => Pu Try.prog (.addOff 1) [v15] (fun a => k_296 a V_294)) V_294 fun v199 V_297 =>
    GdV v193 true (fun k_299 => Rd Try.prog V_297 (.ld 1 false) [v199] (fun a => k_299 a V_297)) V_297 fun v200 V_300 =>
    GdV v193 true (fun k_302 => CaV Try.prog V_300 v196 [v198, v200] (fun a => k_302 a V_300)) V_300 fun v201 V_303 =>
    GdV v193 true (fun k_305 => Pu Try.prog (.bin .eql 24) [v195, v201] (fun a => k_305 a V_303)) V_303 fun v202 _ =>
    Pu Try.prog .pick [v193, v202, (.p (.bool false))] fun v203 =>
    Rt Try.prog H.nx v203 Q
    ) (S_prove_right_C6 Q H v8 v15 v16 v105)
def S_prove_right_C8 (Q : AV → AH → Prop) (H : AH) (v8 : AV) (v15 : AV) (v16 : AV) (v105 : AV) : AH → Prop :=
  Pu Try.prog (.bin .eql 3) [v105, (.p (.int .i64 5))] fun v159 =>
  CdA v159
    (
    Vw fun V_240 =>
    Rd Try.prog V_240 (.ld 3 true) [v15] fun v160 =>
    Pu Try.prog (.addOff 1) [v8] fun v162 =>
    Rd Try.prog V_240 (.ld 1 false) [v162] fun v163 =>
    Pu Try.prog (.addOff 1) [v8] fun v164 =>
    Rd Try.prog V_240 (.ld 1 false) [v164] fun v165 =>
    Pu Try.prog (.un .neg) [v165] fun v166 =>
    CaV Try.prog V_240 (.fn (.func 41) [] []) [v163, v166] fun v167 =>
    Pu Try.prog (.bin .eql 24) [v160, v167] fun v168 =>
    GdV v168 true (fun k_250 => Pu Try.prog (.addOff 0) [v8] (fun a => k_250 a V_240)) V_240 fun v170 V_251 =>
    GdV v168 true (fun k_253 => Rd Try.prog V_251 (.ld 1 false) [v170] (fun a => k_253 a V_251)) V_251 fun v171 V_254 =>
    GdV v168 true (fun k_256 => Pu Try.prog (.un .not) [v171] (fun a => k_256 a V_254)) V_254 fun v172 _ =>
    Pu Try.prog .pick [v168, v172, (.p (.bool false))] fun v173 =>
    Rt Try.prog H.nx v173 Q
    ) (
    Pu Try.prog (.bin .eql 3) [v105, (.p (.int .i64 6))] fun v175 =>
    CdA v175
      (
      Vw fun V_260 =>
      Rd Try.prog V_260 (.ld 3 true) [v15] fun v176 =>
      Pu Try.prog (.addOff 2) [v8] fun v178 =>
      Rd Try.prog V_260 (.ld 1 false) [v178] fun v179 =>
      Pu Try.prog (.un .neg) [v179] fun v180 =>
      Pu Try.prog (.addOff 2) [v8] fun v181 =>
      Rd Try.prog V_260 (.ld 1 false) [v181] fun v182 =>
      CaV Try.prog V_260 (.fn (.func 41) [] []) [v180, v182] fun v183 =>
      Pu Try.prog (.bin .eql 24) [v176, v183] fun v184 =>
      GdV v184 true (fun k_270 => Pu Try.prog (.addOff 0) [v8] (fun a => k_270 a V_260)) V_260 fun v186 V_271 =>
      GdV v184 true (fun k_273 => Rd Try.prog V_271 (.ld 1 false) [v186] (fun a => k_273 a V_271)) V_271 fun v187 V_274 =>
      GdV v184 true (fun k_276 => Pu Try.prog (.un .not) [v187] (fun a => k_276 a V_274)) V_274 fun v188 _ =>
      Pu Try.prog .pick [v184, v188, (.p (.bool false))] fun v189 =>
      Rt Try.prog H.nx v189 Q
      ) (S_prove_right_C7 Q H v8 v15 v16 v105)
    )
def S_prove_right_C9 (Q : AV → AH → Prop) (H : AH) (v7 : AV) (v8 : AV) (v12 : AV) : AH → Prop :=
  Rg 8 fun b_138 =>
  Vw fun V_139 =>
  Pu Try.prog (.aidx 2 3) [v12, (.p (.int .i64 0))] fun v100 =>
  Rd Try.prog V_139 (.ld 3 true) [v100] fun v101 =>
  Pu Try.prog (.aidx 2 3) [v12, (.p (.int .i64 1))] fun v102 =>
  Rd Try.prog V_139 (.ld 3 true) [v102] fun v103 =>
  Al (b_138 + 4) (.nw 24 [.p (.bool false), .p (.int .i64 0), .p (.int .i64 0)]) [] fun v15 =>
  Al (b_138 + 5) (.nw 24 [.p (.bool false), .p (.int .i64 0), .p (.int .i64 0)]) [] fun v16 =>
  WrF V_139 (some (b_138 + 4)) none (b_138 + 6) (.st 3) [v15, v101] fun _ =>
  WrF V_139 (some (b_138 + 5)) none (b_138 + 7) (.st 3) [v16, v103] fun _ =>
  Pu Try.prog (.addOff 0) [v7] fun v104 =>
  RdS Try.prog (.ld 1 false) [v104] fun v105 =>
  Pu Try.prog (.bin .eql 3) [v105, (.p (.int .i64 2))] fun v107 =>
  CdA v107
    (
    Vw fun V_151 =>
    Rd Try.prog V_151 (.ld 3 true) [v8] fun v108 =>
    Pu Try.prog (.addOff 1) [v8] fun v110 =>
    Rd Try.prog V_151 (.ld 1 false) [v110] fun v111 =>
    Pu Try.prog (.addOff 1) [v8] fun v112 =>
    Rd Try.prog V_151 (.ld 1 false) [v112] fun v113 =>
    CaV Try.prog V_151 (.fn (.func 41) [] []) [v111, v113] fun v114 =>
    Pu Try.prog (.bin .eql 24) [v108, v114] fun v115 =>
    Rt Try.prog H.nx v115 Q
    ) (
    Pu Try.prog (.bin .eql 3) [v105, (.p (.int .i64 3))] fun v117 =>
    CdA v117
      (S_prove_right_C2 Q H v8 v15 v16) (
      Pu Try.prog (.bin .eql 3) [v105, (.p (.int .i64 4))] fun v142 =>
      CdA v142
        (S_prove_right_C3 Q H v8 v15) (S_prove_right_C8 Q H v8 v15 v16 v105)
      )
    )
def S_prove_right_L10 (a1 : AV) (a2 : AV) (Q : AV → AH → Prop) (H : AH) (v7 : AV) (v8 : AV) (v12 : AV) (v78 : AV) (v79 : AV) (vs : List AV) (k_118 : List AV → AH → Prop) : AH → Prop :=
  Pu Try.prog (.bin .lss 3) [(vs.getD 0 .any), v79] fun v81 =>
  CdA v81
    (
    Pu Try.prog (.idx 1) [v78, (vs.getD 0 .any)] fun v83 =>
    RdS Try.prog (.ld 1 false) [v83] fun v84 =>
    Pu Try.prog (.bin .lss 3) [v84, (.p (.int .i64 0))] fun v86 =>
    Gd v86 false (fun k_125 => k_125 v84) fun v88 =>
    Gd v86 false (fun k_127 => k_127 a2) fun v89 =>
    Gd v86 false (fun k_129 => Pu Try.prog (.bin .geq 3) [v88, v89] k_129) fun v90 =>
    Pu Try.prog .pick [v86, (.p (.bool true)), v90] fun v91 =>
    CdA v91
      (
      Rt Try.prog H.nx (.p (.bool false)) Q
      ) (
      Rg 8 fun b_131 =>
      Pu Try.prog (.idx 5) [a1, v84] fun v95 =>
      Pu Try.prog (.addOff 1) [v95] fun v96 =>
      RdS Try.prog (.ld 3 true) [v96] fun v97 =>
      Pu Try.prog (.aidx 2 3) [v12, (vs.getD 0 .any)] fun v98 =>
      WrS Try.prog (b_131 + 7) (.st 3) [v98, v97] fun _ =>
      Pu Try.prog (.bin .add 3) [(vs.getD 0 .any), (.p (.int .i64 1))] fun v99 =>
      k_118 [v99]
      )
    ) (S_prove_right_C9 Q H v7 v8 v12)
def S_prove_right_C11 (a1 : AV) (a2 : AV) (Q : AV → AH → Prop) (H : AH) (v7 : AV) (v8 : AV) : AH → Prop :=
  Rg 12 fun b_85 =>
  Al (b_85 + 0) (.mm 3) [] fun v59 =>
  WrS Try.prog (b_85 + 1) (.mset 3) [v59, (.p (.int .i64 2)), (.p (.int .i64 0))] fun _ =>
  WrS Try.prog (b_85 + 2) (.mset 3) [v59, (.p (.int .i64 3)), (.p (.int .i64 2))] fun _ =>
  WrS Try.prog (b_85 + 3) (.mset 3) [v59, (.p (.int .i64 4)), (.p (.int .i64 1))] fun _ =>
  WrS Try.prog (b_85 + 4) (.mset 3) [v59, (.p (.int .i64 5)), (.p (.int .i64 1))] fun _ =>
  WrS Try.prog (b_85 + 5) (.mset 3) [v59, (.p (.int .i64 6)), (.p (.int .i64 1))] fun _ =>
  WrS Try.prog (b_85 + 6) (.mset 3) [v59, (.p (.int .i64 7)), (.p (.int .i64 1))] fun _ =>
  WrS Try.prog (b_85 + 7) (.mset 3) [v59, (.p (.int .i64 8)), (.p (.int .i64 1))] fun _ =>
  WrS Try.prog (b_85 + 8) (.mset 3) [v59, (.p (.int .i64 9)), (.p (.int .i64 2))] fun _ =>
  WrS Try.prog (b_85 + 9) (.mset 3) [v59, (.p (.int .i64 10)), (.p (.int .i64 2))] fun _ =>
  Pu Try.prog (.addOff 0) [v7] fun v63 =>
  RdS Try.prog (.ld 1 false) [v63] fun v64 =>
  RdS Try.prog (.look 3 (.p (.int .i64 0)) true) [v59, v64] fun v65 =>
  Pu Try.prog (.ext 0) [v65] fun v66 =>
  Pu Try.prog (.ext 1) [v65] fun v67 =>
  Pu Try.prog (.un .not) [v67] fun v69 =>
  Gd v69 false (fun k_103 => Pu Try.prog (.addOff 4) [v7] k_103) fun v71 =>
  Gd v69 false (fun k_105 => RdS Try.prog (.ld 1 false) [v71] k_105) fun v72 =>
  Gd v69 false (fun k_107 => Pu Try.prog .len [v72] k_107) fun v73 =>
  Gd v69 false (fun k_109 => k_109 v66) fun v74 =>
  Gd v69 false (fun k_111 => Pu Try.prog (.bin .neq 3) [v73, v74] k_111) fun v75 =>
  Pu Try.prog .pick [v69, (.p (.bool true)), v75] fun v76 =>
  CdA v76
    (
    Rt Try.prog H.nx (.p (.bool false)) Q
    ) (
    Rg 1 fun b_113 =>
    Al (b_113 + 0) (.nw 66 [.p (.bool false), .p (.int .i64 0), .p (.int .i64 0), .p (.bool false), .p (.int .i64 0), .p (.int .i64 0)]) [] fun v12 =>
    Pu Try.prog (.addOff 4) [v7] fun v77 =>
    RdS Try.prog (.ld 1 false) [v77] fun v78 =>
    Pu Try.prog .len [v78] fun v79 =>
    LoopA Try.prog 1 (S_prove_right_L10 a1 a2 Q H v7 v8 v12 v78 v79) [(.p (.int .i64 0))]
    )
def S_prove_right (a0 a1 a2 : AV) (Q : AV → AH → Prop) (H : AH) : Prop := (
    Rg 6 fun b =>
    Pu Try.prog (.idx 5) [a1, a2] fun v21 =>
    RdS Try.prog (.ld 5 true) [v21] fun v22 =>
    Al (b + 4) (.nw 36 [.p (.int .i64 0), .p (.bool false), .p (.int .i64 0), .p (.int .i64 0), .p (.slice none 0 0)]) [] fun v7 =>
    WrS Try.prog (b + 5) (.st 5) [v7, v22] fun _ =>
    Rg 4 fun b_6 =>
    Pu Try.prog (.addOff 1) [v7] fun v23 =>
    RdS Try.prog (.ld 3 true) [v23] fun v24 =>
    Al (b_6 + 2) (.nw 24 [.p (.bool false), .p (.int .i64 0), .p (.int .i64 0)]) [] fun v8 =>
    WrS Try.prog (b_6 + 3) (.st 3) [v8, v24] fun _ =>
    Pu Try.prog (.addOff 0) [v7] fun v25 =>
    RdS Try.prog (.ld 1 false) [v25] fun v26 =>
    Pu Try.prog (.bin .eql 3) [v26, (.p (.int .i64 1))] fun v27 =>
    CdA v27
      (S_prove_right_C1 a0 Q H v7 v8) (S_prove_right_C11 a1 a2 Q H v7 v8)
    ) H
theorem eq_prove_right (a0 a1 a2 : AV) (Q : AV → AH → Prop) (H : AH) : FnA Try.prog 256 (regsF Try.f25) ac_prove_right [.tm 6] [a0, a1, a2] H Q = S_prove_right a0 a1 a2 Q H := by kernel_rfl
theorem tri_prove_right {a0 a1 a2 : AV} {H : AH} {Q : AV → AH → Prop} (h : S_prove_right a0 a1 a2 Q H) : Tri Try.prog 25 [a0, a1, a2] H Q :=
  tri_of (Ms := [#[], #[], #[], #[], #[0, 1, 3, 7, 15, 31, 63, 127, 255, 511, 1023, 2047, 4095, 8191, 16383, 32767, 4095, 69631, 262143, 524287, 1048575, 2097151, 2097151, 6291455, 14680063, 31457279, 67108863, 134217727, 2097151, 536870911, 1073741823, 2147483647], #[], #[], #[], #[], #[], #[], #[], #[], #[], #[], #[], #[], #[0, 1, 0, 4, 0, 0, 51, 127], #[], #[], #[], #[], #[0, 0, 0, 4, 0, 16, 62, 127, 255], #[], #[0, 0, 0, 4, 0, 16, 62, 127, 255, 511, 511, 511, 2559, 511, 8703, 32255, 65535, 131071, 262143, 524287, 1048575, 2097151, 4194303, 8388607], #[], #[0, 1, 3, 7, 15, 15, 15, 79, 207, 15, 527, 1551, 4079, 8191, 16383, 32767], #[], #[0, 0, 0, 4, 0, 16, 48, 126, 255, 511, 1023, 2047, 4095, 8191, 16383], #[], #[0, 0, 0, 4, 12, 0, 32, 126, 255, 511, 1023, 2047, 4095, 8191, 16383], #[], #[0, 1, 3, 7, 7, 7, 39, 7, 135, 503, 1023, 2047, 4095], #[], #[0, 1, 3, 7, 7, 7, 39, 7, 135, 503, 1023, 2047, 4095], #[], #[0, 0, 0, 4, 0, 16, 62, 127, 255, 511, 511, 511, 2559, 511, 8703, 32255, 65535, 131071, 262143, 524287, 1048575, 2097151, 4194303], #[0, 1, 3, 7, 15, 15, 15, 79, 15, 271, 783, 2031, 4095, 8191, 16383]]) mixed Try.func25 rfl (by kernel_rfl) (by kernel_rfl) rfl (of_decide_eq_true rfl : 3 ≤ 256) ((eq_prove_right a0 a1 a2 Q H).symm ▸ h : FnA Try.prog 256 (regsF Try.f25) ac_prove_right [.tm 6] [a0, a1, a2] H Q)

/-! wordhoard/prove.right$1 -/
def ac_prove_right_fn1 : AC := (.seq (.reg 0) (.seq (.reg 1) .ret))
def S_prove_right_fn1 (a0 a1 : AV) (Q : AV → AH → Prop) (H : AH) : Prop := (
    Rg 1 fun b =>
    Al (b + 0) (.nw 24 [.p (.bool false), .p (.int .i64 0), .p (.int .i64 0)]) [] fun v4 =>
    Rg 4 fun b_3 =>
    Pu Try.prog (.bld [.p (.bool false), .p (.int .i64 0), .p (.int .i64 0)] [(1, 1), (2, 1)]) [a0, a1] fun v7 =>
    WrS Try.prog (b_3 + 3) (.st 3) [v4, v7] fun _ =>
    RdS Try.prog (.ld 3 true) [v4] fun r4 =>
    Rt Try.prog H.nx r4 Q
    ) H
theorem eq_prove_right_fn1 (a0 a1 : AV) (Q : AV → AH → Prop) (H : AH) : FnA Try.prog 8 (regsF Try.f41) ac_prove_right_fn1 [.ce 4 24] [a0, a1] H Q = S_prove_right_fn1 a0 a1 Q H := by kernel_rfl
theorem tri_prove_right_fn1 {a0 a1 : AV} {H : AH} {Q : AV → AH → Prop} (h : S_prove_right_fn1 a0 a1 Q H) : Tri Try.prog 41 [a0, a1] H Q :=
  tri_of (Ms := [#[], #[]]) mixed Try.func41 rfl (by kernel_rfl) (by kernel_rfl) rfl (of_decide_eq_true rfl : 2 ≤ 8) ((eq_prove_right_fn1 a0 a1 Q H).symm ▸ h : FnA Try.prog 8 (regsF Try.f41) ac_prove_right_fn1 [.ce 4 24] [a0, a1] H Q)

/-! wordhoard/prove.right$2 -/
def ac_prove_right_fn2 : AC := (.seq (.reg 0) (.seq (.reg 1) .ret))
def S_prove_right_fn2 (a0 a1 : AV) (Q : AV → AH → Prop) (H : AH) : Prop := (
    Rg 1 fun b =>
    Al (b + 0) (.nw 24 [.p (.bool false), .p (.int .i64 0), .p (.int .i64 0)]) [] fun v4 =>
    Rg 4 fun b_3 =>
    Pu Try.prog (.bld [.p (.bool false), .p (.int .i64 0), .p (.int .i64 0)] [(0, 1), (1, 1), (2, 1)]) [(.p (.bool true)), a0, a1] fun v7 =>
    WrS Try.prog (b_3 + 3) (.st 3) [v4, v7] fun _ =>
    RdS Try.prog (.ld 3 true) [v4] fun r4 =>
    Rt Try.prog H.nx r4 Q
    ) H
theorem eq_prove_right_fn2 (a0 a1 : AV) (Q : AV → AH → Prop) (H : AH) : FnA Try.prog 8 (regsF Try.f42) ac_prove_right_fn2 [.ce 4 24] [a0, a1] H Q = S_prove_right_fn2 a0 a1 Q H := by kernel_rfl
theorem tri_prove_right_fn2 {a0 a1 : AV} {H : AH} {Q : AV → AH → Prop} (h : S_prove_right_fn2 a0 a1 Q H) : Tri Try.prog 42 [a0, a1] H Q :=
  tri_of (Ms := [#[], #[]]) mixed Try.func42 rfl (by kernel_rfl) (by kernel_rfl) rfl (of_decide_eq_true rfl : 2 ≤ 8) ((eq_prove_right_fn2 a0 a1 Q H).symm ▸ h : FnA Try.prog 8 (regsF Try.f42) ac_prove_right_fn2 [.ce 4 24] [a0, a1] H Q)

/-! wordhoard/prove.Sound -/
def ac_prove_Sound : AC := (.seq (.reg 0) (.seq (.seq (.reg 1) (.cond (.tmp 13) (.seq (.reg 2) .ret) .skip)) (.seq (.reg 3) (.seq (.seq (.reg 4) (.block 0 (.loop [6, 16] [(8, 9), (17, 26)] (.seq (.reg 5) (.seq (.cond (.tmp 17) .skip (.exit 0)) (.seq (.block 1 (.seq (.reg 6) (.reg 7))) (.reg 8))))))) (.seq (.seq (.reg 9) (.seq (.reg 10) (.cond (.tmp 30) (.seq (.reg 11) .ret) .skip))) (.seq (.seq (.reg 12) (.block 2 (.loop [34] [(4, 6), (10, 11), (35, 43)] (.seq (.reg 13) (.seq (.cond (.tmp 35) .skip (.exit 2)) (.seq (.block 3 (.seq (.reg 14) (.seq (.reg 15) (.cond (.tmp 41) (.seq (.reg 16) .ret) .skip)))) (.reg 17))))))) (.seq (.reg 18) .ret)))))))
def S_prove_Sound_L1 (a0 : AV) (a1 : AV) (Q : AV → AH → Prop) (H : AH) (v33 : AV) (vs_22 : List AV) (k_21 : List AV → AH → Prop) : AH → Prop :=
  Pu Try.prog (.bin .lss 3) [(vs_22.getD 0 .any), v33] fun v35 =>
  CdA v35
    (
    Ca Try.prog (.fn (.func 25) [] []) [a0, a1, (vs_22.getD 0 .any)] fun v40 =>
    Pu Try.prog (.un .not) [v40] fun v41 =>
    CdA v41
      (
      Rt Try.prog H.nx (.tup [(.p (.bool false)), (.p (.int .i64 0))]) Q
      ) (
      Pu Try.prog (.bin .add 3) [(vs_22.getD 0 .any), (.p (.int .i64 1))] fun v42 =>
      k_21 [v42]
      )
    ) (
    Rt Try.prog H.nx (.tup [(.p (.bool true)), (.p (.int .i64 0))]) Q
    )
def S_prove_Sound_L2 (a0 : AV) (a1 : AV) (Q : AV → AH → Prop) (H : AH) (v15 : AV) (vs : List AV) (k : List AV → AH → Prop) : AH → Prop :=
  Pu Try.prog (.bin .lss 3) [(vs.getD 1 .any), v15] fun v17 =>
  CdA v17
    (
    Rg 4 fun b =>
    Pu Try.prog (.idx 5) [a1, (vs.getD 1 .any)] fun v18 =>
    RdS Try.prog (.ld 5 true) [v18] fun v19 =>
    Al (b + 2) (.nw 36 [.p (.int .i64 0), .p (.bool false), .p (.int .i64 0), .p (.int .i64 0), .p (.slice none 0 0)]) [] fun v8 =>
    WrS Try.prog (b + 3) (.st 5) [v8, v19] fun _ =>
    Rg 6 fun b_12 =>
    Pu Try.prog (.addOff 1) [v8] fun v21 =>
    RdS Try.prog (.ld 3 true) [v21] fun v22 =>
    Al (b_12 + 3) (.bs 24 3 1 [.p (.bool false), .p (.int .i64 0), .p (.int .i64 0)] [(0, 3)]) [v22] fun v23 =>
    WrS Try.prog (b_12 + 4) (.app 24 3 24) [(vs.getD 0 .any), v23] fun v24 =>
    Pu Try.prog (.bin .add 3) [(vs.getD 1 .any), (.p (.int .i64 1))] fun v25 =>
    k [v24, v25]
    ) (
    Ca Try.prog (.fn (.func 24) [] []) [a0, (vs.getD 0 .any)] fun v28 =>
    Pu Try.prog (.bin .neq 25) [v28, (.p (.int .i64 0))] fun v30 =>
    CdA v30
      (
      Rt Try.prog H.nx (.tup [(.p (.bool false)), v28]) Q
      ) (
      Pu Try.prog .len [a1] fun v33 =>
      LoopA Try.prog 1 (S_prove_Sound_L1 a0 a1 Q H v33) [(.p (.int .i64 0))]
      )
    )
def S_prove_Sound (a0 a1 : AV) (Q : AV → AH → Prop) (H : AH) : Prop := (
    Pu Try.prog .len [a1] fun v12 =>
    Pu Try.prog (.bin .gtr 3) [v12, (.p (.int .i64 400))] fun v13 =>
    CdA v13
      (
      Rt Try.prog H.nx (.tup [(.p (.bool false)), (.p (.int .i64 7))]) Q
      ) (
      Pu Try.prog .len [a1] fun v15 =>
      LoopA Try.prog 2 (S_prove_Sound_L2 a0 a1 Q H v15) [(.p (.slice none 0 0)), (.p (.int .i64 0))]
      )
    ) H
theorem eq_prove_Sound (a0 a1 : AV) (Q : AV → AH → Prop) (H : AH) : FnA Try.prog 43 (regsF Try.f13) ac_prove_Sound [.tm 4, .tm 5] [a0, a1] H Q = S_prove_Sound a0 a1 Q H := by kernel_rfl
theorem tri_prove_Sound {a0 a1 : AV} {H : AH} {Q : AV → AH → Prop} (h : S_prove_Sound a0 a1 Q H) : Tri Try.prog 13 [a0, a1] H Q :=
  tri_of (Ms := [#[], #[], #[], #[], #[], #[], #[], #[], #[], #[], #[], #[], #[], #[], #[], #[], #[], #[], #[]]) mixed Try.func13 rfl (by kernel_rfl) (by kernel_rfl) rfl (of_decide_eq_true rfl : 2 ≤ 43) ((eq_prove_Sound a0 a1 Q H).symm ▸ h : FnA Try.prog 43 (regsF Try.f13) ac_prove_Sound [.tm 4, .tm 5] [a0, a1] H Q)
end Go.Proofs.Ytcmnjoepadjioaa

/- The reference: is a line right. -/
namespace Go.Proofs.Ytcmnjoepadjioaa
open Go.RowKit Go.Maps
theorem pickC_snoc {l : List Clm} {n : Nat} (k : Int) : ∀ s : List Int, pickC l n (s ++ [k]) = match pickC l n s, (if 0 ≤ k ∧ k < n then l[k.toNat]? else none) with
    | some a, some b => some (a ++ [b])
    | _, _ => none
  | [] => by
    rw [List.nil_append, pickC, pickC]
    split
    · cases l[k.toNat]? <;> rfl
    · rfl
  | x :: s => by
    rw [List.cons_append, pickC, pickC, pickC_snoc k s]
    split
    · cases l[x.toNat]? with
      | none => rfl
      | some c =>
        cases pickC l n s with
        | none => rfl
        | some cs => cases (if 0 ≤ k ∧ k < (n : Int) then l[k.toNat]? else none) <;> rfl
    · rfl
theorem pickC_none {l : List Clm} {n : Nat} : ∀ (t : List Int) {s : List Int}, pickC l n s = none → pickC l n (s ++ t) = none
  | [], s, h => by rw [List.append_nil]; exact h
  | k :: t, s, h => by
    rw [show s ++ k :: t = (s ++ [k]) ++ t by simp]
    exact pickC_none t (by rw [pickC_snoc, h])
theorem pickC_len {l : List Clm} {n : Nat} : ∀ {s : List Int} {of : List Clm}, pickC l n s = some of → of.length = s.length
  | [], of, h => by simp only [pickC, Option.some.injEq] at h; subst h; rfl
  | k :: r, of, h => by
    rw [pickC] at h
    split at h
    · cases h1 : l[k.toNat]? with
      | none => rw [h1] at h; cases h
      | some c =>
        cases h2 : pickC l n r with
        | none => rw [h1, h2] at h; cases h
        | some cs => rw [h1, h2] at h; injection h with h; subst h; simp [pickC_len h2]
    · cases h
theorem pickC_next {l : List Clm} {n : Nat} {s : List Int} {i : Nat} {k : Int} {of : List Clm} {c : Clm} (h : pickC l n (s.take i) = some of) (hk : s[i]? = some k) (h0 : 0 ≤ k) (h1 : k < n) (hc : l[k.toNat]? = some c) : pickC l n (s.take (i + 1)) = some (of ++ [c]) := by
  rw [List.take_add_one, hk, Option.toList_some, pickC_snoc, h, if_pos ⟨h0, h1⟩, hc]
theorem pickC_fail {l : List Clm} {n : Nat} {s : List Int} {i : Nat} {k : Int} (hk : s[i]? = some k) (h : ¬ (0 ≤ k ∧ k < (n : Int))) : pickC l n s = none := by
  have : s = s.take (i + 1) ++ s.drop (i + 1) := (List.take_append_drop _ _).symm
  rw [this]
  refine pickC_none _ ?_
  rw [List.take_add_one, hk, Option.toList_some, pickC_snoc, if_neg h]
  cases pickC l n (s.take i) <;> rfl
def countR (r : Int) : Nat := if r = 2 then 0 else if r = 3 ∨ r = 9 ∨ r = 10 then 2 else 1
theorem ruleB_count {r : Int} {c : Clm} {of : List Clm} (h : ¬ (1 ≤ r ∧ r ≤ 10 ∧ of.length = countR r)) : ruleB r c of = false := by
  by_cases hr : 1 ≤ r ∧ r ≤ 10
  · have : r = 1 ∨ r = 2 ∨ r = 3 ∨ r = 4 ∨ r = 5 ∨ r = 6 ∨ r = 7 ∨ r = 8 ∨ r = 9 ∨ r = 10 := by omega
    have hl : of.length ≠ countR r := fun e => h ⟨hr.1, hr.2, e⟩
    match of with
    | [] => rcases this with rfl | rfl | rfl | rfl | rfl | rfl | rfl | rfl | rfl | rfl <;> first | rfl | exact absurd rfl hl
    | [p] => rcases this with rfl | rfl | rfl | rfl | rfl | rfl | rfl | rfl | rfl | rfl <;> first | rfl | exact absurd rfl hl
    | [p, q] => rcases this with rfl | rfl | rfl | rfl | rfl | rfl | rfl | rfl | rfl | rfl <;> first | rfl | exact absurd rfl hl | simp [ruleB]
    | p :: q :: s :: r => rcases this with rfl | rfl | rfl | rfl | rfl | rfl | rfl | rfl | rfl | rfl <;> first | rfl | simp [ruleB]
  · unfold ruleB
    repeat (rw [if_neg (by omega)])
theorem dt_clm (l : List Clm) : DtR (l.map Clm.cs) := dt_cs l
theorem run_eqClm (c d : Clm) (w : World) : (Op.equal 24 (cv c) (cv d)).run Try.prog w = .ok (decide (c = d)) w := by
  unfold cv
  rw [Op.equal, Op.maxDepth, show (10000 : Nat) = 9999 + 1 from rfl, run_equalIn_agg w 9999 _ _ _ (by kernel_rfl) (by kernel_rfl)]
  rw [show Try.prog.fieldsOf 24 = _ from rfl]
  simp [go_sem]
  by_cases h1 : c.so = d.so <;> by_cases h2 : c.a = d.a <;> by_cases h3 : c.b = d.b <;> simp [h1, h2, h3]
  · exact clm_ext h1 h2 h3
  · intro e; subst e; exact h3 rfl
  · intro e; subst e; exact h2 rfl
  · intro e; subst e; exact h2 rfl
  · intro e; subst e; exact h1 rfl
  · intro e; subst e; exact h1 rfl
  · intro e; subst e; exact h1 rfl
  · intro e; subst e; exact h1 rfl
theorem q_eqClm {c d : Clm} {k : AV → AH → Prop} {H : AH} (h : k (.p (.bool (decide (c = d)))) H) : Pu Try.prog (.bin .eql 24) [.agg [.p (.bool c.so), .p (.int .i64 c.a), .p (.int .i64 c.b)], .agg [.p (.bool d.so), .p (.int .i64 d.a), .p (.int .i64 d.b)]] k H :=
  q_eql_v _ _ _ _ _ _ rfl rfl (by kernel_rfl) (fun w => run_eqClm c d w) h
theorem q_neClm {c d : Clm} {k : AV → AH → Prop} {H : AH} (h : k (.p (.bool (!decide (c = d)))) H) : Pu Try.prog (.bin .neq 24) [.agg [.p (.bool c.so), .p (.int .i64 c.a), .p (.int .i64 c.b)], .agg [.p (.bool d.so), .p (.int .i64 d.a), .p (.int .i64 d.b)]] k H :=
  q_neq_v _ _ _ _ _ _ rfl rfl (by kernel_rfl) (fun w => run_eqClm c d w) h
theorem len2 {α : Type} {l : List α} (h : l.length = 2) : ∃ a b, l = [a, b] := by
  match l, h with
  | [a, b], _ => exact ⟨a, b, rfl⟩
def pz (of : List Clm) (i : Nat) : Clm := of.getD i ⟨false, 0, 0⟩
theorem wneg_ok {x : Int} (h : litOk x) : IntKind.i64.wrap (-x) = -x := by unfold litOk at h; rw [IntKind.wrap_i64]; omega
set_option maxHeartbeats 1000000 in
theorem fin_SoundLine {H H2 : AH} {x : Lin} {of : List Clm} {b12 b13 : Nat} {vs : List AV} (hw : WF H) (hle : H.le H2) (hn : H.nx ≤ H2.nx) (hlb : H2.get (H.nx + 4) = some (.box 36 x.cs)) (hcb : H2.get (H.nx + 8) = some (.box 24 x.c.cs)) (h12 : H2.get b12 = some (.box 24 (pz of 0).cs)) (h13 : H2.get b13 = some (.box 24 (pz of 1).cs))
    (hr1 : 1 ≤ x.rule) (hr2 : x.rule ≤ 10) (hc : of.length = countR x.rule) (hok : x.c.ok) (hofo : ∀ q ∈ of, q.ok) : S_wordhoardref_SoundLine_K11 (fun r H' => H' = H ∧ r = bv (ruleB x.rule x.c of)) H (.ptr (H.nx + 4) 0) (.ptr (H.nx + 8) 0) (.ptr b12 0) (.ptr b13 0) vs H2 := by
  unfold Lin.cs at hlb
  unfold Clm.cs at hcb h12 h13
  unfold S_wordhoardref_SoundLine_K11
  have : x.rule = 1 ∨ x.rule = 2 ∨ x.rule = 3 ∨ x.rule = 4 ∨ x.rule = 5 ∨ x.rule = 6 ∨ x.rule = 7 ∨ x.rule = 8 ∨ x.rule = 9 ∨ x.rule = 10 := by omega
  rcases this with hr | hr | hr | hr | hr | hr | hr | hr | hr | hr <;> rw [hr] at hc ⊢ <;> (have hc2 := hc; simp [countR] at hc2)
  · obtain ⟨p, rfl⟩ := List.length_eq_one_iff.1 hc2
    have hp := hofo p (by simp)
    have hpa := wneg_ok hp.1
    have hpb := wneg_ok hp.2
    simp only [pz, List.getD_cons_zero] at h12
    simp (disch := first | omega | simp) [iv, hlb, hcb, h12, h13, hr, S_wordhoardref_SoundLine_C2, S_wordhoardref_SoundLine_C3, S_wordhoardref_SoundLine_C4, S_wordhoardref_SoundLine_C5, S_wordhoardref_SoundLine_C6, S_wordhoardref_SoundLine_C7, S_wordhoardref_SoundLine_C8, S_wordhoardref_SoundLine_C9, S_wordhoardref_SoundLine_C10, hpa, hpb]
    refine q_eqClm (c := x.c) (d := p) (rt_one hw hle (by repeat (first | exact Cl.p _ | exact Cl.dsl _ _ | exact Cl.any | refine Cl.tup ?_ | refine Cl.agg ?_ | exact Clo.nil | refine Clo.cons ?_ ?_)) ⟨rfl, ?_⟩)
    simp [ruleB, bv]; exact Bool.eq_iff_iff.2 (by simp; exact eq_comm)
  · subst hc2
    simp +contextual (disch := first | omega | simp) [iv, hlb, hcb, h12, h13, hr, S_wordhoardref_SoundLine_C2, S_wordhoardref_SoundLine_C3, S_wordhoardref_SoundLine_C4, S_wordhoardref_SoundLine_C5, S_wordhoardref_SoundLine_C6, S_wordhoardref_SoundLine_C7, S_wordhoardref_SoundLine_C8, S_wordhoardref_SoundLine_C9, S_wordhoardref_SoundLine_C10]
    repeat' (first | intro _ | apply And.intro)
    all_goals exact rt_one hw hle (by repeat (first | exact Cl.p _ | exact Cl.dsl _ _ | exact Cl.any | refine Cl.tup ?_ | refine Cl.agg ?_ | exact Clo.nil | refine Clo.cons ?_ ?_)) ⟨rfl, by first | (simp_all [ruleB, bv]; done) | (simp_all [ruleB, bv]; exact Bool.eq_iff_iff.2 (by simp))⟩
  · obtain ⟨p, q, rfl⟩ := len2 hc2
    have hp := hofo p (by simp)
    have hpa := wneg_ok hp.1
    have hpb := wneg_ok hp.2
    simp only [pz, List.getD_cons_zero, List.getD_cons_succ] at h12 h13
    simp +contextual (disch := first | omega | simp) [iv, hlb, hcb, h12, h13, hr, S_wordhoardref_SoundLine_C2, S_wordhoardref_SoundLine_C3, S_wordhoardref_SoundLine_C4, S_wordhoardref_SoundLine_C5, S_wordhoardref_SoundLine_C6, S_wordhoardref_SoundLine_C7, S_wordhoardref_SoundLine_C8, S_wordhoardref_SoundLine_C9, S_wordhoardref_SoundLine_C10, hpa, hpb]
    repeat' (first | intro _ | apply And.intro)
    all_goals exact rt_one hw hle (by repeat (first | exact Cl.p _ | exact Cl.dsl _ _ | exact Cl.any | refine Cl.tup ?_ | refine Cl.agg ?_ | exact Clo.nil | refine Clo.cons ?_ ?_)) ⟨rfl, by first | (simp_all [ruleB, bv]; done) | (simp_all [ruleB, bv]; exact Bool.eq_iff_iff.2 (by simp))⟩
  · obtain ⟨p, rfl⟩ := List.length_eq_one_iff.1 hc2
    have hp := hofo p (by simp)
    have hpa := wneg_ok hp.1
    have hpb := wneg_ok hp.2
    simp only [pz, List.getD_cons_zero] at h12
    simp +contextual (disch := first | omega | simp) [iv, hlb, hcb, h12, h13, hr, S_wordhoardref_SoundLine_C2, S_wordhoardref_SoundLine_C3, S_wordhoardref_SoundLine_C4, S_wordhoardref_SoundLine_C5, S_wordhoardref_SoundLine_C6, S_wordhoardref_SoundLine_C7, S_wordhoardref_SoundLine_C8, S_wordhoardref_SoundLine_C9, S_wordhoardref_SoundLine_C10, hpa, hpb]
    repeat' (first | intro _ | apply And.intro)
    all_goals exact rt_one hw hle (by repeat (first | exact Cl.p _ | exact Cl.dsl _ _ | exact Cl.any | refine Cl.tup ?_ | refine Cl.agg ?_ | exact Clo.nil | refine Clo.cons ?_ ?_)) ⟨rfl, by first | (simp_all [ruleB, bv]; done) | (simp_all [ruleB, bv]; exact Bool.eq_iff_iff.2 (by simp))⟩
  · obtain ⟨p, rfl⟩ := List.length_eq_one_iff.1 hc2
    have hp := hofo p (by simp)
    have hpa := wneg_ok hp.1
    have hpb := wneg_ok hp.2
    simp only [pz, List.getD_cons_zero] at h12
    simp +contextual (disch := first | omega | simp) [iv, hlb, hcb, h12, h13, hr, S_wordhoardref_SoundLine_C2, S_wordhoardref_SoundLine_C3, S_wordhoardref_SoundLine_C4, S_wordhoardref_SoundLine_C5, S_wordhoardref_SoundLine_C6, S_wordhoardref_SoundLine_C7, S_wordhoardref_SoundLine_C8, S_wordhoardref_SoundLine_C9, S_wordhoardref_SoundLine_C10, hpa, hpb]
    repeat' (first | intro _ | apply And.intro)
    all_goals exact rt_one hw hle (by repeat (first | exact Cl.p _ | exact Cl.dsl _ _ | exact Cl.any | refine Cl.tup ?_ | refine Cl.agg ?_ | exact Clo.nil | refine Clo.cons ?_ ?_)) ⟨rfl, by first | (simp_all [ruleB, bv]; done) | (simp_all [ruleB, bv]; exact Bool.eq_iff_iff.2 (by simp))⟩
  · obtain ⟨p, rfl⟩ := List.length_eq_one_iff.1 hc2
    have hp := hofo p (by simp)
    have hpa := wneg_ok hp.1
    have hpb := wneg_ok hp.2
    simp only [pz, List.getD_cons_zero] at h12
    simp +contextual (disch := first | omega | simp) [iv, hlb, hcb, h12, h13, hr, S_wordhoardref_SoundLine_C2, S_wordhoardref_SoundLine_C3, S_wordhoardref_SoundLine_C4, S_wordhoardref_SoundLine_C5, S_wordhoardref_SoundLine_C6, S_wordhoardref_SoundLine_C7, S_wordhoardref_SoundLine_C8, S_wordhoardref_SoundLine_C9, S_wordhoardref_SoundLine_C10, hpa, hpb]
    repeat' (first | intro _ | apply And.intro)
    all_goals exact rt_one hw hle (by repeat (first | exact Cl.p _ | exact Cl.dsl _ _ | exact Cl.any | refine Cl.tup ?_ | refine Cl.agg ?_ | exact Clo.nil | refine Clo.cons ?_ ?_)) ⟨rfl, by first | (simp_all [ruleB, bv]; done) | (simp_all [ruleB, bv]; exact Bool.eq_iff_iff.2 (by simp))⟩
  · obtain ⟨p, rfl⟩ := List.length_eq_one_iff.1 hc2
    have hp := hofo p (by simp)
    have hpa := wneg_ok hp.1
    have hpb := wneg_ok hp.2
    simp only [pz, List.getD_cons_zero] at h12
    simp +contextual (disch := first | omega | simp) [iv, hlb, hcb, h12, h13, hr, S_wordhoardref_SoundLine_C2, S_wordhoardref_SoundLine_C3, S_wordhoardref_SoundLine_C4, S_wordhoardref_SoundLine_C5, S_wordhoardref_SoundLine_C6, S_wordhoardref_SoundLine_C7, S_wordhoardref_SoundLine_C8, S_wordhoardref_SoundLine_C9, S_wordhoardref_SoundLine_C10, hpa, hpb]
    repeat' (first | intro _ | apply And.intro)
    all_goals exact rt_one hw hle (by repeat (first | exact Cl.p _ | exact Cl.dsl _ _ | exact Cl.any | refine Cl.tup ?_ | refine Cl.agg ?_ | exact Clo.nil | refine Clo.cons ?_ ?_)) ⟨rfl, by first | (simp_all [ruleB, bv]; done) | (simp_all [ruleB, bv]; exact Bool.eq_iff_iff.2 (by simp))⟩
  · obtain ⟨p, rfl⟩ := List.length_eq_one_iff.1 hc2
    have hp := hofo p (by simp)
    have hpa := wneg_ok hp.1
    have hpb := wneg_ok hp.2
    simp only [pz, List.getD_cons_zero] at h12
    simp +contextual (disch := first | omega | simp) [iv, hlb, hcb, h12, h13, hr, S_wordhoardref_SoundLine_C2, S_wordhoardref_SoundLine_C3, S_wordhoardref_SoundLine_C4, S_wordhoardref_SoundLine_C5, S_wordhoardref_SoundLine_C6, S_wordhoardref_SoundLine_C7, S_wordhoardref_SoundLine_C8, S_wordhoardref_SoundLine_C9, S_wordhoardref_SoundLine_C10, hpa, hpb]
    repeat' (first | intro _ | apply And.intro)
    all_goals exact rt_one hw hle (by repeat (first | exact Cl.p _ | exact Cl.dsl _ _ | exact Cl.any | refine Cl.tup ?_ | refine Cl.agg ?_ | exact Clo.nil | refine Clo.cons ?_ ?_)) ⟨rfl, by first | (simp_all [ruleB, bv]; done) | (simp_all [ruleB, bv]; exact Bool.eq_iff_iff.2 (by simp))⟩
  · obtain ⟨p, q, rfl⟩ := len2 hc2
    have hp := hofo p (by simp)
    have hpa := wneg_ok hp.1
    have hpb := wneg_ok hp.2
    simp only [pz, List.getD_cons_zero, List.getD_cons_succ] at h12 h13
    simp +contextual (disch := first | omega | simp) [iv, hlb, hcb, h12, h13, hr, S_wordhoardref_SoundLine_C2, S_wordhoardref_SoundLine_C3, S_wordhoardref_SoundLine_C4, S_wordhoardref_SoundLine_C5, S_wordhoardref_SoundLine_C6, S_wordhoardref_SoundLine_C7, S_wordhoardref_SoundLine_C8, S_wordhoardref_SoundLine_C9, S_wordhoardref_SoundLine_C10, hpa, hpb]
    repeat' (first | intro _ | apply And.intro)
    all_goals exact rt_one hw hle (by repeat (first | exact Cl.p _ | exact Cl.dsl _ _ | exact Cl.any | refine Cl.tup ?_ | refine Cl.agg ?_ | exact Clo.nil | refine Clo.cons ?_ ?_)) ⟨rfl, by first | (simp_all [ruleB, bv]; done) | (simp_all [ruleB, bv]; exact Bool.eq_iff_iff.2 (by simp))⟩
  · obtain ⟨p, q, rfl⟩ := len2 hc2
    have hp := hofo p (by simp)
    have hpa := wneg_ok hp.1
    have hpb := wneg_ok hp.2
    simp only [pz, List.getD_cons_zero, List.getD_cons_succ] at h12 h13
    simp +contextual (disch := first | omega | simp) [iv, hlb, hcb, h12, h13, hr, S_wordhoardref_SoundLine_C2, S_wordhoardref_SoundLine_C3, S_wordhoardref_SoundLine_C4, S_wordhoardref_SoundLine_C5, S_wordhoardref_SoundLine_C6, S_wordhoardref_SoundLine_C7, S_wordhoardref_SoundLine_C8, S_wordhoardref_SoundLine_C9, S_wordhoardref_SoundLine_C10, hpa, hpb]
    repeat' (first | intro _ | apply And.intro)
    all_goals exact rt_one hw hle (by repeat (first | exact Cl.p _ | exact Cl.dsl _ _ | exact Cl.any | refine Cl.tup ?_ | refine Cl.agg ?_ | exact Clo.nil | refine Clo.cons ?_ ?_)) ⟨rfl, by first | (simp_all [ruleB, bv]; done) | (simp_all [ruleB, bv]; exact Bool.eq_iff_iff.2 (by simp))⟩
theorem mid_SoundLine {H H2 : AH} {x : Lin} {of : List Clm} {b12 b13 : Nat} {v i : AV} {rr : Int} (hrr : x.rule = rr) (hw : WF H) (hle : H.le H2) (hn : H.nx ≤ H2.nx) (hlb : H2.get (H.nx + 4) = some (.box 36 x.cs)) (hcb : H2.get (H.nx + 8) = some (.box 24 x.c.cs)) (hv : Grows 24 3 H H2 v (of.map Clm.cs)) (h12 : H2.get b12 = some (.box 24 (pz [] 0).cs)) (h13 : H2.get b13 = some (.box 24 (pz [] 0).cs))
    (hb1 : H.nx + 9 ≤ b12) (hb2 : H.nx + 9 ≤ b13) (hb3 : b12 ≠ b13) (hr1 : 1 ≤ x.rule) (hr2 : x.rule ≤ 10) (hc : of.length = countR x.rule) (hok : x.c.ok) (hofo : ∀ q ∈ of, q.ok) :
    CutA Try.prog 0 (fun k => Pu Try.prog .len [v] fun v85 => Pu Try.prog (.bin .gtr 3) [v85, .p (.int .i64 0)] fun v86 => CdA v86 (Rg 4 fun b => Pu Try.prog (.idx 3) [v, .p (.int .i64 0)] fun v88 => RdS Try.prog (.ld 3 true) [v88] fun v89 => WrS Try.prog (b + 3) (.st 3) [.ptr b12 0, v89] fun _ => k []) (k []))
      (S_wordhoardref_SoundLine_K12 (fun r H' => H' = H ∧ r = bv (ruleB rr x.c of)) H (.ptr (H.nx + 4) 0) (.ptr (H.nx + 8) 0) [v, i] (.ptr b12 0) (.ptr b13 0)) H2 := by
  subst hrr
  have hgl : ∀ (k : AV → AH → Prop) (H' : AH), Pu Try.prog .len [v] k H' = k (.p (.int .i64 (of.length : Int))) H' := fun k H' => by rw [hv.len, List.length_map]
  have ho2 : of.length ≤ 2 := by
    rw [hc]; unfold countR
    split
    · omega
    · split <;> omega
  refine cut_st (fun _ : Unit => []) (fun _ H3 => H.le H3 ∧ H.nx ≤ H3.nx ∧ H3.get (H.nx + 4) = some (.box 36 x.cs) ∧ H3.get (H.nx + 8) = some (.box 24 x.c.cs) ∧ Grows 24 3 H H3 v (of.map Clm.cs) ∧ H3.get b12 = some (.box 24 (pz of 0).cs) ∧ H3.get b13 = some (.box 24 (pz [] 0).cs)) (fun k hk => ?_) ?_
  · cases of with
    | nil => simp (disch := first | omega | simp) [hgl]; exact hk () _ _ _ (.refl (Nat.le_refl _)) ⟨hle, hn, hlb, hcb, hv, h12, h13⟩
    | cons q r =>
      have hpos : (0 : Int) < (((q :: r).length : Nat) : Int) := by rw [List.length_cons]; omega
      obtain ⟨a, e1, e2, e3⟩ := elF_acc (by decide) (hv.kp (H2 := H2.up 4) (Kp.refl H2).up).el (i := 0) (e := q.cs) rfl
      unfold Clm.cs at e3
      have h12' := h12
      unfold Clm.cs at h12'
      have hvb : ∀ n, v ≠ .osl b12 3 0 n := hv.not fun xs e => by rw [h12] at e; cases e
      have e4 := e1 Try.prog .i64
      simp only [Int.natCast_zero] at e4
      simp (disch := first | omega | simp) [hgl, hpos, e4, e3, h12']
      refine hk () _ _ _ (.refl (by first | omega | (simp only [up_nx, put_nx, kill_nx]; done) | (simp only [up_nx, put_nx, kill_nx]; omega))) ⟨(by repeat (first | with_reducible assumption | with_reducible exact AH.le.refl _ | with_reducible apply AH.le.up | (with_reducible refine AH.le.put hw ?_ ?_; · first | omega | (simp only [up_nx, put_nx, kill_nx]; done) | (simp only [up_nx, put_nx, kill_nx]; omega)) | (with_reducible refine AH.le.kill hw ?_ ?_; · first | omega | (simp only [up_nx, put_nx, kill_nx]; done) | (simp only [up_nx, put_nx, kill_nx]; omega)))), (by first | omega | (simp only [up_nx, put_nx, kill_nx]; done) | (simp only [up_nx, put_nx, kill_nx]; omega)), by rw [put_get_ne _ _ _ (by omega)]; exact hlb, by rw [put_get_ne _ _ _ (by omega)]; exact hcb, hv.up_ (by first | omega | (simp only [up_nx, put_nx, kill_nx]; done) | (simp only [up_nx, put_nx, kill_nx]; omega)) fun j o hj ⟨n, hn⟩ ho => by rw [put_get_ne _ _ _ (fun e => by subst e; exact hvb n hn)]; exact ho, by rw [put_get]; rfl, by rw [put_get_ne _ _ _ hb3.symm]; exact h13⟩
  · rintro _ H3 hn3 ⟨g1, g2, g3, g4, g5, g6, g7⟩
    unfold S_wordhoardref_SoundLine_K12
    simp only [List.getD_cons_zero]
    refine cut_st (fun _ : Unit => []) (fun _ H4 => H.le H4 ∧ H.nx ≤ H4.nx ∧ H4.get (H.nx + 4) = some (.box 36 x.cs) ∧ H4.get (H.nx + 8) = some (.box 24 x.c.cs) ∧ H4.get b12 = some (.box 24 (pz of 0).cs) ∧ H4.get b13 = some (.box 24 (pz of 1).cs)) (fun k hk => ?_) ?_
    · match of, ho2, hgl, g5, g6, hk with
      | [], _, hgl, _, g6, hk => simp (disch := first | omega | simp) [hgl]; exact hk () _ _ _ (.refl (Nat.le_refl _)) ⟨g1, g2, g3, g4, g6, g7⟩
      | [q], _, hgl, _, g6, hk => simp (disch := first | omega | simp) [hgl]; exact hk () _ _ _ (.refl (Nat.le_refl _)) ⟨g1, g2, g3, g4, g6, g7⟩
      | [q, s], _, hgl, g5, g6, hk =>
        obtain ⟨a, e1, e2, e3⟩ := elF_acc (by decide) (g5.kp (H2 := H3.up 4) (Kp.refl H3).up).el (i := 1) (e := s.cs) rfl
        unfold Clm.cs at e3
        have h13' := g7
        unfold Clm.cs at h13'
        have hvb : ∀ n, v ≠ .osl b13 3 0 n := g5.not fun xs e => by rw [g7] at e; cases e
        have e4 := e1 Try.prog .i64
        simp only [Int.natCast_one] at e4
        simp (disch := first | omega | simp) [hgl, e4, e3, h13']
        refine hk () _ _ _ (.refl (by first | omega | (simp only [up_nx, put_nx, kill_nx]; done) | (simp only [up_nx, put_nx, kill_nx]; omega))) ⟨(by repeat (first | with_reducible assumption | with_reducible exact AH.le.refl _ | with_reducible apply AH.le.up | (with_reducible refine AH.le.put hw ?_ ?_; · first | omega | (simp only [up_nx, put_nx, kill_nx]; done) | (simp only [up_nx, put_nx, kill_nx]; omega)) | (with_reducible refine AH.le.kill hw ?_ ?_; · first | omega | (simp only [up_nx, put_nx, kill_nx]; done) | (simp only [up_nx, put_nx, kill_nx]; omega)))), (by first | omega | (simp only [up_nx, put_nx, kill_nx]; done) | (simp only [up_nx, put_nx, kill_nx]; omega)), by rw [put_get_ne _ _ _ (by omega)]; exact g3, by rw [put_get_ne _ _ _ (by omega)]; exact g4, by rw [put_get_ne _ _ _ hb3]; exact g6, by rw [put_get]; rfl⟩
      | q :: s :: u :: r, h, _, _, _, _ => simp at h
    · rintro _ H4 hn4 ⟨f1, f2, f3, f4, f5, f6⟩
      exact fin_SoundLine hw f1 f2 f3 f4 f5 f6 hr1 hr2 hc hok hofo
set_option maxHeartbeats 1000000 in
theorem c_SoundLine (p : List Clm) (l : List Lin) (n : Nat) {x : Lin} (hx : l[n]? = some x) (hpo : ∀ q ∈ p, q.ok) (hlo : ∀ y ∈ l, y.c.ok) (hb : x.src.length * 24 ≤ 140737488355328) (hn : n < 900000000) (H : AH) :
    Tri Try.prog 15 [cE p, .dsl 5 (l.map Lin.cs), iv n] H (fun r H' => H' = H ∧ r = bv (rightB p (l.map (·.c)) n x)) := tri_wf fun hw => tri_wordhoardref_SoundLine (by
  unfold S_wordhoardref_SoundLine
  have hmx : maxLen = 9223372036854775807 := by decide
  have hnl := (List.getElem?_eq_some_iff.1 hx).1
  have hlg : ∀ h, l[n]'h = x := fun h => (List.getElem?_eq_some_iff.1 hx).2
  simp (disch := first | omega | simp) [cE, iv, put_get_ne, hnl, hlg, Lin.cs]
  obtain ⟨PC, hPC⟩ : ∃ PC, PC = (if x.rule = 1 then pickC p p.length else pickC (l.map (·.c)) n) := ⟨_, rfl⟩
  have hright : rightB p (l.map (·.c)) n x = match PC x.src with | some of => ruleB x.rule x.c of | none => false := by
    unfold rightB; rw [hPC]
    by_cases h : x.rule = 1
    · rw [if_pos h, if_pos h]; rfl
    · rw [if_neg h, if_neg h]; rfl
  rw [hright]
  refine loop_st (fun s : (AV × Nat) × List Clm => [s.1.1, iv s.1.2]) (fun s H' => s.1.2 ≤ x.src.length ∧ H.le H' ∧ H.nx + 10 ≤ H'.nx ∧ H'.get (H.nx + 4) = some (.box 36 x.cs) ∧ H'.get (H.nx + 8) = some (.box 24 x.c.cs) ∧ Grows 24 3 H H' s.1.1 (s.2.map Clm.cs) ∧ PC (x.src.take s.1.2) = some s.2) (fun s => x.src.length - s.1.2) ((.p (.slice none 0 0), 0), []) (.refl (Nat.le_refl _)) ⟨Nat.zero_le _, (by repeat (first | with_reducible assumption | with_reducible exact AH.le.refl _ | with_reducible apply AH.le.up | (with_reducible refine AH.le.put hw ?_ ?_; · first | omega | (simp only [up_nx, put_nx, kill_nx]; done) | (simp only [up_nx, put_nx, kill_nx]; omega)) | (with_reducible refine AH.le.kill hw ?_ ?_; · first | omega | (simp only [up_nx, put_nx, kill_nx]; done) | (simp only [up_nx, put_nx, kill_nx]; omega)))), (by first | omega | (simp only [up_nx, put_nx, kill_nx]; done) | (simp only [up_nx, put_nx, kill_nx]; omega)), by simp (disch := first | omega | simp) [put_get_ne]; rfl, put_get _ _, .nil _ _ _ _, by rw [hPC]; split <;> rfl⟩ ?_
  rintro ⟨⟨v, i⟩, of⟩ H1 hn1 ⟨hi, hle, hnx, hlb, hcb, hv, hpk⟩ k hk
  dsimp only at hi hv hpk hk
  unfold S_wordhoardref_SoundLine_L14
  have hlb' := hlb
  unfold Lin.cs at hlb
  have hsl : (x.src.map fun i => [AV.p (.int .i64 i)]).length = x.src.length := by simp
  by_cases hil : i < x.src.length
  · obtain ⟨z, hz⟩ : ∃ z, x.src[i]? = some z := ⟨_, List.getElem?_eq_getElem hil⟩
    have hzg : ∀ h, (x.src.map fun i => [AV.p (.int .i64 i)])[i]'h = [.p (.int .i64 z)] := fun h => by have := (List.getElem?_eq_some_iff.1 hz).2; simp [this]
    have hiv := ivn (i := i) (by omega)
    have hofl : of.length ≤ x.src.length := by
      have : of.length = (x.src.take i).length := by
        by_cases h : x.rule = 1
        · rw [hPC, if_pos h] at hpk; exact pickC_len hpk
        · rw [hPC, if_neg h] at hpk; exact pickC_len hpk
      rw [List.length_take] at this; omega
    have hlt : of.length < x.src.length := by
      have : of.length = (x.src.take i).length := by
        by_cases h : x.rule = 1
        · rw [hPC, if_pos h] at hpk; exact pickC_len hpk
        · rw [hPC, if_neg h] at hpk; exact pickC_len hpk
      rw [List.length_take] at this; omega
    have hvl : ∀ n, v ≠ .osl (H.nx + 4) 3 0 n := hv.not fun xs e => by rw [hlb] at e; cases e
    have hvc : ∀ n, v ≠ .osl (H.nx + 8) 3 0 n := hv.not fun xs e => by rw [hcb] at e; cases e
    have app : ∀ (H2 : AH) (id : Nat) (y : AV) (q : Clm), Kp H1 H2 → H1.nx ≤ id → id < H2.nx → elF H2 3 y = some [q.cs] → PC (x.src.take (i + 1)) = some (of ++ [q]) → Wr Try.prog id (.app 24 3 24) [v, y] (fun v49 _ => Pu Try.prog (.bin .add 3) [.p (.int .i64 (i : Int)), .p (.int .i64 1)] fun v26 => k [v49, v26]) H2 := fun H2 id y q hk2 hid hid2 hy hpk2 => by
      have hk1 := hk2.1
      refine Grows.app (t := 24) hw (hv.kp hk2) (hk2.le_of hle hw (by omega)) (by omega) hid2 (ys := [q.cs]) hy (dt_clm [q]) (by simp; omega) (by simp; omega) fun v' H3 g3 l3 n3 k3 _ => ?_
      rw [q_add_i, hiv]
      refine hk ((v', i + 1), of ++ [q]) _ _ _ (.refl (by omega)) ⟨hil, l3, by omega, ?_, ?_, by rw [List.map_append]; exact g3, hpk2⟩ (by dsimp only; omega)
      · rw [k3 _ (by omega) hvl]; exact hk2.get_ (by omega) hlb'
      · rw [k3 _ (by omega) hvc]; exact hk2.get_ (by omega) hcb
    simp (disch := first | omega | simp) [iv, hlb, hil]
    unfold S_wordhoardref_SoundLine_C1
    by_cases hr : x.rule = 1
    · rw [if_pos hr] at hPC
      by_cases hzr : 0 ≤ z ∧ z < p.length
      · obtain ⟨zn, rfl⟩ := Int.eq_ofNat_of_zero_le hzr.1
        have hzp : zn < p.length := by omega
        obtain ⟨q, hq⟩ : ∃ q, p[zn]? = some q := ⟨_, List.getElem?_eq_getElem hzp⟩
        have hqg : ∀ h, p[zn]'h = q := fun h => (List.getElem?_eq_some_iff.1 hq).2
        have hneg : ¬ ((zn : Int) < 0) := by omega
        have hnl2 : ¬ (p.length ≤ zn) := by omega
        simp (disch := first | omega | simp) [iv, hlb, hil, hzg, hr, hneg, hnl2, hzp, hqg, Clm.cs]
        refine app _ _ _ q (by repeat (first | with_reducible assumption | with_reducible exact Kp.refl _ | with_reducible apply Kp.up | (with_reducible refine Kp.put ?_ ?_; · first | omega | (simp only [up_nx, put_nx, kill_nx]; done) | (simp only [up_nx, put_nx, kill_nx]; omega)) | (with_reducible refine Kp.kill ?_ ?_; · first | omega | (simp only [up_nx, put_nx, kill_nx]; done) | (simp only [up_nx, put_nx, kill_nx]; omega)))) (by first | omega | (simp only [up_nx, put_nx, kill_nx]; done) | (simp only [up_nx, put_nx, kill_nx]; omega)) (by first | omega | (simp only [up_nx, put_nx, kill_nx]; done) | (simp only [up_nx, put_nx, kill_nx]; omega)) (by simp [Clm.cs]) (by rw [hPC] at hpk ⊢; exact pickC_next hpk hz hzr.1 hzr.2 (by simpa using hq))
      · have hnone : PC x.src = none := by rw [hPC]; exact pickC_fail hz hzr
        rw [hnone]
        by_cases hz0 : z < 0
        · simp (disch := first | omega | simp) [iv, hlb, hil, hzg, hr, hz0]
          exact rt_one hw hle (by repeat (first | exact Cl.p _ | exact Cl.dsl _ _ | exact Cl.any | refine Cl.tup ?_ | refine Cl.agg ?_ | exact Clo.nil | refine Clo.cons ?_ ?_)) ⟨rfl, rfl⟩
        · have hz1 : (p.length : Int) ≤ z := by omega
          simp (disch := first | omega | simp) [iv, hlb, hil, hzg, hr, hz0, hz1]
          exact rt_one hw hle (by repeat (first | exact Cl.p _ | exact Cl.dsl _ _ | exact Cl.any | refine Cl.tup ?_ | refine Cl.agg ?_ | exact Clo.nil | refine Clo.cons ?_ ?_)) ⟨rfl, rfl⟩
    · rw [if_neg hr] at hPC
      by_cases hzr : 0 ≤ z ∧ z < n
      · obtain ⟨zn, rfl⟩ := Int.eq_ofNat_of_zero_le hzr.1
        have hzp : zn < l.length := by omega
        obtain ⟨y, hy⟩ : ∃ y, l[zn]? = some y := ⟨_, List.getElem?_eq_getElem hzp⟩
        have hyg : ∀ h, l[zn]'h = y := fun h => (List.getElem?_eq_some_iff.1 hy).2
        have hneg : ¬ ((zn : Int) < 0) := by omega
        have hnl2 : ¬ (n ≤ zn) := by omega
        simp (disch := first | omega | simp) [iv, hlb, hil, hzg, hr, hneg, hnl2, hzp, hyg, Lin.cs]
        refine app _ _ _ y.c (by repeat (first | with_reducible assumption | with_reducible exact Kp.refl _ | with_reducible apply Kp.up | (with_reducible refine Kp.put ?_ ?_; · first | omega | (simp only [up_nx, put_nx, kill_nx]; done) | (simp only [up_nx, put_nx, kill_nx]; omega)) | (with_reducible refine Kp.kill ?_ ?_; · first | omega | (simp only [up_nx, put_nx, kill_nx]; done) | (simp only [up_nx, put_nx, kill_nx]; omega)))) (by first | omega | (simp only [up_nx, put_nx, kill_nx]; done) | (simp only [up_nx, put_nx, kill_nx]; omega)) (by first | omega | (simp only [up_nx, put_nx, kill_nx]; done) | (simp only [up_nx, put_nx, kill_nx]; omega)) (by simp [Clm.cs]) (by rw [hPC] at hpk ⊢; exact pickC_next hpk hz hzr.1 hzr.2 (by simp [hy]))
      · have hnone : PC x.src = none := by rw [hPC]; exact pickC_fail hz hzr
        rw [hnone]
        by_cases hz0 : z < 0
        · simp (disch := first | omega | simp) [iv, hlb, hil, hzg, hr, hz0]
          exact rt_one hw hle (by repeat (first | exact Cl.p _ | exact Cl.dsl _ _ | exact Cl.any | refine Cl.tup ?_ | refine Cl.agg ?_ | exact Clo.nil | refine Clo.cons ?_ ?_)) ⟨rfl, rfl⟩
        · have hz1 : (n : Int) ≤ z := by omega
          simp (disch := first | omega | simp) [iv, hlb, hil, hzg, hr, hz0, hz1]
          exact rt_one hw hle (by repeat (first | exact Cl.p _ | exact Cl.dsl _ _ | exact Cl.any | refine Cl.tup ?_ | refine Cl.agg ?_ | exact Clo.nil | refine Clo.cons ?_ ?_)) ⟨rfl, rfl⟩
  · have hie : i = x.src.length := by omega
    subst hie
    rw [List.take_length] at hpk
    rw [hpk]
    have hgl : ∀ (k : AV → AH → Prop) (H' : AH), Pu Try.prog .len [v] k H' = k (.p (.int .i64 (of.length : Int))) H' := fun k H' => by rw [hv.len, List.length_map]
    simp (disch := first | omega | simp) [iv, hlb]
    unfold S_wordhoardref_SoundLine_C13
    by_cases hrg : 1 ≤ x.rule ∧ x.rule ≤ 10
    · have : x.rule = 1 ∨ x.rule = 2 ∨ x.rule = 3 ∨ x.rule = 4 ∨ x.rule = 5 ∨ x.rule = 6 ∨ x.rule = 7 ∨ x.rule = 8 ∨ x.rule = 9 ∨ x.rule = 10 := by omega
      have hofo : ∀ q ∈ of, q.ok := fun q hq => by
        by_cases hr : x.rule = 1
        · rw [hPC, if_pos hr] at hpk
          obtain ⟨k, _, hk⟩ := pick_mem hpk q hq
          exact hpo q (List.mem_of_getElem? hk)
        · rw [hPC, if_neg hr] at hpk
          obtain ⟨k, _, hk⟩ := pick_mem hpk q hq
          obtain ⟨y, hy, rfl⟩ := List.mem_map.1 (List.mem_of_getElem? hk)
          exact hlo y hy
      have hok := hlo x (List.mem_of_getElem? hx)
      by_cases hcn : of.length = countR x.rule
      · rcases this with hr | hr | hr | hr | hr | hr | hr | hr | hr | hr <;> (have hcn2 := hcn; rw [hr] at hcn2; simp [countR] at hcn2)
        · simp (disch := first | omega | simp) [iv, hlb, hgl, hr, hcn2, put_get_ne]
          exact mid_SoundLine hr hw (by repeat (first | with_reducible assumption | with_reducible exact AH.le.refl _ | with_reducible apply AH.le.up | (with_reducible refine AH.le.put hw ?_ ?_; · first | omega | (simp only [up_nx, put_nx, kill_nx]; done) | (simp only [up_nx, put_nx, kill_nx]; omega)) | (with_reducible refine AH.le.kill hw ?_ ?_; · first | omega | (simp only [up_nx, put_nx, kill_nx]; done) | (simp only [up_nx, put_nx, kill_nx]; omega)))) (by first | omega | (simp only [up_nx, put_nx, kill_nx]; done) | (simp only [up_nx, put_nx, kill_nx]; omega)) (by simp (disch := first | omega | simp) [put_get_ne]; exact hlb') (by simp (disch := first | omega | simp) [put_get_ne]; exact hcb) (by exact hv.kp (by repeat (first | with_reducible assumption | with_reducible exact Kp.refl _ | with_reducible apply Kp.up | (with_reducible refine Kp.put ?_ ?_; · first | omega | (simp only [up_nx, put_nx, kill_nx]; done) | (simp only [up_nx, put_nx, kill_nx]; omega)) | (with_reducible refine Kp.kill ?_ ?_; · first | omega | (simp only [up_nx, put_nx, kill_nx]; done) | (simp only [up_nx, put_nx, kill_nx]; omega))))) (by simp (disch := first | omega | simp) [put_get_ne]; rfl) (by simp (disch := first | omega | simp) [put_get_ne]; rfl) (by omega) (by omega) (by omega) hrg.1 hrg.2 hcn hok hofo
        · subst hcn2
          simp (disch := first | omega | simp) [iv, hlb, hgl, hr, put_get_ne]
          exact mid_SoundLine hr hw (by repeat (first | with_reducible assumption | with_reducible exact AH.le.refl _ | with_reducible apply AH.le.up | (with_reducible refine AH.le.put hw ?_ ?_; · first | omega | (simp only [up_nx, put_nx, kill_nx]; done) | (simp only [up_nx, put_nx, kill_nx]; omega)) | (with_reducible refine AH.le.kill hw ?_ ?_; · first | omega | (simp only [up_nx, put_nx, kill_nx]; done) | (simp only [up_nx, put_nx, kill_nx]; omega)))) (by first | omega | (simp only [up_nx, put_nx, kill_nx]; done) | (simp only [up_nx, put_nx, kill_nx]; omega)) (by simp (disch := first | omega | simp) [put_get_ne]; exact hlb') (by simp (disch := first | omega | simp) [put_get_ne]; exact hcb) (by exact hv.kp (by repeat (first | with_reducible assumption | with_reducible exact Kp.refl _ | with_reducible apply Kp.up | (with_reducible refine Kp.put ?_ ?_; · first | omega | (simp only [up_nx, put_nx, kill_nx]; done) | (simp only [up_nx, put_nx, kill_nx]; omega)) | (with_reducible refine Kp.kill ?_ ?_; · first | omega | (simp only [up_nx, put_nx, kill_nx]; done) | (simp only [up_nx, put_nx, kill_nx]; omega))))) (by simp (disch := first | omega | simp) [put_get_ne]; rfl) (by simp (disch := first | omega | simp) [put_get_ne]; rfl) (by omega) (by omega) (by omega) hrg.1 hrg.2 hcn hok hofo
        · simp (disch := first | omega | simp) [iv, hlb, hgl, hr, hcn2, put_get_ne]
          exact mid_SoundLine hr hw (by repeat (first | with_reducible assumption | with_reducible exact AH.le.refl _ | with_reducible apply AH.le.up | (with_reducible refine AH.le.put hw ?_ ?_; · first | omega | (simp only [up_nx, put_nx, kill_nx]; done) | (simp only [up_nx, put_nx, kill_nx]; omega)) | (with_reducible refine AH.le.kill hw ?_ ?_; · first | omega | (simp only [up_nx, put_nx, kill_nx]; done) | (simp only [up_nx, put_nx, kill_nx]; omega)))) (by first | omega | (simp only [up_nx, put_nx, kill_nx]; done) | (simp only [up_nx, put_nx, kill_nx]; omega)) (by simp (disch := first | omega | simp) [put_get_ne]; exact hlb') (by simp (disch := first | omega | simp) [put_get_ne]; exact hcb) (by exact hv.kp (by repeat (first | with_reducible assumption | with_reducible exact Kp.refl _ | with_reducible apply Kp.up | (with_reducible refine Kp.put ?_ ?_; · first | omega | (simp only [up_nx, put_nx, kill_nx]; done) | (simp only [up_nx, put_nx, kill_nx]; omega)) | (with_reducible refine Kp.kill ?_ ?_; · first | omega | (simp only [up_nx, put_nx, kill_nx]; done) | (simp only [up_nx, put_nx, kill_nx]; omega))))) (by simp (disch := first | omega | simp) [put_get_ne]; rfl) (by simp (disch := first | omega | simp) [put_get_ne]; rfl) (by omega) (by omega) (by omega) hrg.1 hrg.2 hcn hok hofo
        · simp (disch := first | omega | simp) [iv, hlb, hgl, hr, hcn2, put_get_ne]
          exact mid_SoundLine hr hw (by repeat (first | with_reducible assumption | with_reducible exact AH.le.refl _ | with_reducible apply AH.le.up | (with_reducible refine AH.le.put hw ?_ ?_; · first | omega | (simp only [up_nx, put_nx, kill_nx]; done) | (simp only [up_nx, put_nx, kill_nx]; omega)) | (with_reducible refine AH.le.kill hw ?_ ?_; · first | omega | (simp only [up_nx, put_nx, kill_nx]; done) | (simp only [up_nx, put_nx, kill_nx]; omega)))) (by first | omega | (simp only [up_nx, put_nx, kill_nx]; done) | (simp only [up_nx, put_nx, kill_nx]; omega)) (by simp (disch := first | omega | simp) [put_get_ne]; exact hlb') (by simp (disch := first | omega | simp) [put_get_ne]; exact hcb) (by exact hv.kp (by repeat (first | with_reducible assumption | with_reducible exact Kp.refl _ | with_reducible apply Kp.up | (with_reducible refine Kp.put ?_ ?_; · first | omega | (simp only [up_nx, put_nx, kill_nx]; done) | (simp only [up_nx, put_nx, kill_nx]; omega)) | (with_reducible refine Kp.kill ?_ ?_; · first | omega | (simp only [up_nx, put_nx, kill_nx]; done) | (simp only [up_nx, put_nx, kill_nx]; omega))))) (by simp (disch := first | omega | simp) [put_get_ne]; rfl) (by simp (disch := first | omega | simp) [put_get_ne]; rfl) (by omega) (by omega) (by omega) hrg.1 hrg.2 hcn hok hofo
        · simp (disch := first | omega | simp) [iv, hlb, hgl, hr, hcn2, put_get_ne]
          exact mid_SoundLine hr hw (by repeat (first | with_reducible assumption | with_reducible exact AH.le.refl _ | with_reducible apply AH.le.up | (with_reducible refine AH.le.put hw ?_ ?_; · first | omega | (simp only [up_nx, put_nx, kill_nx]; done) | (simp only [up_nx, put_nx, kill_nx]; omega)) | (with_reducible refine AH.le.kill hw ?_ ?_; · first | omega | (simp only [up_nx, put_nx, kill_nx]; done) | (simp only [up_nx, put_nx, kill_nx]; omega)))) (by first | omega | (simp only [up_nx, put_nx, kill_nx]; done) | (simp only [up_nx, put_nx, kill_nx]; omega)) (by simp (disch := first | omega | simp) [put_get_ne]; exact hlb') (by simp (disch := first | omega | simp) [put_get_ne]; exact hcb) (by exact hv.kp (by repeat (first | with_reducible assumption | with_reducible exact Kp.refl _ | with_reducible apply Kp.up | (with_reducible refine Kp.put ?_ ?_; · first | omega | (simp only [up_nx, put_nx, kill_nx]; done) | (simp only [up_nx, put_nx, kill_nx]; omega)) | (with_reducible refine Kp.kill ?_ ?_; · first | omega | (simp only [up_nx, put_nx, kill_nx]; done) | (simp only [up_nx, put_nx, kill_nx]; omega))))) (by simp (disch := first | omega | simp) [put_get_ne]; rfl) (by simp (disch := first | omega | simp) [put_get_ne]; rfl) (by omega) (by omega) (by omega) hrg.1 hrg.2 hcn hok hofo
        · simp (disch := first | omega | simp) [iv, hlb, hgl, hr, hcn2, put_get_ne]
          exact mid_SoundLine hr hw (by repeat (first | with_reducible assumption | with_reducible exact AH.le.refl _ | with_reducible apply AH.le.up | (with_reducible refine AH.le.put hw ?_ ?_; · first | omega | (simp only [up_nx, put_nx, kill_nx]; done) | (simp only [up_nx, put_nx, kill_nx]; omega)) | (with_reducible refine AH.le.kill hw ?_ ?_; · first | omega | (simp only [up_nx, put_nx, kill_nx]; done) | (simp only [up_nx, put_nx, kill_nx]; omega)))) (by first | omega | (simp only [up_nx, put_nx, kill_nx]; done) | (simp only [up_nx, put_nx, kill_nx]; omega)) (by simp (disch := first | omega | simp) [put_get_ne]; exact hlb') (by simp (disch := first | omega | simp) [put_get_ne]; exact hcb) (by exact hv.kp (by repeat (first | with_reducible assumption | with_reducible exact Kp.refl _ | with_reducible apply Kp.up | (with_reducible refine Kp.put ?_ ?_; · first | omega | (simp only [up_nx, put_nx, kill_nx]; done) | (simp only [up_nx, put_nx, kill_nx]; omega)) | (with_reducible refine Kp.kill ?_ ?_; · first | omega | (simp only [up_nx, put_nx, kill_nx]; done) | (simp only [up_nx, put_nx, kill_nx]; omega))))) (by simp (disch := first | omega | simp) [put_get_ne]; rfl) (by simp (disch := first | omega | simp) [put_get_ne]; rfl) (by omega) (by omega) (by omega) hrg.1 hrg.2 hcn hok hofo
        · simp (disch := first | omega | simp) [iv, hlb, hgl, hr, hcn2, put_get_ne]
          exact mid_SoundLine hr hw (by repeat (first | with_reducible assumption | with_reducible exact AH.le.refl _ | with_reducible apply AH.le.up | (with_reducible refine AH.le.put hw ?_ ?_; · first | omega | (simp only [up_nx, put_nx, kill_nx]; done) | (simp only [up_nx, put_nx, kill_nx]; omega)) | (with_reducible refine AH.le.kill hw ?_ ?_; · first | omega | (simp only [up_nx, put_nx, kill_nx]; done) | (simp only [up_nx, put_nx, kill_nx]; omega)))) (by first | omega | (simp only [up_nx, put_nx, kill_nx]; done) | (simp only [up_nx, put_nx, kill_nx]; omega)) (by simp (disch := first | omega | simp) [put_get_ne]; exact hlb') (by simp (disch := first | omega | simp) [put_get_ne]; exact hcb) (by exact hv.kp (by repeat (first | with_reducible assumption | with_reducible exact Kp.refl _ | with_reducible apply Kp.up | (with_reducible refine Kp.put ?_ ?_; · first | omega | (simp only [up_nx, put_nx, kill_nx]; done) | (simp only [up_nx, put_nx, kill_nx]; omega)) | (with_reducible refine Kp.kill ?_ ?_; · first | omega | (simp only [up_nx, put_nx, kill_nx]; done) | (simp only [up_nx, put_nx, kill_nx]; omega))))) (by simp (disch := first | omega | simp) [put_get_ne]; rfl) (by simp (disch := first | omega | simp) [put_get_ne]; rfl) (by omega) (by omega) (by omega) hrg.1 hrg.2 hcn hok hofo
        · simp (disch := first | omega | simp) [iv, hlb, hgl, hr, hcn2, put_get_ne]
          exact mid_SoundLine hr hw (by repeat (first | with_reducible assumption | with_reducible exact AH.le.refl _ | with_reducible apply AH.le.up | (with_reducible refine AH.le.put hw ?_ ?_; · first | omega | (simp only [up_nx, put_nx, kill_nx]; done) | (simp only [up_nx, put_nx, kill_nx]; omega)) | (with_reducible refine AH.le.kill hw ?_ ?_; · first | omega | (simp only [up_nx, put_nx, kill_nx]; done) | (simp only [up_nx, put_nx, kill_nx]; omega)))) (by first | omega | (simp only [up_nx, put_nx, kill_nx]; done) | (simp only [up_nx, put_nx, kill_nx]; omega)) (by simp (disch := first | omega | simp) [put_get_ne]; exact hlb') (by simp (disch := first | omega | simp) [put_get_ne]; exact hcb) (by exact hv.kp (by repeat (first | with_reducible assumption | with_reducible exact Kp.refl _ | with_reducible apply Kp.up | (with_reducible refine Kp.put ?_ ?_; · first | omega | (simp only [up_nx, put_nx, kill_nx]; done) | (simp only [up_nx, put_nx, kill_nx]; omega)) | (with_reducible refine Kp.kill ?_ ?_; · first | omega | (simp only [up_nx, put_nx, kill_nx]; done) | (simp only [up_nx, put_nx, kill_nx]; omega))))) (by simp (disch := first | omega | simp) [put_get_ne]; rfl) (by simp (disch := first | omega | simp) [put_get_ne]; rfl) (by omega) (by omega) (by omega) hrg.1 hrg.2 hcn hok hofo
        · simp (disch := first | omega | simp) [iv, hlb, hgl, hr, hcn2, put_get_ne]
          exact mid_SoundLine hr hw (by repeat (first | with_reducible assumption | with_reducible exact AH.le.refl _ | with_reducible apply AH.le.up | (with_reducible refine AH.le.put hw ?_ ?_; · first | omega | (simp only [up_nx, put_nx, kill_nx]; done) | (simp only [up_nx, put_nx, kill_nx]; omega)) | (with_reducible refine AH.le.kill hw ?_ ?_; · first | omega | (simp only [up_nx, put_nx, kill_nx]; done) | (simp only [up_nx, put_nx, kill_nx]; omega)))) (by first | omega | (simp only [up_nx, put_nx, kill_nx]; done) | (simp only [up_nx, put_nx, kill_nx]; omega)) (by simp (disch := first | omega | simp) [put_get_ne]; exact hlb') (by simp (disch := first | omega | simp) [put_get_ne]; exact hcb) (by exact hv.kp (by repeat (first | with_reducible assumption | with_reducible exact Kp.refl _ | with_reducible apply Kp.up | (with_reducible refine Kp.put ?_ ?_; · first | omega | (simp only [up_nx, put_nx, kill_nx]; done) | (simp only [up_nx, put_nx, kill_nx]; omega)) | (with_reducible refine Kp.kill ?_ ?_; · first | omega | (simp only [up_nx, put_nx, kill_nx]; done) | (simp only [up_nx, put_nx, kill_nx]; omega))))) (by simp (disch := first | omega | simp) [put_get_ne]; rfl) (by simp (disch := first | omega | simp) [put_get_ne]; rfl) (by omega) (by omega) (by omega) hrg.1 hrg.2 hcn hok hofo
        · simp (disch := first | omega | simp) [iv, hlb, hgl, hr, hcn2, put_get_ne]
          exact mid_SoundLine hr hw (by repeat (first | with_reducible assumption | with_reducible exact AH.le.refl _ | with_reducible apply AH.le.up | (with_reducible refine AH.le.put hw ?_ ?_; · first | omega | (simp only [up_nx, put_nx, kill_nx]; done) | (simp only [up_nx, put_nx, kill_nx]; omega)) | (with_reducible refine AH.le.kill hw ?_ ?_; · first | omega | (simp only [up_nx, put_nx, kill_nx]; done) | (simp only [up_nx, put_nx, kill_nx]; omega)))) (by first | omega | (simp only [up_nx, put_nx, kill_nx]; done) | (simp only [up_nx, put_nx, kill_nx]; omega)) (by simp (disch := first | omega | simp) [put_get_ne]; exact hlb') (by simp (disch := first | omega | simp) [put_get_ne]; exact hcb) (by exact hv.kp (by repeat (first | with_reducible assumption | with_reducible exact Kp.refl _ | with_reducible apply Kp.up | (with_reducible refine Kp.put ?_ ?_; · first | omega | (simp only [up_nx, put_nx, kill_nx]; done) | (simp only [up_nx, put_nx, kill_nx]; omega)) | (with_reducible refine Kp.kill ?_ ?_; · first | omega | (simp only [up_nx, put_nx, kill_nx]; done) | (simp only [up_nx, put_nx, kill_nx]; omega))))) (by simp (disch := first | omega | simp) [put_get_ne]; rfl) (by simp (disch := first | omega | simp) [put_get_ne]; rfl) (by omega) (by omega) (by omega) hrg.1 hrg.2 hcn hok hofo
      · have hf := ruleB_count (c := x.c) (of := of) (r := x.rule) fun h => hcn h.2.2
        rw [hf]
        have hcz : ∀ m : Int, m = (countR x.rule : Int) → ¬ (of.length : Int) = m := fun m h1 h2 => hcn (by omega)
        rcases this with hr | hr | hr | hr | hr | hr | hr | hr | hr | hr <;> (first | (have hz := hcz 1 (by rw [hr]; rfl)) | (have hz := hcz 0 (by rw [hr]; rfl)) | (have hz := hcz 2 (by rw [hr]; rfl))) <;> (simp (disch := first | omega | simp) [iv, hlb, hgl, hr, hz, put_get_ne]; first | exact rt_one hw (by repeat (first | with_reducible assumption | with_reducible exact AH.le.refl _ | with_reducible apply AH.le.up | (with_reducible refine AH.le.put hw ?_ ?_; · first | omega | (simp only [up_nx, put_nx, kill_nx]; done) | (simp only [up_nx, put_nx, kill_nx]; omega)) | (with_reducible refine AH.le.kill hw ?_ ?_; · first | omega | (simp only [up_nx, put_nx, kill_nx]; done) | (simp only [up_nx, put_nx, kill_nx]; omega)))) (by repeat (first | exact Cl.p _ | exact Cl.dsl _ _ | exact Cl.any | refine Cl.tup ?_ | refine Cl.agg ?_ | exact Clo.nil | refine Clo.cons ?_ ?_)) ⟨rfl, rfl⟩ | exact ⟨fun _ => rt_one hw (by repeat (first | with_reducible assumption | with_reducible exact AH.le.refl _ | with_reducible apply AH.le.up | (with_reducible refine AH.le.put hw ?_ ?_; · first | omega | (simp only [up_nx, put_nx, kill_nx]; done) | (simp only [up_nx, put_nx, kill_nx]; omega)) | (with_reducible refine AH.le.kill hw ?_ ?_; · first | omega | (simp only [up_nx, put_nx, kill_nx]; done) | (simp only [up_nx, put_nx, kill_nx]; omega)))) (by repeat (first | exact Cl.p _ | exact Cl.dsl _ _ | exact Cl.any | refine Cl.tup ?_ | refine Cl.agg ?_ | exact Clo.nil | refine Clo.cons ?_ ?_)) ⟨rfl, rfl⟩, fun e => absurd (by rw [e]; rfl) hz⟩)
    · have hf := ruleB_count (c := x.c) (of := of) (r := x.rule) fun h => hrg ⟨h.1, h.2.1⟩
      rw [hf]
      by_cases h1 : x.rule < 1
      · simp (disch := first | omega | simp) [iv, hlb, hgl, h1]
        exact rt_one hw (by repeat (first | with_reducible assumption | with_reducible exact AH.le.refl _ | with_reducible apply AH.le.up | (with_reducible refine AH.le.put hw ?_ ?_; · first | omega | (simp only [up_nx, put_nx, kill_nx]; done) | (simp only [up_nx, put_nx, kill_nx]; omega)) | (with_reducible refine AH.le.kill hw ?_ ?_; · first | omega | (simp only [up_nx, put_nx, kill_nx]; done) | (simp only [up_nx, put_nx, kill_nx]; omega)))) (by repeat (first | exact Cl.p _ | exact Cl.dsl _ _ | exact Cl.any | refine Cl.tup ?_ | refine Cl.agg ?_ | exact Clo.nil | refine Clo.cons ?_ ?_)) ⟨rfl, rfl⟩
      · have h2 : x.rule > 10 := by omega
        simp (disch := first | omega | simp) [iv, hlb, hgl, h1, h2]
        exact rt_one hw (by repeat (first | with_reducible assumption | with_reducible exact AH.le.refl _ | with_reducible apply AH.le.up | (with_reducible refine AH.le.put hw ?_ ?_; · first | omega | (simp only [up_nx, put_nx, kill_nx]; done) | (simp only [up_nx, put_nx, kill_nx]; omega)) | (with_reducible refine AH.le.kill hw ?_ ?_; · first | omega | (simp only [up_nx, put_nx, kill_nx]; done) | (simp only [up_nx, put_nx, kill_nx]; omega)))) (by repeat (first | exact Cl.p _ | exact Cl.dsl _ _ | exact Cl.any | refine Cl.tup ?_ | refine Cl.agg ?_ | exact Clo.nil | refine Clo.cons ?_ ?_)) ⟨rfl, rfl⟩)
end Go.Proofs.Ytcmnjoepadjioaa

/- Abstract walks of functions, written by a program (wip/aw/aw.py): each equation is checked by the kernel. -/
namespace Go.Proofs.Ytcmnjoepadjioaa
open Go.RowKit

/-! wordhoard/wordhoardlaw.ProveSound -/
def ac_wordhoardlaw_ProveSound : AC := (.seq (.reg 0) (.seq (.reg 1) (.seq (.reg 2) (.seq (.reg 3) (.seq (.seq (.reg 4) (.block 0 (.loop [8, 9] [(18, 32)] (.seq (.seq (.reg 5) (.cond (.tmp 21) .skip (.exit 0))) (.seq (.block 1 (.reg 6)) (.reg 7)))))) (.cut [7] [(32, 38)] (.seq (.reg 8) (.cond (.tmp 34) (.reg 9) (.reg 10))) (.seq (.reg 11) (.seq (.seq (.reg 12) (.block 2 (.loop [10, 11] [(40, 53)] (.seq (.seq (.reg 13) (.cond (.tmp 46) .skip (.exit 2))) (.seq (.block 3 (.reg 14)) (.reg 15)))))) (.seq (.reg 16) .ret)))))))))
def S_wordhoardlaw_ProveSound_L1 (a0 : AV) (a1 : AV) (Q : AV → AH → Prop) (H : AH) (v16 : AV) (v17 : AV) (vs_16 : List AV) (vs_19 : List AV) (k_18 : List AV → AH → Prop) : AH → Prop :=
  Pu Try.prog .len [a1] fun v42 =>
  Pu Try.prog (.bin .lss 3) [(vs_19.getD 1 .any), v42] fun v43 =>
  Gd v43 true (fun k_23 => k_23 (vs_19.getD 0 .any)) fun v45 =>
  Pu Try.prog .pick [v43, v45, (.p (.bool false))] fun v46 =>
  CdA v46
    (
    Ca Try.prog (.fn (.func 15) [] []) [a0, a1, (vs_19.getD 1 .any)] fun v52 =>
    Pu Try.prog (.bin .add 3) [(vs_19.getD 1 .any), (.p (.int .i64 1))] fun v48 =>
    k_18 [v52, v48]
    ) (
    Ca Try.prog (.fn (.func 10) [] []) [] fun v53 =>
    Gd v53 true (fun k_29 => k_29 v17) fun v55 =>
    Gd v53 true (fun k_31 => k_31 (vs_16.getD 0 .any)) fun v56 =>
    Gd v53 true (fun k_33 => Pu Try.prog (.bin .eql 25) [v55, v56] k_33) fun v57 =>
    Pu Try.prog .pick [v53, v57, (.p (.bool false))] fun v58 =>
    Gd v58 true (fun k_36 => k_36 v16) fun v60 =>
    Gd v58 true (fun k_38 => k_38 (vs_19.getD 0 .any)) fun v61 =>
    Gd v58 true (fun k_40 => Pu Try.prog (.bin .eql 4) [v60, v61] k_40) fun v62 =>
    Pu Try.prog .pick [v58, v62, (.p (.bool false))] fun v63 =>
    Rt Try.prog H.nx v63 Q
    )
def S_wordhoardlaw_ProveSound_K2 (a0 : AV) (a1 : AV) (Q : AV → AH → Prop) (H : AH) (v16 : AV) (v17 : AV) (vs_16 : List AV) : AH → Prop :=
  Pu Try.prog (.bin .eql 25) [(vs_16.getD 0 .any), (.p (.int .i64 0))] fun v39 =>
  LoopA Try.prog 2 (S_wordhoardlaw_ProveSound_L1 a0 a1 Q H v16 v17 vs_16) [v39, (.p (.int .i64 0))]
def S_wordhoardlaw_ProveSound_L3 (a0 : AV) (a1 : AV) (Q : AV → AH → Prop) (H : AH) (v16 : AV) (v17 : AV) (vs : List AV) (k : List AV → AH → Prop) : AH → Prop :=
  Pu Try.prog .len [a1] fun v20 =>
  Pu Try.prog (.bin .lss 3) [(vs.getD 1 .any), v20] fun v21 =>
  CdA v21
    (
    Rg 9 fun b =>
    Pu Try.prog (.idx 5) [a1, (vs.getD 1 .any)] fun v27 =>
    Pu Try.prog (.addOff 1) [v27] fun v28 =>
    RdS Try.prog (.ld 3 true) [v28] fun v29 =>
    Al (b + 6) (.bs 24 3 1 [.p (.bool false), .p (.int .i64 0), .p (.int .i64 0)] [(0, 3)]) [v29] fun v30 =>
    WrS Try.prog (b + 7) (.app 24 3 24) [(vs.getD 0 .any), v30] fun v31 =>
    Pu Try.prog (.bin .add 3) [(vs.getD 1 .any), (.p (.int .i64 1))] fun v23 =>
    k [v31, v23]
    ) (
    CutA Try.prog 1 (fun k_15 =>
      Pu Try.prog .len [a1] fun v33 =>
      Pu Try.prog (.bin .gtr 3) [v33, (.p (.int .i64 400))] fun v34 =>
      CdA v34
        (
        k_15 [(.p (.int .i64 7))]
        ) (
        Ca Try.prog (.fn (.func 14) [] []) [a0, (vs.getD 0 .any)] fun v37 =>
        k_15 [v37]
        )
      ) (S_wordhoardlaw_ProveSound_K2 a0 a1 Q H v16 v17)
    )
def S_wordhoardlaw_ProveSound (a0 a1 : AV) (Q : AV → AH → Prop) (H : AH) : Prop := (
    Ca Try.prog (.fn (.func 13) [] []) [a0, a1] fun v15 =>
    Pu Try.prog (.ext 0) [v15] fun v16 =>
    Pu Try.prog (.ext 1) [v15] fun v17 =>
    LoopA Try.prog 2 (S_wordhoardlaw_ProveSound_L3 a0 a1 Q H v16 v17) [(.p (.slice none 0 0)), (.p (.int .i64 0))]
    ) H
theorem eq_wordhoardlaw_ProveSound (a0 a1 : AV) (Q : AV → AH → Prop) (H : AH) : FnA Try.prog 64 (regsF Try.f4) ac_wordhoardlaw_ProveSound [.tm 4] [a0, a1] H Q = S_wordhoardlaw_ProveSound a0 a1 Q H := by kernel_rfl
theorem tri_wordhoardlaw_ProveSound {a0 a1 : AV} {H : AH} {Q : AV → AH → Prop} (h : S_wordhoardlaw_ProveSound a0 a1 Q H) : Tri Try.prog 4 [a0, a1] H Q :=
  tri_of (Ms := [#[], #[], #[], #[], #[], #[], #[], #[], #[], #[], #[], #[], #[], #[], #[], #[], #[]]) mixed Try.func4 rfl (by kernel_rfl) (by kernel_rfl) rfl (of_decide_eq_true rfl : 2 ≤ 64) ((eq_wordhoardlaw_ProveSound a0 a1 Q H).symm ▸ h : FnA Try.prog 64 (regsF Try.f4) ac_wordhoardlaw_ProveSound [.tm 4] [a0, a1] H Q)

/-! wordhoard/wordhoardlaw.ProveArgues -/
def ac_wordhoardlaw_ProveArgues : AC := (.seq (.reg 0) (.seq (.reg 1) (.seq (.reg 2) (.seq (.reg 3) (.seq (.seq (.reg 4) (.cond (.tmp 44) (.seq (.reg 5) .ret) .skip)) (.seq (.seq (.reg 6) (.cond (.tmp 46) (.seq (.reg 7) .ret) .skip)) (.seq (.reg 8) (.seq (.seq (.reg 9) (.cond (.tmp 88) (.seq (.reg 10) .ret) .skip)) (.seq (.seq (.reg 11) (.cond (.tmp 90) (.seq (.seq (.reg 12) (.cond (.tmp 98) (.seq (.reg 13) .ret) .skip)) (.seq (.seq (.reg 14) (.block 0 (.loop [13] [(4, 5), (99, 112)] (.seq (.seq (.reg 15) (.cond (.tmp 102) .skip (.exit 0))) (.seq (.block 1 (.seq (.reg 16) (.cond (.tmp 111) (.seq (.reg 17) .ret) .skip))) (.reg 18)))))) (.seq (.reg 19) .ret))) .skip)) (.seq (.seq (.reg 20) (.cond (.tmp 130) (.seq (.reg 21) .ret) .skip)) (.seq (.seq (.reg 22) (.block 2 (.loop [14] [(4, 5), (131, 151)] (.seq (.seq (.reg 23) (.cond (.tmp 134) .skip (.exit 2))) (.seq (.block 3 (.seq (.reg 24) (.cond (.tmp 150) (.seq (.reg 25) .ret) .skip))) (.reg 26)))))) (.seq (.reg 27) .ret))))))))))))
def S_wordhoardlaw_ProveArgues_L1 (a0 : AV) (Q : AV → AH → Prop) (H : AH) (v26 : AV) (vs : List AV) (k_101 : List AV → AH → Prop) : AH → Prop :=
  Pu Try.prog .len [a0] fun v101 =>
  Pu Try.prog (.bin .lss 3) [(vs.getD 0 .any), v101] fun v102 =>
  CdA v102
    (
    Pu Try.prog (.idx 3) [a0, (vs.getD 0 .any)] fun v108 =>
    RdS Try.prog (.ld 3 true) [v108] fun v109 =>
    Ca Try.prog (.fn (.func 12) [] []) [v26, v109] fun v110 =>
    Pu Try.prog (.un .not) [v110] fun v111 =>
    CdA v111
      (
      Rt Try.prog H.nx (.p (.bool false)) Q
      ) (
      Pu Try.prog (.bin .add 3) [(vs.getD 0 .any), (.p (.int .i64 1))] fun v104 =>
      k_101 [v104]
      )
    ) (
    Rt Try.prog H.nx (.p (.bool true)) Q
    )
def S_wordhoardlaw_ProveArgues_L2 (a0 : AV) (Q : AV → AH → Prop) (H : AH) (v19 : AV) (vs_152 : List AV) (k_151 : List AV → AH → Prop) : AH → Prop :=
  Pu Try.prog .len [v19] fun v133 =>
  Pu Try.prog (.bin .lss 3) [(vs_152.getD 0 .any), v133] fun v134 =>
  CdA v134
    (
    Pu Try.prog (.idx 5) [v19, (vs_152.getD 0 .any)] fun v139 =>
    Pu Try.prog (.addOff 1) [v139] fun v140 =>
    RdS Try.prog (.ld 3 true) [v140] fun v141 =>
    Ca Try.prog (.fn (.func 9) [] []) [v141] fun v142 =>
    Pu Try.prog (.bin .neq 25) [v142, (.p (.int .i64 0))] fun v143 =>
    Gd v143 false (fun k_161 => k_161 a0) fun v145 =>
    Gd v143 false (fun k_163 => k_163 v19) fun v146 =>
    Gd v143 false (fun k_165 => k_165 (vs_152.getD 0 .any)) fun v147 =>
    Gd v143 false (fun k_167 => Ca Try.prog (.fn (.func 15) [] []) [v145, v146, v147] k_167) fun v148 =>
    Gd v143 false (fun k_169 => Pu Try.prog (.un .not) [v148] k_169) fun v149 =>
    Pu Try.prog .pick [v143, (.p (.bool true)), v149] fun v150 =>
    CdA v150
      (
      Rt Try.prog H.nx (.p (.bool false)) Q
      ) (
      Pu Try.prog (.bin .add 3) [(vs_152.getD 0 .any), (.p (.int .i64 1))] fun v136 =>
      k_151 [v136]
      )
    ) (
    Rt Try.prog H.nx (.p (.bool true)) Q
    )
def S_wordhoardlaw_ProveArgues_C3 (a0 : AV) (Q : AV → AH → Prop) (H : AH) (v3 : AV) (v19 : AV) : AH → Prop :=
  Vw fun V =>
  Pu Try.prog .len [v19] fun v113 =>
  Pu Try.prog (.bin .eql 3) [v113, (.p (.int .i64 0))] fun v114 =>
  GdV v114 false (fun k_114 => k_114 v19 V) V fun v116 V_115 =>
  GdV v114 false (fun k_117 => Pu Try.prog .len [v116] (fun a => k_117 a V_115)) V_115 fun v117 V_118 =>
  GdV v114 false (fun k_120 => Pu Try.prog (.bin .gtr 3) [v117, (.p (.int .i64 400))] (fun a => k_120 a V_118)) V_118 fun v118 V_121 =>
  Pu Try.prog .pick [v114, (.p (.bool true)), v118] fun v119 =>
  GdV v119 false (fun k_124 => k_124 v19 V_121) V_121 fun v121 V_125 =>
  GdV v119 false (fun k_127 => k_127 v19 V_125) V_125 fun v122 V_128 =>
  GdV v119 false (fun k_130 => Pu Try.prog .len [v122] (fun a => k_130 a V_128)) V_128 fun v123 V_131 =>
  GdV v119 false (fun k_133 => Pu Try.prog (.bin .sub 3) [v123, (.p (.int .i64 1))] (fun a => k_133 a V_131)) V_131 fun v124 V_134 =>
  GdV v119 false (fun k_136 => Pu Try.prog (.idx 5) [v121, v124] (fun a => k_136 a V_134)) V_134 fun v125 V_137 =>
  GdV v119 false (fun k_139 => Pu Try.prog (.addOff 1) [v125] (fun a => k_139 a V_137)) V_137 fun v126 V_140 =>
  GdV v119 false (fun k_142 => Rd Try.prog V_140 (.ld 3 true) [v126] (fun a => k_142 a V_140)) V_140 fun v127 V_143 =>
  GdV v119 false (fun k_145 => Rd Try.prog V_143 (.ld 3 true) [v3] (fun a => k_145 a V_143)) V_143 fun v128 V_146 =>
  GdV v119 false (fun k_148 => Pu Try.prog (.bin .neq 24) [v127, v128] (fun a => k_148 a V_146)) V_146 fun v129 _ =>
  Pu Try.prog .pick [v119, (.p (.bool true)), v129] fun v130 =>
  CdA v130
    (
    Rt Try.prog H.nx (.p (.bool false)) Q
    ) (
    LoopA Try.prog 1 (S_wordhoardlaw_ProveArgues_L2 a0 Q H v19) [(.p (.int .i64 0))]
    )
def S_wordhoardlaw_ProveArgues_C4 (a0 : AV) (Q : AV → AH → Prop) (H : AH) (v3 : AV) (v19 : AV) (v20 : AV) (v26 : AV) (v27 : AV) : AH → Prop :=
  RdS Try.prog (.ld 3 true) [v3] fun v62 =>
  Ca Try.prog (.fn (.func 18) [] []) [a0, v62] fun v63 =>
  Pu Try.prog (.bin .neq 4) [v20, v63] fun v66 =>
  Gd v66 false (fun k_57 => k_57 v27) fun v68 =>
  Gd v66 false (fun k_59 => k_59 v63) fun v69 =>
  Gd v66 false (fun k_61 => Pu Try.prog (.bin .eql 4) [v68, v69] k_61) fun v70 =>
  Pu Try.prog .pick [v66, (.p (.bool true)), v70] fun v71 =>
  Gd v71 false (fun k_64 => k_64 v63) fun v73 =>
  Gd v71 false (fun k_66 => k_66 v73) fun v74 =>
  Gd v74 true (fun k_68 => k_68 v26) fun v75 =>
  Gd v74 true (fun k_70 => Pu Try.prog .len [v75] k_70) fun v76 =>
  Gd v74 true (fun k_72 => Pu Try.prog (.bin .gtr 3) [v76, (.p (.int .i64 0))] k_72) fun v77 =>
  Gd v71 false (fun k_74 => Pu Try.prog .pick [v74, v77, (.p (.bool false))] k_74) fun v78 =>
  Pu Try.prog .pick [v71, (.p (.bool true)), v78] fun v79 =>
  Gd v79 false (fun k_77 => k_77 v63) fun v81 =>
  Gd v79 false (fun k_79 => Pu Try.prog (.un .not) [v81] k_79) fun v82 =>
  Gd v79 false (fun k_81 => k_81 v82) fun v83 =>
  Gd v83 true (fun k_83 => k_83 v19) fun v84 =>
  Gd v83 true (fun k_85 => Pu Try.prog .len [v84] k_85) fun v85 =>
  Gd v83 true (fun k_87 => Pu Try.prog (.bin .gtr 3) [v85, (.p (.int .i64 0))] k_87) fun v86 =>
  Gd v79 false (fun k_89 => Pu Try.prog .pick [v83, v86, (.p (.bool false))] k_89) fun v87 =>
  Pu Try.prog .pick [v79, (.p (.bool true)), v87] fun v88 =>
  CdA v88
    (
    Rt Try.prog H.nx (.p (.bool false)) Q
    ) (
    Pu Try.prog (.un .not) [v63] fun v90 =>
    CdA v90
      (
      Ca Try.prog (.fn (.func 8) [] []) [v26] fun v92 =>
      Pu Try.prog (.bin .neq 25) [v92, (.p (.int .i64 0))] fun v93 =>
      Gd v93 false (fun k_95 => k_95 v26) fun v95 =>
      Gd v93 false (fun k_97 => RdS Try.prog (.ld 3 true) [v3] k_97) fun v96 =>
      Gd v93 false (fun k_99 => Ca Try.prog (.fn (.func 12) [] []) [v95, v96] k_99) fun v97 =>
      Pu Try.prog .pick [v93, (.p (.bool true)), v97] fun v98 =>
      CdA v98
        (
        Rt Try.prog H.nx (.p (.bool false)) Q
        ) (
        LoopA Try.prog 1 (S_wordhoardlaw_ProveArgues_L1 a0 Q H v26) [(.p (.int .i64 0))]
        )
      ) (S_wordhoardlaw_ProveArgues_C3 a0 Q H v3 v19)
    )
def S_wordhoardlaw_ProveArgues (a0 a1 : AV) (Q : AV → AH → Prop) (H : AH) : Prop := (
    Rg 2 fun b =>
    Al (b + 0) (.bx 24) [a1] fun v3 =>
    RdS Try.prog (.ld 3 true) [v3] fun v17 =>
    Ca Try.prog (.fn (.func 16) [] []) [a0, v17] fun v18 =>
    Pu Try.prog (.ext 0) [v18] fun v19 =>
    Pu Try.prog (.ext 1) [v18] fun v20 =>
    Pu Try.prog (.ext 2) [v18] fun v21 =>
    RdS Try.prog (.ld 3 true) [v3] fun v24 =>
    Ca Try.prog (.fn (.func 17) [] []) [a0, v24] fun v25 =>
    Pu Try.prog (.ext 0) [v25] fun v26 =>
    Pu Try.prog (.ext 1) [v25] fun v27 =>
    Pu Try.prog (.ext 2) [v25] fun v28 =>
    Rg 5 fun b_13 =>
    RdS Try.prog (.ld 3 true) [v3] fun v30 =>
    Al (b_13 + 2) (.bs 24 3 1 [.p (.bool false), .p (.int .i64 0), .p (.int .i64 0)] [(0, 3)]) [v30] fun v31 =>
    Ca Try.prog (.fn (.func 14) [] []) [a0, v31] fun v32 =>
    Ca Try.prog (.fn (.func 10) [] []) [] fun v33 =>
    Pu Try.prog (.un .not) [v33] fun v34 =>
    Gd v34 false (fun k => k v21) fun v36 =>
    Gd v34 false (fun k_22 => k_22 v32) fun v37 =>
    Gd v34 false (fun k_24 => Pu Try.prog (.bin .neq 25) [v36, v37] k_24) fun v38 =>
    Pu Try.prog .pick [v34, (.p (.bool true)), v38] fun v39 =>
    Gd v39 false (fun k_27 => k_27 v28) fun v41 =>
    Gd v39 false (fun k_29 => k_29 v32) fun v42 =>
    Gd v39 false (fun k_31 => Pu Try.prog (.bin .neq 25) [v41, v42] k_31) fun v43 =>
    Pu Try.prog .pick [v39, (.p (.bool true)), v43] fun v44 =>
    CdA v44
      (
      Rt Try.prog H.nx (.p (.bool false)) Q
      ) (
      Pu Try.prog (.bin .neq 25) [v32, (.p (.int .i64 0))] fun v46 =>
      CdA v46
        (
        Pu Try.prog (.un .not) [v20] fun v48 =>
        Gd v48 true (fun k_36 => k_36 v27) fun v50 =>
        Gd v48 true (fun k_38 => Pu Try.prog (.un .not) [v50] k_38) fun v51 =>
        Pu Try.prog .pick [v48, v51, (.p (.bool false))] fun v52 =>
        Gd v52 true (fun k_41 => k_41 v19) fun v54 =>
        Gd v52 true (fun k_43 => Pu Try.prog .len [v54] k_43) fun v55 =>
        Gd v52 true (fun k_45 => k_45 v26) fun v56 =>
        Gd v52 true (fun k_47 => Pu Try.prog .len [v56] k_47) fun v57 =>
        Gd v52 true (fun k_49 => Pu Try.prog (.bin .add 3) [v55, v57] k_49) fun v58 =>
        Gd v52 true (fun k_51 => Pu Try.prog (.bin .eql 3) [v58, (.p (.int .i64 0))] k_51) fun v59 =>
        Pu Try.prog .pick [v52, v59, (.p (.bool false))] fun v60 =>
        Rt Try.prog H.nx v60 Q
        ) (S_wordhoardlaw_ProveArgues_C4 a0 Q H v3 v19 v20 v26 v27)
      )
    ) H
theorem eq_wordhoardlaw_ProveArgues (a0 a1 : AV) (Q : AV → AH → Prop) (H : AH) : FnA Try.prog 151 (regsF Try.f5) ac_wordhoardlaw_ProveArgues [.tm 4] [a0, a1] H Q = S_wordhoardlaw_ProveArgues a0 a1 Q H := by kernel_rfl
theorem tri_wordhoardlaw_ProveArgues {a0 a1 : AV} {H : AH} {Q : AV → AH → Prop} (h : S_wordhoardlaw_ProveArgues a0 a1 Q H) : Tri Try.prog 5 [a0, a1] H Q :=
  tri_of (Ms := [#[], #[], #[], #[], #[], #[], #[], #[], #[], #[], #[], #[], #[], #[], #[], #[], #[], #[], #[], #[], #[0, 1, 3, 7, 15, 31, 63, 127, 255, 511, 511, 1535, 3583, 8191, 16383, 32767, 511, 131071, 262143], #[], #[], #[], #[], #[], #[], #[]]) mixed Try.func5 rfl (by kernel_rfl) (by kernel_rfl) rfl (of_decide_eq_true rfl : 2 ≤ 151) ((eq_wordhoardlaw_ProveArgues a0 a1 Q H).symm ▸ h : FnA Try.prog 151 (regsF Try.f5) ac_wordhoardlaw_ProveArgues [.tm 4] [a0, a1] H Q)

/-! wordhoard/wordhoardlaw.ProveComplete -/
def ac_wordhoardlaw_ProveComplete : AC := (.seq (.reg 0) (.seq (.seq (.reg 1) (.cond (.tmp 26) (.seq (.reg 2) .ret) .skip)) (.seq (.reg 3) (.seq (.reg 4) (.seq (.seq (.reg 5) (.cond (.tmp 42) (.seq (.reg 6) .ret) .skip)) (.seq (.seq (.reg 7) (.cond (.tmp 52) (.seq (.reg 8) .ret) .skip)) (.seq (.reg 9) (.cut [15] [(8, 9), (16, 18), (54, 84)] (.seq (.reg 10) (.cond (.tmp 54) (.seq (.reg 11) (.seq (.seq (.reg 12) (.cond (.tmp 82) (.seq (.reg 13) .ret) .skip)) (.reg 14))) .skip)) (.seq (.reg 15) (.seq (.seq (.reg 16) (.block 0 (.loop [18, 19] [(8, 9), (20, 22), (84, 106)] (.seq (.seq (.reg 17) (.cond (.tmp 87) .skip (.exit 0))) (.seq (.block 1 (.seq (.reg 18) (.seq (.seq (.reg 19) (.cond (.tmp 100) (.seq (.reg 20) .ret) .skip)) (.reg 21)))) (.reg 22)))))) (.seq (.reg 23) (.seq (.seq (.reg 24) (.cond (.tmp 113) (.seq (.reg 25) .ret) .skip)) (.seq (.seq (.reg 26) (.cond (.tmp 132) (.seq (.reg 27) .ret) .skip)) (.seq (.reg 28) (.seq (.reg 29) .ret)))))))))))))))
def S_wordhoardlaw_ProveComplete_C1 (a0 : AV) (Q : AV → AH → Prop) (H : AH) (v5 : AV) (v7 : AV) (v32 : AV) (v39 : AV) (vs_29 : List AV) (v110 : AV) : AH → Prop :=
  Gd v32 true (fun k_48 => k_48 (vs_29.getD 0 .any)) fun v117 =>
  Pu Try.prog .pick [v32, v117, (.p (.bool false))] fun v118 =>
  Gd v118 true (fun k_51 => k_51 v110) fun v120 =>
  Gd v118 true (fun k_53 => Pu Try.prog (.un .not) [v120] k_53) fun v121 =>
  Pu Try.prog .pick [v118, v121, (.p (.bool false))] fun v122 =>
  Gd v122 false (fun k_56 => k_56 v39) fun v124 =>
  Gd v122 false (fun k_58 => k_58 v124) fun v125 =>
  Gd v125 true (fun k_60 => k_60 (vs_29.getD 0 .any)) fun v126 =>
  Gd v125 true (fun k_62 => Pu Try.prog (.un .not) [v126] k_62) fun v127 =>
  Gd v125 true (fun k_64 => k_64 v127) fun v128 =>
  Gd v128 false (fun k_66 => k_66 v110) fun v129 =>
  Gd v125 true (fun k_68 => Pu Try.prog .pick [v128, (.p (.bool true)), v129] k_68) fun v130 =>
  Gd v122 false (fun k_70 => Pu Try.prog .pick [v125, v130, (.p (.bool false))] k_70) fun v131 =>
  Pu Try.prog .pick [v122, (.p (.bool true)), v131] fun v132 =>
  CdA v132
    (
    Rt Try.prog H.nx (.p (.bool false)) Q
    ) (
    Rg 15 fun b_72 =>
    Vw fun V =>
    Al (b_72 + 0) (.bs 24 3 0 [.p (.bool false), .p (.int .i64 0), .p (.int .i64 0)] []) [] fun v134 =>
    WrF V (some (b_72 + 0)) none (b_72 + 2) (.app 24 3 24) [v134, a0] fun v136 =>
    Rd Try.prog V (.ld 3 true) [v7] fun v137 =>
    Al (b_72 + 4) (.bs 24 3 1 [.p (.bool false), .p (.int .i64 0), .p (.int .i64 0)] [(0, 3)]) [v137] fun v138 =>
    WrF V (some (b_72 + 2)) (some (b_72 + 4)) (b_72 + 5) (.app 24 3 24) [v136, v138] fun v139 =>
    Rd Try.prog V (.ld 3 true) [v5] fun v140 =>
    CaN Try.prog V [(b_72 + 5)] (.fn (.func 16) [] []) [v139, v140] fun v141 =>
    Pu Try.prog (.ext 0) [v141] fun _ =>
    Pu Try.prog (.ext 1) [v141] fun v143 =>
    Pu Try.prog (.ext 2) [v141] fun v144 =>
    Pu Try.prog (.bin .neq 25) [v144, (.p (.int .i64 0))] fun v146 =>
    Gd v146 false (fun k_86 => k_86 v143) fun v148 =>
    Pu Try.prog .pick [v146, (.p (.bool true)), v148] fun v149 =>
    Gd v149 false (fun k_89 => k_89 v32) fun v151 =>
    Gd v149 false (fun k_91 => Pu Try.prog (.un .not) [v151] k_91) fun v152 =>
    Pu Try.prog .pick [v149, (.p (.bool true)), v152] fun v153 =>
    Rt Try.prog H.nx v153 Q
    )
def S_wordhoardlaw_ProveComplete_L2 (a0 : AV) (Q : AV → AH → Prop) (H : AH) (v5 : AV) (v7 : AV) (v32 : AV) (v39 : AV) (vs : List AV) (vs_29 : List AV) (k_28 : List AV → AH → Prop) : AH → Prop :=
  Pu Try.prog .len [a0] fun v86 =>
  Pu Try.prog (.bin .lss 3) [(vs_29.getD 1 .any), v86] fun v87 =>
  CdA v87
    (
    Pu Try.prog (.idx 3) [a0, (vs_29.getD 1 .any)] fun v94 =>
    RdS Try.prog (.ld 3 true) [v94] fun v95 =>
    Ca Try.prog (.fn (.func 7) [] []) [(vs.getD 0 .any), v95] fun v96 =>
    Pu Try.prog (.ext 0) [v96] fun v97 =>
    Pu Try.prog (.ext 1) [v96] fun v98 =>
    Pu Try.prog (.bin .neq 25) [v98, (.p (.int .i64 0))] fun v100 =>
    CdA v100
      (
      Rt Try.prog H.nx v32 Q
      ) (
      Gd (vs_29.getD 0 .any) true (fun k_39 => k_39 v97) fun v104 =>
      Pu Try.prog .pick [(vs_29.getD 0 .any), v104, (.p (.bool false))] fun v105 =>
      Pu Try.prog (.bin .add 3) [(vs_29.getD 1 .any), (.p (.int .i64 1))] fun v89 =>
      k_28 [v105, v89]
      )
    ) (
    RdS Try.prog (.ld 3 true) [v5] fun v108 =>
    Ca Try.prog (.fn (.func 7) [] []) [(vs.getD 0 .any), v108] fun v109 =>
    Pu Try.prog (.ext 0) [v109] fun v110 =>
    Pu Try.prog (.ext 1) [v109] fun v111 =>
    Pu Try.prog (.bin .neq 25) [v111, (.p (.int .i64 0))] fun v113 =>
    CdA v113
      (
      Rt Try.prog H.nx v32 Q
      ) (S_wordhoardlaw_ProveComplete_C1 a0 Q H v5 v7 v32 v39 vs_29 v110)
    )
def S_wordhoardlaw_ProveComplete_K3 (a0 : AV) (Q : AV → AH → Prop) (H : AH) (v5 : AV) (v7 : AV) (v32 : AV) (v39 : AV) (vs : List AV) : AH → Prop :=
  LoopA Try.prog 2 (S_wordhoardlaw_ProveComplete_L2 a0 Q H v5 v7 v32 v39 vs) [(.p (.bool true)), (.p (.int .i64 0))]
def S_wordhoardlaw_ProveComplete_C4 (a0 : AV) (a2 : AV) (Q : AV → AH → Prop) (H : AH) (v5 : AV) (v31 : AV) (k_26 : List AV → AH → Prop) : AH → Prop :=
  Ca Try.prog (.fn (.func 13) [] []) [a0, v31] fun v58 =>
  Pu Try.prog (.ext 0) [v58] fun v59 =>
  Pu Try.prog (.ext 1) [v58] fun v60 =>
  Vw fun V_96 =>
  Pu Try.prog (.bin .neq 25) [v60, (.p (.int .i64 0))] fun v62 =>
  GdV v62 false (fun k_99 => k_99 v59 V_96) V_96 fun v64 V_100 =>
  GdV v62 false (fun k_102 => Pu Try.prog (.un .not) [v64] (fun a => k_102 a V_100)) V_100 fun v65 V_103 =>
  Pu Try.prog .pick [v62, (.p (.bool true)), v65] fun v66 =>
  GdV v66 false (fun k_106 => k_106 v31 V_103) V_103 fun v68 V_107 =>
  GdV v66 false (fun k_109 => Pu Try.prog .len [v68] (fun a => k_109 a V_107)) V_107 fun v69 V_110 =>
  GdV v66 false (fun k_112 => Pu Try.prog (.bin .eql 3) [v69, (.p (.int .i64 0))] (fun a => k_112 a V_110)) V_110 fun v70 V_113 =>
  Pu Try.prog .pick [v66, (.p (.bool true)), v70] fun v71 =>
  GdV v71 false (fun k_116 => k_116 v31 V_113) V_113 fun v73 V_117 =>
  GdV v71 false (fun k_119 => k_119 v31 V_117) V_117 fun v74 V_120 =>
  GdV v71 false (fun k_122 => Pu Try.prog .len [v74] (fun a => k_122 a V_120)) V_120 fun v75 V_123 =>
  GdV v71 false (fun k_125 => Pu Try.prog (.bin .sub 3) [v75, (.p (.int .i64 1))] (fun a => k_125 a V_123)) V_123 fun v76 V_126 =>
  GdV v71 false (fun k_128 => Pu Try.prog (.idx 5) [v73, v76] (fun a => k_128 a V_126)) V_126 fun v77 V_129 =>
  GdV v71 false (fun k_131 => Pu Try.prog (.addOff 1) [v77] (fun a => k_131 a V_129)) V_129 fun v78 V_132 =>
  GdV v71 false (fun k_134 => Rd Try.prog V_132 (.ld 3 true) [v78] (fun a => k_134 a V_132)) V_132 fun v79 V_135 =>
  GdV v71 false (fun k_137 => Rd Try.prog V_135 (.ld 3 true) [v5] (fun a => k_137 a V_135)) V_135 fun v80 V_138 =>
  GdV v71 false (fun k_140 => Pu Try.prog (.bin .neq 24) [v79, v80] (fun a => k_140 a V_138)) V_138 fun v81 _ =>
  Pu Try.prog .pick [v71, (.p (.bool true)), v81] fun v82 =>
  CdA v82
    (
    Rt Try.prog H.nx (.p (.bool false)) Q
    ) (
    k_26 [a2]
    )
def S_wordhoardlaw_ProveComplete_C5 (a0 : AV) (a2 : AV) (Q : AV → AH → Prop) (H : AH) (v5 : AV) (v7 : AV) : AH → Prop :=
  RdS Try.prog (.ld 3 true) [v5] fun v29 =>
  Ca Try.prog (.fn (.func 16) [] []) [a0, v29] fun v30 =>
  Pu Try.prog (.ext 0) [v30] fun v31 =>
  Pu Try.prog (.ext 1) [v30] fun v32 =>
  Pu Try.prog (.ext 2) [v30] fun v33 =>
  RdS Try.prog (.ld 3 true) [v5] fun v36 =>
  Ca Try.prog (.fn (.func 17) [] []) [a0, v36] fun v37 =>
  Pu Try.prog (.ext 0) [v37] fun v38 =>
  Pu Try.prog (.ext 1) [v37] fun v39 =>
  Pu Try.prog (.ext 2) [v37] fun v40 =>
  Pu Try.prog (.bin .neq 25) [v33, (.p (.int .i64 0))] fun v42 =>
  CdA v42
    (
    Pu Try.prog (.bin .eql 25) [v40, v33] fun v45 =>
    Rt Try.prog H.nx v45 Q
    ) (
    Pu Try.prog (.bin .neq 25) [v40, (.p (.int .i64 0))] fun v47 =>
    Gd v47 false (fun k => k v32) fun v49 =>
    Gd v47 false (fun k_22 => k_22 v39) fun v50 =>
    Gd v47 false (fun k_24 => Pu Try.prog (.bin .eql 4) [v49, v50] k_24) fun v51 =>
    Pu Try.prog .pick [v47, (.p (.bool true)), v51] fun v52 =>
    CdA v52
      (
      Rt Try.prog H.nx (.p (.bool false)) Q
      ) (
      CutA Try.prog 1 (fun k_26 =>
        CdA v32
          (S_wordhoardlaw_ProveComplete_C4 a0 a2 Q H v5 v31 k_26) (
          k_26 [v38]
          )
        ) (S_wordhoardlaw_ProveComplete_K3 a0 Q H v5 v7 v32 v39)
      )
    )
def S_wordhoardlaw_ProveComplete (a0 a1 a2 a3 : AV) (Q : AV → AH → Prop) (H : AH) : Prop := (
    Rg 3 fun b =>
    Al (b + 0) (.bx 24) [a1] fun v5 =>
    Al (b + 1) (.bx 24) [a3] fun v7 =>
    Ca Try.prog (.fn (.func 10) [] []) [] fun v25 =>
    Pu Try.prog (.un .not) [v25] fun v26 =>
    CdA v26
      (
      Rt Try.prog H.nx (.p (.bool false)) Q
      ) (S_wordhoardlaw_ProveComplete_C5 a0 a2 Q H v5 v7)
    ) H
theorem eq_wordhoardlaw_ProveComplete (a0 a1 a2 a3 : AV) (Q : AV → AH → Prop) (H : AH) : FnA Try.prog 154 (regsF Try.f6) ac_wordhoardlaw_ProveComplete [.tm 8] [a0, a1, a2, a3] H Q = S_wordhoardlaw_ProveComplete a0 a1 a2 a3 Q H := by kernel_rfl
theorem tri_wordhoardlaw_ProveComplete {a0 a1 a2 a3 : AV} {H : AH} {Q : AV → AH → Prop} (h : S_wordhoardlaw_ProveComplete a0 a1 a2 a3 Q H) : Tri Try.prog 6 [a0, a1, a2, a3] H Q :=
  tri_of (Ms := [#[], #[], #[], #[], #[], #[], #[], #[], #[], #[], #[], #[], #[0, 1, 3, 7, 15, 31, 63, 127, 255, 511, 1023, 2047, 4095, 4095, 12287, 28671, 65535, 131071, 262143, 4095, 1048575, 2097151], #[], #[], #[], #[], #[], #[], #[], #[], #[], #[], #[], #[], #[], #[], #[], #[0, 0, 3, 0, 8, 31, 0, 127, 255, 511, 511, 511, 1023, 6143, 16383], #[]]) mixed Try.func6 rfl (by kernel_rfl) (by kernel_rfl) rfl (of_decide_eq_true rfl : 4 ≤ 154) ((eq_wordhoardlaw_ProveComplete a0 a1 a2 a3 Q H).symm ▸ h : FnA Try.prog 154 (regsF Try.f6) ac_wordhoardlaw_ProveComplete [.tm 8] [a0, a1, a2, a3] H Q)
end Go.Proofs.Ytcmnjoepadjioaa

/- The law ProveArgues, walked. -/
namespace Go.Proofs.Ytcmnjoepadjioaa
open Go.RowKit Go.Maps
theorem pc_begun {H : AH} : Tri Try.prog 10 [] H (fun v H' => H' = H ∧ v = bv true) := c_begun H
theorem right_len {p cs : List Clm} {n : Nat} {x : Lin} (h : rightB p cs n x = true) : x.src.length ≤ 2 := by
  unfold rightB at h
  split at h
  · rename_i of hof
    have hl : of.length = x.src.length := by
      split at hof
      · exact pickC_len hof
      · exact pickC_len hof
    have : 1 ≤ x.rule ∧ x.rule ≤ 10 ∧ of.length = countR x.rule := Decidable.byContradiction fun hc => by rw [ruleB_count hc] at h; cases h
    rw [← hl, this.2.2]
    unfold countR
    split
    · omega
    · split <;> omega
  · cases h
theorem okW_nI {L : List Nat} (h1 : L.length ≤ 64) (h2 : ∀ w ∈ L, w < 64) : okW (nI L) = 0 := by
  unfold okW
  rw [if_neg (by simp [nI]; omega), if_pos]
  rw [List.all_eq_true]; intro x hx; simpa using nI_in h2 x hx
theorem agW_len (p : List Clm) (c : Clm) : (agW p c).length ≤ 64 := by
  have h1 : (mayL p).length ≤ 64 := by
    have := List.length_filter_le (mayB p) (List.range 64)
    rw [List.length_range] at this
    exact this
  unfold agW
  split
  · exact Nat.le_trans (List.length_filter_le _ _) h1
  · exact h1
theorem c_ProveArgues (p : List Clm) (c : Clm) (H : AH) : Tri Try.prog 5 [cE p, c.av] H (fun r _ => r = .p (.bool true)) := tri_wf fun hw => tri_wordhoardlaw_ProveArgues (by
  unfold S_wordhoardlaw_ProveArgues
  simp (disch := first | omega | simp) [put_get_ne, Clm.av, Clm.cs]
  refine ca_of (by kernel_rfl) (c_Argue p c _) ?_
  rintro r H1 ⟨rfl, har⟩
  rcases har with ⟨hne, rfl⟩ | ⟨h0, hag, out, rfl, har, hoo, hol, init, y, hout, hyc⟩ | ⟨h0, hag, rfl⟩
  · have hag : agR p c = .tup [.p (.slice none 0 0), bv false, iv (okP p [c])] := by unfold agR; rw [if_pos hne]
    simp (disch := first | omega | simp) [put_get_ne]
    refine ca_pure (by kernel_rfl) (c_Against p c _) ?_
    rw [hag]
    simp (disch := first | omega | simp) [put_get_ne]
    refine ca_row (ps := [cE p]) (qs := []) (es := [c].map Clm.cs) (by kernel_rfl) (put_get _ _) (dt_cs [c]) rfl (c_RCheckClaims p [c] (by simp) _) ?_
    rintro _ H2 ⟨rfl, rfl⟩
    refine ca_pure (by kernel_rfl) (pc_begun) ?_
    simp (disch := first | omega | simp) [iv, bv, hne]
    exact rt_refl rfl (by first | omega | (simp only [up_nx, put_nx, kill_nx]; done) | (simp only [up_nx, put_nx, kill_nx]; omega))
  · have hok := okP_zero h0
    have hpo : ∀ q ∈ p, q.ok := fun q hq => hok.2 q (List.mem_append_left _ hq)
    have hco : c.ok := hok.2 c (by simp)
    have hagr : agR p c = .tup [.p (.slice none 0 0), bv false, iv 0] := by unfold agR; rw [if_neg (by rw [h0]; decide), hag]; rfl
    simp (disch := first | omega | simp) [put_get_ne]
    refine ca_pure (by kernel_rfl) (c_Against p c _) ?_
    rw [hagr]
    simp (disch := first | omega | simp) [put_get_ne]
    refine ca_row (ps := [cE p]) (qs := []) (es := [c].map Clm.cs) (by kernel_rfl) (put_get _ _) (dt_cs [c]) rfl (c_RCheckClaims p [c] (by simp) _) ?_
    rintro _ H2 ⟨rfl, rfl⟩
    refine ca_pure (by kernel_rfl) (pc_begun) ?_
    rw [h0]
    simp (disch := first | omega | simp) [iv, bv, put_get_ne]
    unfold S_wordhoardlaw_ProveArgues_C4
    simp (disch := first | omega | simp) [iv, bv, put_get_ne]
    refine ca_pure (by kernel_rfl) (c_RFollows p c hok.1 hpo hco _) ?_
    rw [hag]
    simp (disch := first | omega | simp) [iv, bv, put_get_ne]
    obtain ⟨n, hn⟩ : ∃ n, out.length = n + 1 := ⟨init.length, by rw [hout]; simp⟩
    have hlast : out[n]? = some y := by
      rw [hout] at hn ⊢
      simp at hn
      rw [List.getElem?_append_right (by omega)]; simp [hn]
    have hlg : ∀ h, out[n]'h = y := fun h => (List.getElem?_eq_some_iff.1 hlast).2
    have hnl : n < out.length := by omega
    unfold S_wordhoardlaw_ProveArgues_C3
    have hz : ¬ ((n : Int) + 1 = 0) := by omega
    have h400 : ¬ (400 < (n : Int) + 1) := by omega
    have hwn : IntKind.i64.wrap (n : Int) = (n : Int) := by rw [IntKind.wrap_i64]; omega
    simp (disch := first | omega | simp) [iv, bv, put_get_ne, hn, hz, h400, hwn, hlg, Lin.cs]
    refine ⟨by omega, q_neClm (c := y.c) (d := c) ?_⟩
    simp (disch := first | omega | simp) [hyc]
    refine loop_st (fun i : Nat => [iv i]) (fun i H' => i ≤ out.length ∧ H.nx ≤ H'.nx) (fun i => out.length - i) 0 (.refl (Nat.le_refl _)) ⟨Nat.zero_le _, (by first | omega | (simp only [up_nx, put_nx, kill_nx]; done) | (simp only [up_nx, put_nx, kill_nx]; omega))⟩ ?_
    rintro i H3 hn3 ⟨hi, hnx⟩ k hk
    unfold S_wordhoardlaw_ProveArgues_L2
    by_cases hil : i < out.length
    · obtain ⟨z, hz⟩ : ∃ z, out[i]? = some z := ⟨_, List.getElem?_eq_getElem hil⟩
      have hzg : ∀ h, out[i]'h = z := fun h => (List.getElem?_eq_some_iff.1 hz).2
      have hiv := ivn (i := i) (by omega)
      have hzo := hoo z (List.mem_of_getElem? hz)
      have hzr := har i z hz
      simp (disch := first | omega | simp) [iv, cE, Lin.cs, hil, hzg, hiv]
      refine ca_pure (by kernel_rfl) (c_RCheckClaim z.c _) ?_
      rw [if_pos hzo]
      simp (disch := first | omega | simp) [iv]
      refine ca_pure (by kernel_rfl) (c_SoundLine p out i hz hpo hoo (by have := right_len hzr; omega) (by omega) _) ?_
      rw [hzr]
      simp (disch := first | omega | simp) [iv, bv, hiv]
      exact hk (i + 1) _ _ _ (.refl hn3) ⟨hil, hnx⟩ (by omega)
    · simp (disch := first | omega | simp) [iv, cE, hil]
      exact rt_refl rfl hnx
  · have hok := okP_zero h0
    have hpo : ∀ q ∈ p, q.ok := fun q hq => hok.2 q (List.mem_append_left _ hq)
    have hco : c.ok := hok.2 c (by simp)
    have hagr : agR p c = .tup [wE (nI (agW p c)), bv true, iv 0] := by unfold agR; rw [if_neg (by rw [h0]; decide), hag]; rfl
    simp (disch := first | omega | simp) [put_get_ne]
    refine ca_pure (by kernel_rfl) (c_Against p c _) ?_
    rw [hagr]
    simp (disch := first | omega | simp) [put_get_ne]
    refine ca_row (ps := [cE p]) (qs := []) (es := [c].map Clm.cs) (by kernel_rfl) (put_get _ _) (dt_cs [c]) rfl (c_RCheckClaims p [c] (by simp) _) ?_
    rintro _ H2 ⟨rfl, rfl⟩
    refine ca_pure (by kernel_rfl) (pc_begun) ?_
    rw [h0]
    simp (disch := first | omega | simp) [iv, bv, put_get_ne]
    unfold S_wordhoardlaw_ProveArgues_C4
    simp (disch := first | omega | simp) [iv, bv, put_get_ne]
    refine ca_pure (by kernel_rfl) (c_RFollows p c hok.1 hpo hco _) ?_
    rw [hag]
    simp (disch := first | omega | simp) [iv, bv, put_get_ne]
    refine ca_pure (by kernel_rfl) (c_RCheckWorld _ _) ?_
    rw [okW_nI (agW_len p c) agW_lt]
    simp (disch := first | omega | simp) [iv, bv, put_get_ne]
    refine ca_pure (by kernel_rfl) (c_RHoldsIn (nI_in agW_lt) hco _) ?_
    obtain ⟨ha1, ha2⟩ := agW_against hag
    rw [natL_nI, ha2]
    simp (disch := first | omega | simp) [iv, bv]
    refine loop_st (fun i : Nat => [iv i]) (fun i H' => i ≤ p.length ∧ H.nx ≤ H'.nx) (fun i => p.length - i) 0 (.refl (Nat.le_refl _)) ⟨Nat.zero_le _, (by first | omega | (simp only [up_nx, put_nx, kill_nx]; done) | (simp only [up_nx, put_nx, kill_nx]; omega))⟩ ?_
    rintro i H3 hn3 ⟨hi, hnx⟩ k hk
    unfold S_wordhoardlaw_ProveArgues_L1
    by_cases hil : i < p.length
    · obtain ⟨q, hq⟩ : ∃ q, p[i]? = some q := ⟨_, List.getElem?_eq_getElem hil⟩
      have hqg : ∀ h, p[i]'h = q := fun h => (List.getElem?_eq_some_iff.1 hq).2
      have hiv := ivn (i := i) (by omega)
      simp (disch := first | omega | simp) [iv, cE, Clm.cs, hil, hqg, hiv]
      refine ca_pure (by kernel_rfl) (c_RHoldsIn (nI_in agW_lt) (hpo q (List.mem_of_getElem? hq)) _) ?_
      rw [natL_nI, ha1 q (List.mem_of_getElem? hq)]
      simp (disch := first | omega | simp) [iv, bv, hiv]
      exact hk (i + 1) _ _ _ (.refl hn3) ⟨hil, hnx⟩ (by omega)
    · simp (disch := first | omega | simp) [iv, cE, hil]
      exact rt_refl rfl hnx)
end Go.Proofs.Ytcmnjoepadjioaa

/- Is a line right. -/
namespace Go.Proofs.Ytcmnjoepadjioaa
open Go.RowKit Go.Maps
theorem lawInt : Keyed Try.prog 3 := int_keyed Try.underlying3
theorem keyInt {i : Int} (h : I64 i) : (keyOf Try.prog 3 (.int .i64 i)).isSome = true := by
  rw [keyOf_int Try.underlying3]
  exact h
theorem keyLit (n : Nat) (h : n < 9223372036854775808) : (keyOf Try.prog 3 (.int .i64 (no_index (OfNat.ofNat n)))).isSome = true := keyInt ⟨by show (-9223372036854775808 : Int) ≤ ((n : Nat) : Int); omega, by show ((n : Nat) : Int) ≤ 9223372036854775807; omega⟩
theorem c_all (a b : Int) : PF Try.prog 41 [iv a, iv b] (Clm.av ⟨false, a, b⟩) := fun H => tri_wf fun hw => tri_prove_right_fn1 (by
  unfold S_prove_right_fn1
  simp (disch := first | omega | simp) [iv]
  exact rt_one hw (by repeat (first | with_reducible assumption | with_reducible exact AH.le.refl _ | with_reducible apply AH.le.up | (with_reducible refine AH.le.put hw ?_ ?_; · first | omega | (simp only [up_nx, put_nx, kill_nx]; done) | (simp only [up_nx, put_nx, kill_nx]; omega)) | (with_reducible refine AH.le.kill hw ?_ ?_; · first | omega | (simp only [up_nx, put_nx, kill_nx]; done) | (simp only [up_nx, put_nx, kill_nx]; omega)))) (by repeat (first | exact Cl.p _ | exact Cl.dsl _ _ | exact Cl.any | refine Cl.tup ?_ | refine Cl.agg ?_ | exact Clo.nil | refine Clo.cons ?_ ?_)) ⟨rfl, rfl⟩)
theorem c_some (a b : Int) : PF Try.prog 42 [iv a, iv b] (Clm.av ⟨true, a, b⟩) := fun H => tri_wf fun hw => tri_prove_right_fn2 (by
  unfold S_prove_right_fn2
  simp (disch := first | omega | simp) [iv]
  exact rt_one hw (by repeat (first | with_reducible assumption | with_reducible exact AH.le.refl _ | with_reducible apply AH.le.up | (with_reducible refine AH.le.put hw ?_ ?_; · first | omega | (simp only [up_nx, put_nx, kill_nx]; done) | (simp only [up_nx, put_nx, kill_nx]; omega)) | (with_reducible refine AH.le.kill hw ?_ ?_; · first | omega | (simp only [up_nx, put_nx, kill_nx]; done) | (simp only [up_nx, put_nx, kill_nx]; omega)))) (by repeat (first | exact Cl.p _ | exact Cl.dsl _ _ | exact Cl.any | refine Cl.tup ?_ | refine Cl.agg ?_ | exact Clo.nil | refine Clo.cons ?_ ?_)) ⟨rfl, rfl⟩)
noncomputable def countT : Value → Option AV := putA (putA (putA (putA (putA (putA (putA (putA (putA (fun _ => none) (.int .i64 2) (.p (.int .i64 0))) (.int .i64 3) (.p (.int .i64 2))) (.int .i64 4) (.p (.int .i64 1))) (.int .i64 5) (.p (.int .i64 1))) (.int .i64 6) (.p (.int .i64 1))) (.int .i64 7) (.p (.int .i64 1))) (.int .i64 8) (.p (.int .i64 1))) (.int .i64 9) (.p (.int .i64 2))) (.int .i64 10) (.p (.int .i64 2))
theorem countT_in {r : Int} (h1 : 2 ≤ r) (h2 : r ≤ 10) : countT (.int .i64 r) = some (.p (.int .i64 (countR r : Nat))) := by
  have : r = 2 ∨ r = 3 ∨ r = 4 ∨ r = 5 ∨ r = 6 ∨ r = 7 ∨ r = 8 ∨ r = 9 ∨ r = 10 := by omega
  rcases this with rfl | rfl | rfl | rfl | rfl | rfl | rfl | rfl | rfl <;> simp [countT, putA, countR]
theorem countT_out {r : Int} (h : ¬ (2 ≤ r ∧ r ≤ 10)) : countT (.int .i64 r) = none := by
  have h2 : r ≠ 2 := by omega
  have h3 : r ≠ 3 := by omega
  have h4 : r ≠ 4 := by omega
  have h5 : r ≠ 5 := by omega
  have h6 : r ≠ 6 := by omega
  have h7 : r ≠ 7 := by omega
  have h8 : r ≠ 8 := by omega
  have h9 : r ≠ 9 := by omega
  have h10 : r ≠ 10 := by omega
  simp [countT, putA, h2, h3, h4, h5, h6, h7, h8, h9, h10]
theorem q_eqX {c d : Clm} {X : Bool} {k : AV → AH → Prop} {H : AH} (hX : X = ((c.so == d.so) && (c.a == d.a) && (c.b == d.b))) (h : k (.p (.bool X)) H) : Pu Try.prog (.bin .eql 24) [.agg [.p (.bool c.so), .p (.int .i64 c.a), .p (.int .i64 c.b)], .agg [.p (.bool d.so), .p (.int .i64 d.a), .p (.int .i64 d.b)]] k H :=
  q_eqClm (by
    have : decide (c = d) = X := by
      rw [hX]
      by_cases e : c = d
      · subst e; simp
      · rw [decide_eq_false e]
        cases h1 : ((c.so == d.so) && (c.a == d.a) && (c.b == d.b)) with
        | false => rfl
        | true => simp at h1; exact absurd (clm_ext h1.1.1 h1.1.2 h1.2) e
    rw [this]; exact h)
theorem rb2 {c : Clm} : ruleB 2 c [] = ((c.so == false) && (c.a == c.a) && (c.b == c.a)) := by
  rw [Bool.eq_iff_iff]
  simp only [ruleB]
  simp
  try grind
theorem rb3 {c p q : Clm} : ruleB 3 c [p, q] = (((p.so == false) && (p.a == c.a) && (p.b == p.b)) && (((q.so == false) && (q.a == p.b) && (q.b == c.b)) && !c.so)) := by
  rw [Bool.eq_iff_iff]
  simp only [ruleB]
  simp
  try grind
theorem rb4 {c p : Clm} : ruleB 4 c [p] = (!p.so && ((c.so == false) && (c.a == (-p.b)) && (c.b == (-p.a)))) := by
  rw [Bool.eq_iff_iff]
  simp only [ruleB]
  simp
  try grind
theorem rb5 {c p : Clm} : ruleB 5 c [p] = (((p.so == false) && (p.a == c.a) && (p.b == (-c.a))) && !c.so) := by
  rw [Bool.eq_iff_iff]
  simp only [ruleB]
  simp
  try grind
theorem rb6 {c p : Clm} : ruleB 6 c [p] = (((p.so == false) && (p.a == (-c.b)) && (p.b == c.b)) && !c.so) := by
  rw [Bool.eq_iff_iff]
  simp only [ruleB]
  simp
  try grind
theorem rb7 {c p : Clm} : ruleB 7 c [p] = (p.so && ((c.so == true) && (c.a == p.b) && (c.b == p.a))) := by
  rw [Bool.eq_iff_iff]
  simp only [ruleB]
  simp
  try grind
theorem rb8 {c p : Clm} : ruleB 8 c [p] = (p.so && ((c.so == true) && (c.a == p.a) && (c.b == p.a))) := by
  rw [Bool.eq_iff_iff]
  simp only [ruleB]
  simp
  try grind
theorem rb9 {c p q : Clm} : ruleB 9 c [p, q] = (((p.so == true) && (p.a == c.a) && (p.b == p.b)) && (((q.so == false) && (q.a == p.b) && (q.b == c.b)) && c.so)) := by
  rw [Bool.eq_iff_iff]
  simp only [ruleB]
  simp
  try grind
theorem rb10 {c p q : Clm} : ruleB 10 c [p, q] = (!p.so && ((q.so == true) && (q.a == p.a) && (q.b == (-p.b)))) := by
  rw [Bool.eq_iff_iff]
  simp only [ruleB]
  simp
  try grind
theorem clm_iff {x y : Clm} : x = y ↔ x.so = y.so ∧ x.a = y.a ∧ x.b = y.b := ⟨fun h => by subst h; exact ⟨rfl, rfl, rfl⟩, fun ⟨h1, h2, h3⟩ => clm_ext h1 h2 h3⟩
set_option maxHeartbeats 2000000 in
theorem fin_right {H H2 : AH} {x : Lin} {of : List Clm} {b12 : Nat} (hw : WF H) (hw2 : WF H2) (hle : H.le H2) (hn : H.nx + 9 ≤ H2.nx) (hlb : H2.get (H.nx + 4) = some (.box 36 x.cs)) (hcb : H2.get (H.nx + 8) = some (.box 24 x.c.cs)) (h12 : H2.get b12 = some (.box 66 ((pz of 0).cs ++ (pz of 1).cs)))
    (hr1 : 2 ≤ x.rule) (hr2 : x.rule ≤ 10) (hc : of.length = countR x.rule) (hok : x.c.ok) (hofo : ∀ q ∈ of, q.ok) : S_prove_right_C9 (fun r H' => H' = H ∧ r = bv (ruleB x.rule x.c of)) H (.ptr (H.nx + 4) 0) (.ptr (H.nx + 8) 0) (.ptr b12 0) H2 := by
  have hb12 := (hw2 _ _ h12).1
  have g4 := wf_none hw2 (i := H2.nx + 4) (by omega)
  have g5 := wf_none hw2 (i := H2.nx + 5) (by omega)
  unfold Lin.cs at hlb
  unfold Clm.cs at hcb h12
  unfold S_prove_right_C9
  have : x.rule = 2 ∨ x.rule = 3 ∨ x.rule = 4 ∨ x.rule = 5 ∨ x.rule = 6 ∨ x.rule = 7 ∨ x.rule = 8 ∨ x.rule = 9 ∨ x.rule = 10 := by omega
  have hca := wneg_ok hok.1
  have hcbn := wneg_ok hok.2
  rcases this with hr | hr | hr | hr | hr | hr | hr | hr | hr <;> rw [hr] at hc ⊢ <;> (have hc2 := hc; simp [countR] at hc2)
  · subst hc2
    simp (disch := first | omega | simp) [iv, bv, hlb, hcb, h12, put_get_ne, hr, g4, g5, Clm.av, Clm.cs, hca, hcbn, S_prove_right_C2, S_prove_right_C3, S_prove_right_C4, S_prove_right_C5, S_prove_right_C6, S_prove_right_C7, S_prove_right_C8]
    refine cav_pure (by kernel_rfl) (fun H' _ => c_all _ _ H') ?_
    simp (disch := first | omega | simp) [iv, bv, hlb, hcb, h12, put_get_ne, hr, g4, g5, Clm.av, Clm.cs, hca, hcbn, S_prove_right_C2, S_prove_right_C3, S_prove_right_C4, S_prove_right_C5, S_prove_right_C6, S_prove_right_C7, S_prove_right_C8]
    obtain ⟨X1, hX1⟩ : ∃ X, X = ((x.c.so == false) && (x.c.a == x.c.a) && (x.c.b == x.c.a)) := ⟨_, rfl⟩
    refine q_eqX (c := x.c) (d := ⟨false, x.c.a, x.c.a⟩) hX1 ?_
    exact rt_one hw (by repeat (first | with_reducible assumption | with_reducible exact AH.le.refl _ | with_reducible apply AH.le.up | (with_reducible refine AH.le.put hw ?_ ?_; · first | omega | (simp only [up_nx, put_nx, kill_nx]; done) | (simp only [up_nx, put_nx, kill_nx]; omega)) | (with_reducible refine AH.le.kill hw ?_ ?_; · first | omega | (simp only [up_nx, put_nx, kill_nx]; done) | (simp only [up_nx, put_nx, kill_nx]; omega)))) (by repeat (first | exact Cl.p _ | exact Cl.dsl _ _ | exact Cl.any | refine Cl.tup ?_ | refine Cl.agg ?_ | exact Clo.nil | refine Clo.cons ?_ ?_)) ⟨rfl, by rw [rb2, ← hX1]⟩
  · obtain ⟨p, q, rfl⟩ := len2 hc2
    have hp := hofo p (by simp)
    have hpa := wneg_ok hp.1
    have hpb := wneg_ok hp.2
    simp only [pz, List.getD_cons_zero, List.getD_cons_succ] at h12
    simp (disch := first | omega | simp) [iv, bv, hlb, hcb, h12, put_get_ne, hr, g4, g5, Clm.av, Clm.cs, hca, hcbn, hpa, hpb, S_prove_right_C2, S_prove_right_C3, S_prove_right_C4, S_prove_right_C5, S_prove_right_C6, S_prove_right_C7, S_prove_right_C8]
    refine cav_pure (by kernel_rfl) (fun H' _ => c_all _ _ H') ?_
    simp (disch := first | omega | simp) [iv, bv, hlb, hcb, h12, put_get_ne, hr, g4, g5, Clm.av, Clm.cs, hca, hcbn, hpa, hpb, S_prove_right_C2, S_prove_right_C3, S_prove_right_C4, S_prove_right_C5, S_prove_right_C6, S_prove_right_C7, S_prove_right_C8]
    obtain ⟨X1, hX1⟩ : ∃ X, X = ((p.so == false) && (p.a == x.c.a) && (p.b == p.b)) := ⟨_, rfl⟩
    refine q_eqX (c := p) (d := ⟨false, x.c.a, p.b⟩) hX1 ?_
    cases X1 with
    | false =>
      simp (disch := first | omega | simp) [iv, bv, hlb, hcb, h12, put_get_ne, hr, g4, g5, Clm.av, Clm.cs, hca, hcbn, hpa, hpb, S_prove_right_C2, S_prove_right_C3, S_prove_right_C4, S_prove_right_C5, S_prove_right_C6, S_prove_right_C7, S_prove_right_C8]
      exact rt_one hw (by repeat (first | with_reducible assumption | with_reducible exact AH.le.refl _ | with_reducible apply AH.le.up | (with_reducible refine AH.le.put hw ?_ ?_; · first | omega | (simp only [up_nx, put_nx, kill_nx]; done) | (simp only [up_nx, put_nx, kill_nx]; omega)) | (with_reducible refine AH.le.kill hw ?_ ?_; · first | omega | (simp only [up_nx, put_nx, kill_nx]; done) | (simp only [up_nx, put_nx, kill_nx]; omega)))) (by repeat (first | exact Cl.p _ | exact Cl.dsl _ _ | exact Cl.any | refine Cl.tup ?_ | refine Cl.agg ?_ | exact Clo.nil | refine Clo.cons ?_ ?_)) ⟨rfl, by rw [rb3, ← hX1]; rfl⟩
    | true =>
      simp (disch := first | omega | simp) [iv, bv, hlb, hcb, h12, put_get_ne, hr, g4, g5, Clm.av, Clm.cs, hca, hcbn, hpa, hpb, S_prove_right_C2, S_prove_right_C3, S_prove_right_C4, S_prove_right_C5, S_prove_right_C6, S_prove_right_C7, S_prove_right_C8]
      refine cav_pure (by kernel_rfl) (fun H' _ => c_all _ _ H') ?_
      simp (disch := first | omega | simp) [iv, bv, hlb, hcb, h12, put_get_ne, hr, g4, g5, Clm.av, Clm.cs, hca, hcbn, hpa, hpb, S_prove_right_C2, S_prove_right_C3, S_prove_right_C4, S_prove_right_C5, S_prove_right_C6, S_prove_right_C7, S_prove_right_C8]
      obtain ⟨X2, hX2⟩ : ∃ X, X = ((q.so == false) && (q.a == p.b) && (q.b == x.c.b)) := ⟨_, rfl⟩
      refine q_eqX (c := q) (d := ⟨false, p.b, x.c.b⟩) hX2 ?_
      cases X2 <;> simp (disch := first | omega | simp) [iv, bv, hlb, hcb, h12, put_get_ne, hr, g4, g5, Clm.av, Clm.cs, hca, hcbn, hpa, hpb, S_prove_right_C2, S_prove_right_C3, S_prove_right_C4, S_prove_right_C5, S_prove_right_C6, S_prove_right_C7, S_prove_right_C8] <;> exact rt_one hw (by repeat (first | with_reducible assumption | with_reducible exact AH.le.refl _ | with_reducible apply AH.le.up | (with_reducible refine AH.le.put hw ?_ ?_; · first | omega | (simp only [up_nx, put_nx, kill_nx]; done) | (simp only [up_nx, put_nx, kill_nx]; omega)) | (with_reducible refine AH.le.kill hw ?_ ?_; · first | omega | (simp only [up_nx, put_nx, kill_nx]; done) | (simp only [up_nx, put_nx, kill_nx]; omega)))) (by repeat (first | exact Cl.p _ | exact Cl.dsl _ _ | exact Cl.any | refine Cl.tup ?_ | refine Cl.agg ?_ | exact Clo.nil | refine Clo.cons ?_ ?_)) ⟨rfl, by rw [rb3, ← hX1, ← hX2]; simp [bv]⟩
  · obtain ⟨p, rfl⟩ := List.length_eq_one_iff.1 hc2
    have hp := hofo p (by simp)
    have hpa := wneg_ok hp.1
    have hpb := wneg_ok hp.2
    simp only [pz, List.getD_cons_zero] at h12
    cases hps : p.so with
    | true =>
      simp (disch := first | omega | simp) [iv, bv, hlb, hcb, h12, put_get_ne, hr, g4, g5, Clm.av, Clm.cs, hca, hcbn, hpa, hpb, hps, S_prove_right_C2, S_prove_right_C3, S_prove_right_C4, S_prove_right_C5, S_prove_right_C6, S_prove_right_C7, S_prove_right_C8]
      refine rt_one hw (by repeat (first | with_reducible assumption | with_reducible exact AH.le.refl _ | with_reducible apply AH.le.up | (with_reducible refine AH.le.put hw ?_ ?_; · first | omega | (simp only [up_nx, put_nx, kill_nx]; done) | (simp only [up_nx, put_nx, kill_nx]; omega)) | (with_reducible refine AH.le.kill hw ?_ ?_; · first | omega | (simp only [up_nx, put_nx, kill_nx]; done) | (simp only [up_nx, put_nx, kill_nx]; omega)))) (by repeat (first | exact Cl.p _ | exact Cl.dsl _ _ | exact Cl.any | refine Cl.tup ?_ | refine Cl.agg ?_ | exact Clo.nil | refine Clo.cons ?_ ?_)) (And.intro rfl ?_)
      rw [rb4, hps]; rfl
    | false =>
      simp (disch := first | omega | simp) [iv, bv, hlb, hcb, h12, put_get_ne, hr, g4, g5, Clm.av, Clm.cs, hca, hcbn, hpa, hpb, hps, S_prove_right_C2, S_prove_right_C3, S_prove_right_C4, S_prove_right_C5, S_prove_right_C6, S_prove_right_C7, S_prove_right_C8]
      refine cav_pure (by kernel_rfl) (fun H' _ => c_all _ _ H') ?_
      simp (disch := first | omega | simp) [iv, bv, hlb, hcb, h12, put_get_ne, hr, g4, g5, Clm.av, Clm.cs, hca, hcbn, hpa, hpb, hps, S_prove_right_C2, S_prove_right_C3, S_prove_right_C4, S_prove_right_C5, S_prove_right_C6, S_prove_right_C7, S_prove_right_C8]
      obtain ⟨X1, hX1⟩ : ∃ X, X = ((x.c.so == false) && (x.c.a == (-p.b)) && (x.c.b == (-p.a))) := ⟨_, rfl⟩
      refine q_eqX (c := x.c) (d := ⟨false, (-p.b), (-p.a)⟩) hX1 ?_
      cases X1 <;> simp (disch := first | omega | simp) [iv, bv, hlb, hcb, h12, put_get_ne, hr, g4, g5, Clm.av, Clm.cs, hca, hcbn, hpa, hpb, hps, S_prove_right_C2, S_prove_right_C3, S_prove_right_C4, S_prove_right_C5, S_prove_right_C6, S_prove_right_C7, S_prove_right_C8] <;> exact rt_one hw (by repeat (first | with_reducible assumption | with_reducible exact AH.le.refl _ | with_reducible apply AH.le.up | (with_reducible refine AH.le.put hw ?_ ?_; · first | omega | (simp only [up_nx, put_nx, kill_nx]; done) | (simp only [up_nx, put_nx, kill_nx]; omega)) | (with_reducible refine AH.le.kill hw ?_ ?_; · first | omega | (simp only [up_nx, put_nx, kill_nx]; done) | (simp only [up_nx, put_nx, kill_nx]; omega)))) (by repeat (first | exact Cl.p _ | exact Cl.dsl _ _ | exact Cl.any | refine Cl.tup ?_ | refine Cl.agg ?_ | exact Clo.nil | refine Clo.cons ?_ ?_)) ⟨rfl, by rw [rb4, hps, ← hX1]; simp [bv]⟩
  · obtain ⟨p, rfl⟩ := List.length_eq_one_iff.1 hc2
    have hp := hofo p (by simp)
    have hpa := wneg_ok hp.1
    have hpb := wneg_ok hp.2
    simp only [pz, List.getD_cons_zero] at h12
    simp (disch := first | omega | simp) [iv, bv, hlb, hcb, h12, put_get_ne, hr, g4, g5, Clm.av, Clm.cs, hca, hcbn, hpa, hpb, S_prove_right_C2, S_prove_right_C3, S_prove_right_C4, S_prove_right_C5, S_prove_right_C6, S_prove_right_C7, S_prove_right_C8]
    refine cav_pure (by kernel_rfl) (fun H' _ => c_all _ _ H') ?_
    simp (disch := first | omega | simp) [iv, bv, hlb, hcb, h12, put_get_ne, hr, g4, g5, Clm.av, Clm.cs, hca, hcbn, hpa, hpb, S_prove_right_C2, S_prove_right_C3, S_prove_right_C4, S_prove_right_C5, S_prove_right_C6, S_prove_right_C7, S_prove_right_C8]
    obtain ⟨X1, hX1⟩ : ∃ X, X = ((p.so == false) && (p.a == x.c.a) && (p.b == (-x.c.a))) := ⟨_, rfl⟩
    refine q_eqX (c := p) (d := ⟨false, x.c.a, (-x.c.a)⟩) hX1 ?_
    cases X1 <;> simp (disch := first | omega | simp) [iv, bv, hlb, hcb, h12, put_get_ne, hr, g4, g5, Clm.av, Clm.cs, hca, hcbn, hpa, hpb, S_prove_right_C2, S_prove_right_C3, S_prove_right_C4, S_prove_right_C5, S_prove_right_C6, S_prove_right_C7, S_prove_right_C8] <;> exact rt_one hw (by repeat (first | with_reducible assumption | with_reducible exact AH.le.refl _ | with_reducible apply AH.le.up | (with_reducible refine AH.le.put hw ?_ ?_; · first | omega | (simp only [up_nx, put_nx, kill_nx]; done) | (simp only [up_nx, put_nx, kill_nx]; omega)) | (with_reducible refine AH.le.kill hw ?_ ?_; · first | omega | (simp only [up_nx, put_nx, kill_nx]; done) | (simp only [up_nx, put_nx, kill_nx]; omega)))) (by repeat (first | exact Cl.p _ | exact Cl.dsl _ _ | exact Cl.any | refine Cl.tup ?_ | refine Cl.agg ?_ | exact Clo.nil | refine Clo.cons ?_ ?_)) ⟨rfl, by rw [rb5, ← hX1]; simp [bv]⟩
  · obtain ⟨p, rfl⟩ := List.length_eq_one_iff.1 hc2
    have hp := hofo p (by simp)
    have hpa := wneg_ok hp.1
    have hpb := wneg_ok hp.2
    simp only [pz, List.getD_cons_zero] at h12
    simp (disch := first | omega | simp) [iv, bv, hlb, hcb, h12, put_get_ne, hr, g4, g5, Clm.av, Clm.cs, hca, hcbn, hpa, hpb, S_prove_right_C2, S_prove_right_C3, S_prove_right_C4, S_prove_right_C5, S_prove_right_C6, S_prove_right_C7, S_prove_right_C8]
    refine cav_pure (by kernel_rfl) (fun H' _ => c_all _ _ H') ?_
    simp (disch := first | omega | simp) [iv, bv, hlb, hcb, h12, put_get_ne, hr, g4, g5, Clm.av, Clm.cs, hca, hcbn, hpa, hpb, S_prove_right_C2, S_prove_right_C3, S_prove_right_C4, S_prove_right_C5, S_prove_right_C6, S_prove_right_C7, S_prove_right_C8]
    obtain ⟨X1, hX1⟩ : ∃ X, X = ((p.so == false) && (p.a == (-x.c.b)) && (p.b == x.c.b)) := ⟨_, rfl⟩
    refine q_eqX (c := p) (d := ⟨false, (-x.c.b), x.c.b⟩) hX1 ?_
    cases X1 <;> simp (disch := first | omega | simp) [iv, bv, hlb, hcb, h12, put_get_ne, hr, g4, g5, Clm.av, Clm.cs, hca, hcbn, hpa, hpb, S_prove_right_C2, S_prove_right_C3, S_prove_right_C4, S_prove_right_C5, S_prove_right_C6, S_prove_right_C7, S_prove_right_C8] <;> exact rt_one hw (by repeat (first | with_reducible assumption | with_reducible exact AH.le.refl _ | with_reducible apply AH.le.up | (with_reducible refine AH.le.put hw ?_ ?_; · first | omega | (simp only [up_nx, put_nx, kill_nx]; done) | (simp only [up_nx, put_nx, kill_nx]; omega)) | (with_reducible refine AH.le.kill hw ?_ ?_; · first | omega | (simp only [up_nx, put_nx, kill_nx]; done) | (simp only [up_nx, put_nx, kill_nx]; omega)))) (by repeat (first | exact Cl.p _ | exact Cl.dsl _ _ | exact Cl.any | refine Cl.tup ?_ | refine Cl.agg ?_ | exact Clo.nil | refine Clo.cons ?_ ?_)) ⟨rfl, by rw [rb6, ← hX1]; simp [bv]⟩
  · obtain ⟨p, rfl⟩ := List.length_eq_one_iff.1 hc2
    have hp := hofo p (by simp)
    have hpa := wneg_ok hp.1
    have hpb := wneg_ok hp.2
    simp only [pz, List.getD_cons_zero] at h12
    cases hps : p.so with
    | false =>
      simp (disch := first | omega | simp) [iv, bv, hlb, hcb, h12, put_get_ne, hr, g4, g5, Clm.av, Clm.cs, hca, hcbn, hpa, hpb, hps, S_prove_right_C2, S_prove_right_C3, S_prove_right_C4, S_prove_right_C5, S_prove_right_C6, S_prove_right_C7, S_prove_right_C8]
      refine rt_one hw (by repeat (first | with_reducible assumption | with_reducible exact AH.le.refl _ | with_reducible apply AH.le.up | (with_reducible refine AH.le.put hw ?_ ?_; · first | omega | (simp only [up_nx, put_nx, kill_nx]; done) | (simp only [up_nx, put_nx, kill_nx]; omega)) | (with_reducible refine AH.le.kill hw ?_ ?_; · first | omega | (simp only [up_nx, put_nx, kill_nx]; done) | (simp only [up_nx, put_nx, kill_nx]; omega)))) (by repeat (first | exact Cl.p _ | exact Cl.dsl _ _ | exact Cl.any | refine Cl.tup ?_ | refine Cl.agg ?_ | exact Clo.nil | refine Clo.cons ?_ ?_)) (And.intro rfl ?_)
      rw [rb7, hps]; rfl
    | true =>
      simp (disch := first | omega | simp) [iv, bv, hlb, hcb, h12, put_get_ne, hr, g4, g5, Clm.av, Clm.cs, hca, hcbn, hpa, hpb, hps, S_prove_right_C2, S_prove_right_C3, S_prove_right_C4, S_prove_right_C5, S_prove_right_C6, S_prove_right_C7, S_prove_right_C8]
      refine cav_pure (by kernel_rfl) (fun H' _ => c_some _ _ H') ?_
      simp (disch := first | omega | simp) [iv, bv, hlb, hcb, h12, put_get_ne, hr, g4, g5, Clm.av, Clm.cs, hca, hcbn, hpa, hpb, hps, S_prove_right_C2, S_prove_right_C3, S_prove_right_C4, S_prove_right_C5, S_prove_right_C6, S_prove_right_C7, S_prove_right_C8]
      obtain ⟨X1, hX1⟩ : ∃ X, X = ((x.c.so == true) && (x.c.a == p.b) && (x.c.b == p.a)) := ⟨_, rfl⟩
      refine q_eqX (c := x.c) (d := ⟨true, p.b, p.a⟩) hX1 ?_
      cases X1 <;> simp (disch := first | omega | simp) [iv, bv, hlb, hcb, h12, put_get_ne, hr, g4, g5, Clm.av, Clm.cs, hca, hcbn, hpa, hpb, hps, S_prove_right_C2, S_prove_right_C3, S_prove_right_C4, S_prove_right_C5, S_prove_right_C6, S_prove_right_C7, S_prove_right_C8] <;> exact rt_one hw (by repeat (first | with_reducible assumption | with_reducible exact AH.le.refl _ | with_reducible apply AH.le.up | (with_reducible refine AH.le.put hw ?_ ?_; · first | omega | (simp only [up_nx, put_nx, kill_nx]; done) | (simp only [up_nx, put_nx, kill_nx]; omega)) | (with_reducible refine AH.le.kill hw ?_ ?_; · first | omega | (simp only [up_nx, put_nx, kill_nx]; done) | (simp only [up_nx, put_nx, kill_nx]; omega)))) (by repeat (first | exact Cl.p _ | exact Cl.dsl _ _ | exact Cl.any | refine Cl.tup ?_ | refine Cl.agg ?_ | exact Clo.nil | refine Clo.cons ?_ ?_)) ⟨rfl, by rw [rb7, hps, ← hX1]; simp [bv]⟩
  · obtain ⟨p, rfl⟩ := List.length_eq_one_iff.1 hc2
    have hp := hofo p (by simp)
    have hpa := wneg_ok hp.1
    have hpb := wneg_ok hp.2
    simp only [pz, List.getD_cons_zero] at h12
    cases hps : p.so with
    | false =>
      simp (disch := first | omega | simp) [iv, bv, hlb, hcb, h12, put_get_ne, hr, g4, g5, Clm.av, Clm.cs, hca, hcbn, hpa, hpb, hps, S_prove_right_C2, S_prove_right_C3, S_prove_right_C4, S_prove_right_C5, S_prove_right_C6, S_prove_right_C7, S_prove_right_C8]
      refine rt_one hw (by repeat (first | with_reducible assumption | with_reducible exact AH.le.refl _ | with_reducible apply AH.le.up | (with_reducible refine AH.le.put hw ?_ ?_; · first | omega | (simp only [up_nx, put_nx, kill_nx]; done) | (simp only [up_nx, put_nx, kill_nx]; omega)) | (with_reducible refine AH.le.kill hw ?_ ?_; · first | omega | (simp only [up_nx, put_nx, kill_nx]; done) | (simp only [up_nx, put_nx, kill_nx]; omega)))) (by repeat (first | exact Cl.p _ | exact Cl.dsl _ _ | exact Cl.any | refine Cl.tup ?_ | refine Cl.agg ?_ | exact Clo.nil | refine Clo.cons ?_ ?_)) (And.intro rfl ?_)
      rw [rb8, hps]; rfl
    | true =>
      simp (disch := first | omega | simp) [iv, bv, hlb, hcb, h12, put_get_ne, hr, g4, g5, Clm.av, Clm.cs, hca, hcbn, hpa, hpb, hps, S_prove_right_C2, S_prove_right_C3, S_prove_right_C4, S_prove_right_C5, S_prove_right_C6, S_prove_right_C7, S_prove_right_C8]
      refine cav_pure (by kernel_rfl) (fun H' _ => c_some _ _ H') ?_
      simp (disch := first | omega | simp) [iv, bv, hlb, hcb, h12, put_get_ne, hr, g4, g5, Clm.av, Clm.cs, hca, hcbn, hpa, hpb, hps, S_prove_right_C2, S_prove_right_C3, S_prove_right_C4, S_prove_right_C5, S_prove_right_C6, S_prove_right_C7, S_prove_right_C8]
      obtain ⟨X1, hX1⟩ : ∃ X, X = ((x.c.so == true) && (x.c.a == p.a) && (x.c.b == p.a)) := ⟨_, rfl⟩
      refine q_eqX (c := x.c) (d := ⟨true, p.a, p.a⟩) hX1 ?_
      cases X1 <;> simp (disch := first | omega | simp) [iv, bv, hlb, hcb, h12, put_get_ne, hr, g4, g5, Clm.av, Clm.cs, hca, hcbn, hpa, hpb, hps, S_prove_right_C2, S_prove_right_C3, S_prove_right_C4, S_prove_right_C5, S_prove_right_C6, S_prove_right_C7, S_prove_right_C8] <;> exact rt_one hw (by repeat (first | with_reducible assumption | with_reducible exact AH.le.refl _ | with_reducible apply AH.le.up | (with_reducible refine AH.le.put hw ?_ ?_; · first | omega | (simp only [up_nx, put_nx, kill_nx]; done) | (simp only [up_nx, put_nx, kill_nx]; omega)) | (with_reducible refine AH.le.kill hw ?_ ?_; · first | omega | (simp only [up_nx, put_nx, kill_nx]; done) | (simp only [up_nx, put_nx, kill_nx]; omega)))) (by repeat (first | exact Cl.p _ | exact Cl.dsl _ _ | exact Cl.any | refine Cl.tup ?_ | refine Cl.agg ?_ | exact Clo.nil | refine Clo.cons ?_ ?_)) ⟨rfl, by rw [rb8, hps, ← hX1]; simp [bv]⟩
  · obtain ⟨p, q, rfl⟩ := len2 hc2
    have hp := hofo p (by simp)
    have hpa := wneg_ok hp.1
    have hpb := wneg_ok hp.2
    simp only [pz, List.getD_cons_zero, List.getD_cons_succ] at h12
    simp (disch := first | omega | simp) [iv, bv, hlb, hcb, h12, put_get_ne, hr, g4, g5, Clm.av, Clm.cs, hca, hcbn, hpa, hpb, S_prove_right_C2, S_prove_right_C3, S_prove_right_C4, S_prove_right_C5, S_prove_right_C6, S_prove_right_C7, S_prove_right_C8]
    refine cav_pure (by kernel_rfl) (fun H' _ => c_some _ _ H') ?_
    simp (disch := first | omega | simp) [iv, bv, hlb, hcb, h12, put_get_ne, hr, g4, g5, Clm.av, Clm.cs, hca, hcbn, hpa, hpb, S_prove_right_C2, S_prove_right_C3, S_prove_right_C4, S_prove_right_C5, S_prove_right_C6, S_prove_right_C7, S_prove_right_C8]
    obtain ⟨X1, hX1⟩ : ∃ X, X = ((p.so == true) && (p.a == x.c.a) && (p.b == p.b)) := ⟨_, rfl⟩
    refine q_eqX (c := p) (d := ⟨true, x.c.a, p.b⟩) hX1 ?_
    cases X1 with
    | false =>
      simp (disch := first | omega | simp) [iv, bv, hlb, hcb, h12, put_get_ne, hr, g4, g5, Clm.av, Clm.cs, hca, hcbn, hpa, hpb, S_prove_right_C2, S_prove_right_C3, S_prove_right_C4, S_prove_right_C5, S_prove_right_C6, S_prove_right_C7, S_prove_right_C8]
      exact rt_one hw (by repeat (first | with_reducible assumption | with_reducible exact AH.le.refl _ | with_reducible apply AH.le.up | (with_reducible refine AH.le.put hw ?_ ?_; · first | omega | (simp only [up_nx, put_nx, kill_nx]; done) | (simp only [up_nx, put_nx, kill_nx]; omega)) | (with_reducible refine AH.le.kill hw ?_ ?_; · first | omega | (simp only [up_nx, put_nx, kill_nx]; done) | (simp only [up_nx, put_nx, kill_nx]; omega)))) (by repeat (first | exact Cl.p _ | exact Cl.dsl _ _ | exact Cl.any | refine Cl.tup ?_ | refine Cl.agg ?_ | exact Clo.nil | refine Clo.cons ?_ ?_)) ⟨rfl, by rw [rb9, ← hX1]; rfl⟩
    | true =>
      simp (disch := first | omega | simp) [iv, bv, hlb, hcb, h12, put_get_ne, hr, g4, g5, Clm.av, Clm.cs, hca, hcbn, hpa, hpb, S_prove_right_C2, S_prove_right_C3, S_prove_right_C4, S_prove_right_C5, S_prove_right_C6, S_prove_right_C7, S_prove_right_C8]
      refine cav_pure (by kernel_rfl) (fun H' _ => c_all _ _ H') ?_
      simp (disch := first | omega | simp) [iv, bv, hlb, hcb, h12, put_get_ne, hr, g4, g5, Clm.av, Clm.cs, hca, hcbn, hpa, hpb, S_prove_right_C2, S_prove_right_C3, S_prove_right_C4, S_prove_right_C5, S_prove_right_C6, S_prove_right_C7, S_prove_right_C8]
      obtain ⟨X2, hX2⟩ : ∃ X, X = ((q.so == false) && (q.a == p.b) && (q.b == x.c.b)) := ⟨_, rfl⟩
      refine q_eqX (c := q) (d := ⟨false, p.b, x.c.b⟩) hX2 ?_
      cases X2 <;> simp (disch := first | omega | simp) [iv, bv, hlb, hcb, h12, put_get_ne, hr, g4, g5, Clm.av, Clm.cs, hca, hcbn, hpa, hpb, S_prove_right_C2, S_prove_right_C3, S_prove_right_C4, S_prove_right_C5, S_prove_right_C6, S_prove_right_C7, S_prove_right_C8] <;> exact rt_one hw (by repeat (first | with_reducible assumption | with_reducible exact AH.le.refl _ | with_reducible apply AH.le.up | (with_reducible refine AH.le.put hw ?_ ?_; · first | omega | (simp only [up_nx, put_nx, kill_nx]; done) | (simp only [up_nx, put_nx, kill_nx]; omega)) | (with_reducible refine AH.le.kill hw ?_ ?_; · first | omega | (simp only [up_nx, put_nx, kill_nx]; done) | (simp only [up_nx, put_nx, kill_nx]; omega)))) (by repeat (first | exact Cl.p _ | exact Cl.dsl _ _ | exact Cl.any | refine Cl.tup ?_ | refine Cl.agg ?_ | exact Clo.nil | refine Clo.cons ?_ ?_)) ⟨rfl, by rw [rb9, ← hX1, ← hX2]; simp [bv]⟩
  · obtain ⟨p, q, rfl⟩ := len2 hc2
    have hp := hofo p (by simp)
    have hpa := wneg_ok hp.1
    have hpb := wneg_ok hp.2
    simp only [pz, List.getD_cons_zero, List.getD_cons_succ] at h12
    cases hps : p.so with
    | true =>
      simp (disch := first | omega | simp) [iv, bv, hlb, hcb, h12, put_get_ne, hr, g4, g5, Clm.av, Clm.cs, hca, hcbn, hpa, hpb, hps, S_prove_right_C2, S_prove_right_C3, S_prove_right_C4, S_prove_right_C5, S_prove_right_C6, S_prove_right_C7, S_prove_right_C8]
      refine rt_one hw (by repeat (first | with_reducible assumption | with_reducible exact AH.le.refl _ | with_reducible apply AH.le.up | (with_reducible refine AH.le.put hw ?_ ?_; · first | omega | (simp only [up_nx, put_nx, kill_nx]; done) | (simp only [up_nx, put_nx, kill_nx]; omega)) | (with_reducible refine AH.le.kill hw ?_ ?_; · first | omega | (simp only [up_nx, put_nx, kill_nx]; done) | (simp only [up_nx, put_nx, kill_nx]; omega)))) (by repeat (first | exact Cl.p _ | exact Cl.dsl _ _ | exact Cl.any | refine Cl.tup ?_ | refine Cl.agg ?_ | exact Clo.nil | refine Clo.cons ?_ ?_)) (And.intro rfl ?_)
      rw [rb10, hps]; rfl
    | false =>
      simp (disch := first | omega | simp) [iv, bv, hlb, hcb, h12, put_get_ne, hr, g4, g5, Clm.av, Clm.cs, hca, hcbn, hpa, hpb, hps, S_prove_right_C2, S_prove_right_C3, S_prove_right_C4, S_prove_right_C5, S_prove_right_C6, S_prove_right_C7, S_prove_right_C8]
      refine cav_pure (by kernel_rfl) (fun H' _ => c_some _ _ H') ?_
      simp (disch := first | omega | simp) [iv, bv, hlb, hcb, h12, put_get_ne, hr, g4, g5, Clm.av, Clm.cs, hca, hcbn, hpa, hpb, hps, S_prove_right_C2, S_prove_right_C3, S_prove_right_C4, S_prove_right_C5, S_prove_right_C6, S_prove_right_C7, S_prove_right_C8]
      obtain ⟨X1, hX1⟩ : ∃ X, X = ((q.so == true) && (q.a == p.a) && (q.b == (-p.b))) := ⟨_, rfl⟩
      refine q_eqX (c := q) (d := ⟨true, p.a, (-p.b)⟩) hX1 ?_
      cases X1 <;> simp (disch := first | omega | simp) [iv, bv, hlb, hcb, h12, put_get_ne, hr, g4, g5, Clm.av, Clm.cs, hca, hcbn, hpa, hpb, hps, S_prove_right_C2, S_prove_right_C3, S_prove_right_C4, S_prove_right_C5, S_prove_right_C6, S_prove_right_C7, S_prove_right_C8] <;> exact rt_one hw (by repeat (first | with_reducible assumption | with_reducible exact AH.le.refl _ | with_reducible apply AH.le.up | (with_reducible refine AH.le.put hw ?_ ?_; · first | omega | (simp only [up_nx, put_nx, kill_nx]; done) | (simp only [up_nx, put_nx, kill_nx]; omega)) | (with_reducible refine AH.le.kill hw ?_ ?_; · first | omega | (simp only [up_nx, put_nx, kill_nx]; done) | (simp only [up_nx, put_nx, kill_nx]; omega)))) (by repeat (first | exact Cl.p _ | exact Cl.dsl _ _ | exact Cl.any | refine Cl.tup ?_ | refine Cl.agg ?_ | exact Clo.nil | refine Clo.cons ?_ ?_)) ⟨rfl, by rw [rb10, hps, ← hX1]; simp [bv]⟩
theorem loop_right {H H2 : AH} {p : List Clm} {l : List Lin} {n : Nat} {x : Lin} {b12 : Nat} (hw : WF H) (hle : H.le H2) (hn2 : H.nx + 9 ≤ H2.nx) (hlb : H2.get (H.nx + 4) = some (.box 36 x.cs)) (hcb : H2.get (H.nx + 8) = some (.box 24 x.c.cs)) (h12 : H2.get b12 = some (.box 66 ((pz [] 0).cs ++ (pz [] 1).cs))) (hb : H.nx + 9 ≤ b12)
    (hnl : n < l.length) (hn : n < 900000000) (hr1 : 2 ≤ x.rule) (hr2 : x.rule ≤ 10) (hc : x.src.length = countR x.rule) (hlo : ∀ y ∈ l, y.c.ok) (hok : x.c.ok) :
    LoopA Try.prog 1 (S_prove_right_L10 (.dsl 5 (l.map Lin.cs)) (.p (.int .i64 (n : Int))) (fun r H' => H' = H ∧ r = bv (rightB p (l.map (·.c)) n x)) H (.ptr (H.nx + 4) 0) (.ptr (H.nx + 8) 0) (.ptr b12 0) (.dsl 1 (x.src.map fun i => [.p (.int .i64 i)])) (.p (.int .i64 (x.src.length : Int)))) [.p (.int .i64 0)] H2 := by
  have hright : rightB p (l.map (·.c)) n x = match pickC (l.map (·.c)) n x.src with | some of => ruleB x.rule x.c of | none => false := by
    unfold rightB; rw [if_neg (by omega)]; rfl
  have hs2 : x.src.length ≤ 2 := by
    rw [hc]; unfold countR
    split
    · omega
    · split <;> omega
  rw [hright]
  refine loop_wf (fun s : Nat × List Clm => [iv s.1]) (fun s H' => s.1 ≤ x.src.length ∧ pickC (l.map (·.c)) n (x.src.take s.1) = some s.2 ∧ s.2.length = s.1 ∧ H.le H' ∧ H.nx + 9 ≤ H'.nx ∧ H'.get (H.nx + 4) = some (.box 36 x.cs) ∧ H'.get (H.nx + 8) = some (.box 24 x.c.cs) ∧ H'.get b12 = some (.box 66 ((pz s.2 0).cs ++ (pz s.2 1).cs))) (fun s => x.src.length - s.1) (0, []) (.refl (Nat.le_refl _)) ⟨Nat.zero_le _, rfl, rfl, hle, hn2, hlb, hcb, h12⟩ ?_
  rintro ⟨i, of⟩ H3 hn3 hw3 ⟨hi, hpk, hofl, hle3, hnx3, hlb3, hcb3, h123⟩ k hk
  dsimp only at hi hpk hofl h123 hk
  have hb3 := (hw3 _ _ h123).1
  unfold S_prove_right_L10
  by_cases hil : i < x.src.length
  · obtain ⟨z, hz⟩ : ∃ z, x.src[i]? = some z := ⟨_, List.getElem?_eq_getElem hil⟩
    have hzg : ∀ h, (x.src.map fun i => [AV.p (.int .i64 i)])[i]'h = [.p (.int .i64 z)] := fun h => by have := (List.getElem?_eq_some_iff.1 hz).2; simp [this]
    have hsl : (x.src.map fun i => [AV.p (.int .i64 i)]).length = x.src.length := by simp
    have hzm : (x.src.map fun i => [AV.p (.int .i64 i)])[i]? = some [.p (.int .i64 z)] := by simp [hz]
    have hiv := ivn (i := i) (by omega)
    by_cases hzr : 0 ≤ z ∧ z < n
    · obtain ⟨zn, rfl⟩ := Int.eq_ofNat_of_zero_le hzr.1
      have hzl : zn < l.length := by omega
      obtain ⟨y, hy⟩ : ∃ y, l[zn]? = some y := ⟨_, List.getElem?_eq_getElem hzl⟩
      have hyg : ∀ h, l[zn]'h = y := fun h => (List.getElem?_eq_some_iff.1 hy).2
      have hnn : ¬ n ≤ zn := by omega
      have hpk2 := pickC_next hpk hz hzr.1 hzr.2 (c := y.c) (by simp [hy])
      have hi2 : (i : Int) < 2 := by omega
      have hneg : ¬ ((zn : Int) < 0) := by omega
      have hofi : i = 0 ∨ i = 1 := by omega
      rcases hofi with rfl | rfl
      · have : of = [] := List.length_eq_zero_iff.1 hofl
        subst this
        unfold Clm.cs at h123
        simp only [Int.natCast_zero] at hiv hi2
        have hil0 : 0 < x.src.length := hil
        simp (disch := first | omega | simp) [iv, hil0, hzg, hsl, hnn, hneg, hzl, hyg, Lin.cs, h123]
        refine hk (1, [y.c]) _ _ _ (.refl (by first | omega | (simp only [up_nx, put_nx, kill_nx]; done) | (simp only [up_nx, put_nx, kill_nx]; omega))) ⟨hil, hpk2, rfl, (by repeat (first | with_reducible assumption | with_reducible exact AH.le.refl _ | with_reducible apply AH.le.up | (with_reducible refine AH.le.put hw ?_ ?_; · first | omega | (simp only [up_nx, put_nx, kill_nx]; done) | (simp only [up_nx, put_nx, kill_nx]; omega)) | (with_reducible refine AH.le.kill hw ?_ ?_; · first | omega | (simp only [up_nx, put_nx, kill_nx]; done) | (simp only [up_nx, put_nx, kill_nx]; omega)))), (by first | omega | (simp only [up_nx, put_nx, kill_nx]; done) | (simp only [up_nx, put_nx, kill_nx]; omega)), by rw [put_get_ne _ _ _ (by omega)]; exact hlb3, by rw [put_get_ne _ _ _ (by omega)]; exact hcb3, by rw [put_get]; rfl⟩ (by dsimp only; omega)
      · obtain ⟨q, rfl⟩ := List.length_eq_one_iff.1 hofl
        unfold Clm.cs at h123
        have hilz : (1 : Int) < (x.src.length : Int) := by omega
        simp (disch := first | omega | simp) [iv, hilz, hzg, hsl, hnn, hneg, hzl, hyg, Lin.cs, h123]
        refine hk (2, [q, y.c]) _ _ _ (.refl (by first | omega | (simp only [up_nx, put_nx, kill_nx]; done) | (simp only [up_nx, put_nx, kill_nx]; omega))) ⟨hil, hpk2, rfl, (by repeat (first | with_reducible assumption | with_reducible exact AH.le.refl _ | with_reducible apply AH.le.up | (with_reducible refine AH.le.put hw ?_ ?_; · first | omega | (simp only [up_nx, put_nx, kill_nx]; done) | (simp only [up_nx, put_nx, kill_nx]; omega)) | (with_reducible refine AH.le.kill hw ?_ ?_; · first | omega | (simp only [up_nx, put_nx, kill_nx]; done) | (simp only [up_nx, put_nx, kill_nx]; omega)))), (by first | omega | (simp only [up_nx, put_nx, kill_nx]; done) | (simp only [up_nx, put_nx, kill_nx]; omega)), by rw [put_get_ne _ _ _ (by omega)]; exact hlb3, by rw [put_get_ne _ _ _ (by omega)]; exact hcb3, by rw [put_get]; rfl⟩ (by dsimp only; omega)
    · have hnone := pickC_fail (l := l.map (·.c)) (n := n) hz hzr
      rw [hnone]
      by_cases hz0 : z < 0
      · simp (disch := first | omega | simp) [iv, hil, hzg, hsl, hz0]
        exact rt_one hw hle3 (by repeat (first | exact Cl.p _ | exact Cl.dsl _ _ | exact Cl.any | refine Cl.tup ?_ | refine Cl.agg ?_ | exact Clo.nil | refine Clo.cons ?_ ?_)) ⟨rfl, rfl⟩
      · have hz1 : (n : Int) ≤ z := by omega
        simp (disch := first | omega | simp) [iv, hil, hzg, hsl, hz0, hz1]
        exact rt_one hw hle3 (by repeat (first | exact Cl.p _ | exact Cl.dsl _ _ | exact Cl.any | refine Cl.tup ?_ | refine Cl.agg ?_ | exact Clo.nil | refine Clo.cons ?_ ?_)) ⟨rfl, rfl⟩
  · have hie : i = x.src.length := by omega
    rw [hie, List.take_length] at hpk
    simp (disch := first | omega | simp) [iv, hil]
    rw [hpk]
    refine fin_right hw hw3 hle3 hnx3 hlb3 hcb3 h123 hr1 hr2 (by omega) hok fun q hq => ?_
    obtain ⟨k, _, hk⟩ := pick_mem hpk q hq
    obtain ⟨y, hy, rfl⟩ := List.mem_map.1 (List.mem_of_getElem? hk)
    exact hlo y hy
set_option maxHeartbeats 1000000 in
theorem c_right (p : List Clm) (l : List Lin) (n : Nat) {x : Lin} (hx : l[n]? = some x) (hpo : ∀ q ∈ p, q.ok) (hlo : ∀ y ∈ l, y.c.ok) (hi64 : I64 x.rule) (hn : n < 900000000) (H : AH) :
    Tri Try.prog 25 [cE p, .dsl 5 (l.map Lin.cs), iv n] H (fun r H' => H' = H ∧ r = bv (rightB p (l.map (·.c)) n x)) := tri_wf fun hw => tri_len 1 rfl fun _ _ => tri_prove_right (by
  unfold S_prove_right
  have hmx : maxLen = 9223372036854775807 := by decide
  have hnl := (List.getElem?_eq_some_iff.1 hx).1
  have hlg : ∀ h, l[n]'h = x := fun h => (List.getElem?_eq_some_iff.1 hx).2
  have hsl : (x.src.map fun i => [AV.p (.int .i64 i)]).length = x.src.length := by simp
  by_cases hr1 : x.rule = 1
  · simp (disch := first | omega | simp) [cE, iv, put_get_ne, hnl, hlg, Lin.cs, hr1]
    unfold S_prove_right_C1
    have hgoal : rightB p (l.map (·.c)) n x = match pickC p p.length x.src with | some of => decide (of = [x.c]) | none => false := by
      unfold rightB
      rw [if_pos hr1]
      cases pickC p p.length x.src with
      | none => rfl
      | some of => simp [ruleB, hr1]; rw [Bool.eq_iff_iff]; simp
    rw [hgoal]
    match hs : x.src with
    | [] =>
      simp (disch := first | omega | simp) [put_get_ne, hs, iv]
      exact rt_one hw (by repeat (first | with_reducible assumption | with_reducible exact AH.le.refl _ | with_reducible apply AH.le.up | (with_reducible refine AH.le.put hw ?_ ?_; · first | omega | (simp only [up_nx, put_nx, kill_nx]; done) | (simp only [up_nx, put_nx, kill_nx]; omega)) | (with_reducible refine AH.le.kill hw ?_ ?_; · first | omega | (simp only [up_nx, put_nx, kill_nx]; done) | (simp only [up_nx, put_nx, kill_nx]; omega)))) (by repeat (first | exact Cl.p _ | exact Cl.dsl _ _ | exact Cl.any | refine Cl.tup ?_ | refine Cl.agg ?_ | exact Clo.nil | refine Clo.cons ?_ ?_)) ⟨rfl, rfl⟩
    | [z] =>
      by_cases hz0 : 0 ≤ z
      · obtain ⟨zn, rfl⟩ := Int.eq_ofNat_of_zero_le hz0
        by_cases hzp : zn < p.length
        · obtain ⟨q, hq⟩ : ∃ q, p[zn]? = some q := ⟨_, List.getElem?_eq_getElem hzp⟩
          have hqg : ∀ h, p[zn]'h = q := fun h => (List.getElem?_eq_some_iff.1 hq).2
          simp (disch := first | omega | simp) [put_get_ne, hs, iv, hzp, hqg, Clm.cs]
          refine q_eqClm (c := q) (d := x.c) ?_
          simp (disch := first | omega | simp) []
          refine rt_one hw (by repeat (first | with_reducible assumption | with_reducible exact AH.le.refl _ | with_reducible apply AH.le.up | (with_reducible refine AH.le.put hw ?_ ?_; · first | omega | (simp only [up_nx, put_nx, kill_nx]; done) | (simp only [up_nx, put_nx, kill_nx]; omega)) | (with_reducible refine AH.le.kill hw ?_ ?_; · first | omega | (simp only [up_nx, put_nx, kill_nx]; done) | (simp only [up_nx, put_nx, kill_nx]; omega)))) (by repeat (first | exact Cl.p _ | exact Cl.dsl _ _ | exact Cl.any | refine Cl.tup ?_ | refine Cl.agg ?_ | exact Clo.nil | refine Clo.cons ?_ ?_)) ⟨rfl, ?_⟩
          rw [pick_one hq hzp]
          simp [bv]
        · simp (disch := first | omega | simp) [put_get_ne, hs, iv, hzp]
          refine rt_one hw (by repeat (first | with_reducible assumption | with_reducible exact AH.le.refl _ | with_reducible apply AH.le.up | (with_reducible refine AH.le.put hw ?_ ?_; · first | omega | (simp only [up_nx, put_nx, kill_nx]; done) | (simp only [up_nx, put_nx, kill_nx]; omega)) | (with_reducible refine AH.le.kill hw ?_ ?_; · first | omega | (simp only [up_nx, put_nx, kill_nx]; done) | (simp only [up_nx, put_nx, kill_nx]; omega)))) (by repeat (first | exact Cl.p _ | exact Cl.dsl _ _ | exact Cl.any | refine Cl.tup ?_ | refine Cl.agg ?_ | exact Clo.nil | refine Clo.cons ?_ ?_)) ⟨rfl, ?_⟩
          rw [pickC, if_neg (by omega)]; rfl
      · simp (disch := first | omega | simp) [put_get_ne, hs, iv, hz0]
        refine rt_one hw (by repeat (first | with_reducible assumption | with_reducible exact AH.le.refl _ | with_reducible apply AH.le.up | (with_reducible refine AH.le.put hw ?_ ?_; · first | omega | (simp only [up_nx, put_nx, kill_nx]; done) | (simp only [up_nx, put_nx, kill_nx]; omega)) | (with_reducible refine AH.le.kill hw ?_ ?_; · first | omega | (simp only [up_nx, put_nx, kill_nx]; done) | (simp only [up_nx, put_nx, kill_nx]; omega)))) (by repeat (first | exact Cl.p _ | exact Cl.dsl _ _ | exact Cl.any | refine Cl.tup ?_ | refine Cl.agg ?_ | exact Clo.nil | refine Clo.cons ?_ ?_)) ⟨rfl, ?_⟩
        rw [pickC, if_neg (by omega)]; rfl
    | z :: z2 :: r =>
      have hl2 : ¬ ((r.length : Int) + 1 + 1 = 1) := by omega
      simp (disch := first | omega | simp) [put_get_ne, hs, iv, hl2]
      refine rt_one hw (by repeat (first | with_reducible assumption | with_reducible exact AH.le.refl _ | with_reducible apply AH.le.up | (with_reducible refine AH.le.put hw ?_ ?_; · first | omega | (simp only [up_nx, put_nx, kill_nx]; done) | (simp only [up_nx, put_nx, kill_nx]; omega)) | (with_reducible refine AH.le.kill hw ?_ ?_; · first | omega | (simp only [up_nx, put_nx, kill_nx]; done) | (simp only [up_nx, put_nx, kill_nx]; omega)))) (by repeat (first | exact Cl.p _ | exact Cl.dsl _ _ | exact Cl.any | refine Cl.tup ?_ | refine Cl.agg ?_ | exact Clo.nil | refine Clo.cons ?_ ?_)) ⟨rfl, ?_⟩
      cases hp : pickC p p.length (z :: z2 :: r) with
      | none => rfl
      | some of =>
        have := pickC_len hp
        simp only
        rw [decide_eq_false (fun e => by rw [e] at this; simp at this)]; rfl
  · simp (disch := first | omega | simp) [cE, iv, put_get_ne, hnl, hlg, Lin.cs, hr1]
    unfold S_prove_right_C11
    simp (disch := first | omega | simp) [put_get_ne, lawInt, keyInt hi64, keyLit]
    refine ⟨by decide, by decide, by decide, by decide, by decide, by decide, by decide, by decide, by decide, ?_⟩
    have hct := countT_out (r := x.rule)
    have hci := countT_in (r := x.rule)
    unfold countT at hct hci
    by_cases hrg : 2 ≤ x.rule ∧ x.rule ≤ 10
    · rw [hci hrg.1 hrg.2]
      by_cases hc : x.src.length = countR x.rule
      · have hcz : (x.src.length : Int) = (countR x.rule : Int) := by omega
        simp (disch := first | omega | simp) [put_get_ne, hcz]
        rw [← hcz]
        refine loop_right hw (by repeat (first | with_reducible assumption | with_reducible exact AH.le.refl _ | with_reducible apply AH.le.up | (with_reducible refine AH.le.put hw ?_ ?_; · first | omega | (simp only [up_nx, put_nx, kill_nx]; done) | (simp only [up_nx, put_nx, kill_nx]; omega)) | (with_reducible refine AH.le.kill hw ?_ ?_; · first | omega | (simp only [up_nx, put_nx, kill_nx]; done) | (simp only [up_nx, put_nx, kill_nx]; omega)))) (by first | omega | (simp only [up_nx, put_nx, kill_nx]; done) | (simp only [up_nx, put_nx, kill_nx]; omega)) (by simp (disch := first | omega | simp) [put_get_ne, Lin.cs, iv]) (by simp (disch := first | omega | simp) [put_get_ne, Clm.cs]) (put_get _ _) (by omega) hnl hn hrg.1 hrg.2 hc hlo (hlo x (List.mem_of_getElem? hx))
      · have hcz : ¬ (x.src.length : Int) = (countR x.rule : Int) := by omega
        simp (disch := first | omega | simp) [put_get_ne, hcz]
        refine rt_one hw (by repeat (first | with_reducible assumption | with_reducible exact AH.le.refl _ | with_reducible apply AH.le.up | (with_reducible refine AH.le.put hw ?_ ?_; · first | omega | (simp only [up_nx, put_nx, kill_nx]; done) | (simp only [up_nx, put_nx, kill_nx]; omega)) | (with_reducible refine AH.le.kill hw ?_ ?_; · first | omega | (simp only [up_nx, put_nx, kill_nx]; done) | (simp only [up_nx, put_nx, kill_nx]; omega)))) (by repeat (first | exact Cl.p _ | exact Cl.dsl _ _ | exact Cl.any | refine Cl.tup ?_ | refine Cl.agg ?_ | exact Clo.nil | refine Clo.cons ?_ ?_)) ⟨rfl, ?_⟩
        unfold rightB
        rw [if_neg hr1]
        cases hpc : pickC (l.map (·.c)) n x.src with
        | none => rfl
        | some of => simp only; rw [ruleB_count fun h => hc (by rw [← pickC_len hpc]; exact h.2.2)]; rfl
    · rw [hct hrg]
      simp (disch := first | omega | simp) [put_get_ne]
      refine rt_one hw (by repeat (first | with_reducible assumption | with_reducible exact AH.le.refl _ | with_reducible apply AH.le.up | (with_reducible refine AH.le.put hw ?_ ?_; · first | omega | (simp only [up_nx, put_nx, kill_nx]; done) | (simp only [up_nx, put_nx, kill_nx]; omega)) | (with_reducible refine AH.le.kill hw ?_ ?_; · first | omega | (simp only [up_nx, put_nx, kill_nx]; done) | (simp only [up_nx, put_nx, kill_nx]; omega)))) (by repeat (first | exact Cl.p _ | exact Cl.dsl _ _ | exact Cl.any | refine Cl.tup ?_ | refine Cl.agg ?_ | exact Clo.nil | refine Clo.cons ?_ ?_)) ⟨rfl, ?_⟩
      unfold rightB
      rw [if_neg hr1]
      cases pickC (l.map (·.c)) n x.src with
      | none => rfl
      | some of => simp only; rw [ruleB_count fun h => hrg ⟨by omega, h.2.1⟩]; rfl)
end Go.Proofs.Ytcmnjoepadjioaa

/- Sound: is each line right. -/
namespace Go.Proofs.Ytcmnjoepadjioaa
open Go.RowKit Go.Maps
def okS (p : List Clm) (l : List Lin) : Int := if l.length > 400 then 7 else okP p (l.map (·.c))
def soundB (p : List Clm) (l : List Lin) : Bool := (List.range l.length).all fun i => match l[i]? with | some x => rightB p (l.map (·.c)) i x | none => true
/-- what is held is told anew ahead of a call that only reads -/
theorem ca_pure' {P : Program} {H H2 : AH} {f : FuncId} {ps qs : List AV} {r : AV} {k : AV → AH → Prop} (hc : callable P f = true) (hg : Gst P H H2) (hs : Subs P H2 ps qs) (h : Tri P f qs H2 (fun v H' => H' = H2 ∧ v = r)) (hk : k r H2) : Ca P (.fn (.func f) [] []) ps k H :=
  ca_of hc (Tri.st hg (Tri.args (qs := qs) (by simpa using hs) h)) fun v H' hq => by obtain ⟨rfl, rfl⟩ := hq; exact hk
theorem c_Sound (p : List Clm) (l : List Lin) (hi : ∀ x ∈ l, I64 x.rule) (H : AH) : Tri Try.prog 13 [cE p, .dsl 5 (l.map Lin.cs)] H (fun r H' => H' = H ∧ r = .tup [bv (decide (okS p l = 0) && soundB p l), iv (okS p l)]) := tri_wf fun hw => tri_prove_Sound (by
  have hmx : maxLen = 9223372036854775807 := by decide
  unfold S_prove_Sound
  by_cases hl : l.length > 400
  · have hl2 : (400 : Int) < (l.length : Int) := by omega
    have hok : okS p l = 7 := by unfold okS; rw [if_pos hl]
    simp (disch := first | omega | simp) [hl2, hok]
    exact rt_tup hw (by repeat (first | with_reducible assumption | with_reducible exact AH.le.refl _ | with_reducible apply AH.le.up | (with_reducible refine AH.le.put hw ?_ ?_; · first | omega | (simp only [up_nx, put_nx, kill_nx]; done) | (simp only [up_nx, put_nx, kill_nx]; omega)) | (with_reducible refine AH.le.kill hw ?_ ?_; · first | omega | (simp only [up_nx, put_nx, kill_nx]; done) | (simp only [up_nx, put_nx, kill_nx]; omega)))) (by repeat (first | exact Cl.p _ | exact Cl.dsl _ _ | exact Cl.any | refine Cl.tup ?_ | refine Cl.agg ?_ | exact Clo.nil | refine Clo.cons ?_ ?_)) ⟨rfl, rfl⟩
  have hl2 : ¬ (400 : Int) < (l.length : Int) := by omega
  have hok : okS p l = okP p (l.map (·.c)) := by unfold okS; rw [if_neg hl]
  simp (disch := first | omega | simp) [hl2, hok]
  refine loop_st (fun s : AV × Nat => [s.1, iv s.2]) (fun s H' => s.2 ≤ l.length ∧ H.le H' ∧ H.nx ≤ H'.nx ∧ Grows 24 3 H H' s.1 (((l.take s.2).map (·.c)).map Clm.cs)) (fun s => l.length - s.2) (.p (.slice none 0 0), 0) (.refl (Nat.le_refl _)) ⟨Nat.zero_le _, .refl _, Nat.le_refl _, .nil _ _ _ _⟩ ?_
  rintro ⟨v, i⟩ H1 hn1 ⟨hil, hle, hn, hv⟩ k hk
  dsimp only at hil hv hk
  unfold S_prove_Sound_L2
  by_cases hi2 : i < l.length
  · obtain ⟨x, hx⟩ : ∃ x, l[i]? = some x := ⟨_, List.getElem?_eq_getElem hi2⟩
    have hxg : ∀ h, l[i]'h = x := fun h => (List.getElem?_eq_some_iff.1 hx).2
    have hiv := ivn (i := i) (by omega)
    have hll : ((l.take i).map (·.c)).length ≤ 400 := by rw [List.length_map, List.length_take]; omega
    simp (disch := first | omega | simp) [iv, hi2, hxg, Lin.cs]
    refine Grows.app (t := 24) hw (hv.kp (by repeat (first | with_reducible assumption | with_reducible exact Kp.refl _ | with_reducible apply Kp.up | (with_reducible refine Kp.put ?_ ?_; · first | omega | (simp only [up_nx, put_nx, kill_nx]; done) | (simp only [up_nx, put_nx, kill_nx]; omega)) | (with_reducible refine Kp.kill ?_ ?_; · first | omega | (simp only [up_nx, put_nx, kill_nx]; done) | (simp only [up_nx, put_nx, kill_nx]; omega))))) (by repeat (first | with_reducible assumption | with_reducible exact AH.le.refl _ | with_reducible apply AH.le.up | (with_reducible refine AH.le.put hw ?_ ?_; · first | omega | (simp only [up_nx, put_nx, kill_nx]; done) | (simp only [up_nx, put_nx, kill_nx]; omega)) | (with_reducible refine AH.le.kill hw ?_ ?_; · first | omega | (simp only [up_nx, put_nx, kill_nx]; done) | (simp only [up_nx, put_nx, kill_nx]; omega)))) (by first | omega | (simp only [up_nx, put_nx, kill_nx]; done) | (simp only [up_nx, put_nx, kill_nx]; omega)) (by first | omega | (simp only [up_nx, put_nx, kill_nx]; done) | (simp only [up_nx, put_nx, kill_nx]; omega)) (ys := [x.c.cs]) ?_ (dt_clm [x.c]) ?_ ?_ fun v' H3 g3 l3 n3 k3 _ => ?_
    · simp [Clm.cs]
    · rw [List.length_map]; simp only [List.length_singleton]; omega
    · rw [List.length_map]; simp only [List.length_singleton]; omega
    · rw [q_add_i, hiv]
      refine hk (v', i + 1) _ _ _ (.refl (by simp only [up_nx, put_nx] at n3; omega)) ⟨hi2, l3, by simp only [up_nx, put_nx] at n3; omega, ?_⟩ (by dsimp only; omega)
      dsimp only
      rw [List.take_add_one, hx, Option.toList_some, List.map_append, List.map_append]; exact g3
  · have hie : i = l.length := by omega
    subst hie
    rw [List.take_length] at hv
    simp (disch := first | omega | simp) [iv]
    obtain ⟨H2, f1, f2, f3, f4, f5⟩ := hv.fz (P := Try.prog) hw hle hn
    refine ca_pure' (by kernel_rfl) f1 (.cons (.refl _) (.cons f5 .nil)) (c_checkAll p (l.map fun x : Lin => x.c) (by rw [List.length_map]; omega) H2) ?_
    generalize hokv : okP p (l.map (·.c)) = e
    by_cases he : e = 0
    · subst he
      obtain ⟨hpl, hpo⟩ := okP_zero hokv
      have hlo : ∀ y ∈ l, y.c.ok := fun y hy => hpo _ (List.mem_append_right _ (List.mem_map.2 ⟨y, hy, rfl⟩))
      simp (disch := first | omega | simp) [iv]
      refine loop_st (fun i : Nat => [iv i]) (fun i H' => i ≤ l.length ∧ H' = H2 ∧ ∀ j, j < i → ∀ x, l[j]? = some x → rightB p (l.map (·.c)) j x = true) (fun i => l.length - i) 0 (.refl (Nat.le_refl _)) ⟨Nat.zero_le _, rfl, fun j hj => absurd hj (Nat.not_lt_zero _)⟩ ?_
      rintro i H3 hn3 ⟨hil, rfl, hall⟩ k2 hk2
      unfold S_prove_Sound_L1
      by_cases hi2 : i < l.length
      · obtain ⟨x, hx⟩ : ∃ x, l[i]? = some x := ⟨_, List.getElem?_eq_getElem hi2⟩
        have hiv := ivn (i := i) (by omega)
        simp (disch := first | omega | simp) [iv, hi2]
        refine ca_pure (by kernel_rfl) (c_right p l i hx (fun q hq => hpo q (List.mem_append_left _ hq)) hlo (hi x (List.mem_of_getElem? hx)) (by omega) _) ?_
        cases hr : rightB p (l.map (·.c)) i x with
        | true =>
          simp (disch := first | omega | simp) [bv, hiv]
          refine hk2 (i + 1) _ _ _ (.refl hn3) ⟨hi2, rfl, fun j hj y hy => ?_⟩ (by omega)
          by_cases e : j = i
          · subst e; rw [hx] at hy; injection hy with hy; subst hy; exact hr
          · exact hall j (by omega) y hy
        | false =>
          simp (disch := first | omega | simp) [bv]
          refine rt_tup hw f2 (by repeat (first | exact Cl.p _ | exact Cl.dsl _ _ | exact Cl.any | refine Cl.tup ?_ | refine Cl.agg ?_ | exact Clo.nil | refine Clo.cons ?_ ?_)) ⟨rfl, ?_⟩
          have : soundB p l = false := by
            unfold soundB
            rw [List.all_eq_false]
            exact ⟨i, List.mem_range.2 hi2, by rw [hx]; simp [hr]⟩
          simp [this, bv, iv]
      · simp (disch := first | omega | simp) [iv, hi2]
        refine rt_tup hw f2 (by repeat (first | exact Cl.p _ | exact Cl.dsl _ _ | exact Cl.any | refine Cl.tup ?_ | refine Cl.agg ?_ | exact Clo.nil | refine Clo.cons ?_ ?_)) ⟨rfl, ?_⟩
        have : soundB p l = true := by
          unfold soundB
          rw [List.all_eq_true]
          intro j hj
          obtain ⟨y, hy⟩ : ∃ y, l[j]? = some y := ⟨_, List.getElem?_eq_getElem (List.mem_range.1 hj)⟩
          rw [hy]
          exact hall j (by have := List.mem_range.1 hj; omega) y hy
        simp [this, bv, iv]
    · simp (disch := first | omega | simp) [iv, he]
      exact rt_tup hw f2 (by repeat (first | exact Cl.p _ | exact Cl.dsl _ _ | exact Cl.any | refine Cl.tup ?_ | refine Cl.agg ?_ | exact Clo.nil | refine Clo.cons ?_ ?_)) ⟨rfl, by simp [he, iv, bv]⟩)
end Go.Proofs.Ytcmnjoepadjioaa

/- What comes into the laws of what follows: claims and lines, and that what comes in can be read so. -/
namespace Go.Proofs.Ytcmnjoepadjioaa
open Go.RowKit
def rClm : Rep (Bool × Int × Int) := rPair rBool (rPair rInt rInt)
def toC (x : Bool × Int × Int) : Clm := ⟨x.1, x.2.1, x.2.2⟩
def Clm.i64 (c : Clm) : Prop := I64 c.a ∧ I64 c.b
theorem avs_clm : AvsG rClm toC Clm.cs Clm.i64 := (avs_bool.pair (avs_int.pair avs_int)).map (fun x => (⟨x.1, x.2.1, x.2.2⟩ : Clm)) Clm.cs Clm.i64 (fun _ => rfl) (fun _ h => h.2)
theorem opens_clm : Opens Try.prog 24 rClm :=
  opens_struct (l := [_, _, _]) Try.underlying24 rfl (opens_more rfl rfl (opens_bool Try.underlying4) (opens_more rfl rfl (opens_int Try.underlying3) (opens_last rfl rfl (opens_int Try.underlying3))))
theorem opens_clms : Opens Try.prog 32 (rList rClm) := opens_slice Try.underlying32 rfl (by decide) opens_clm
theorem opens_ints : Opens Try.prog 22 (rList rInt) := opens_slice Try.underlying22 rfl (by decide) (opens_int Try.underlying3)
end Go.Proofs.Ytcmnjoepadjioaa

/- The law ProveSound, walked. -/
namespace Go.Proofs.Ytcmnjoepadjioaa
open Go.RowKit Go.Maps
theorem c_ProveSound (p : List Clm) (l : List Lin) (hi : ∀ x ∈ l, I64 x.rule) (hb : l.length ≤ 1048576) (hsl : ∀ x ∈ l, x.src.length ≤ 1048576) (H : AH) : Tri Try.prog 4 [cE p, .dsl 5 (l.map Lin.cs)] H (fun r _ => r = .p (.bool true)) := tri_wf fun hw => tri_wordhoardlaw_ProveSound (by
  have hmx : maxLen = 9223372036854775807 := by decide
  unfold S_wordhoardlaw_ProveSound
  refine ca_pure (by kernel_rfl) (c_Sound p l hi _) ?_
  simp (disch := first | omega | simp) []
  refine loop_st (fun s : AV × Nat => [s.1, iv s.2]) (fun s H' => s.2 ≤ l.length ∧ H.le H' ∧ H.nx ≤ H'.nx ∧ Grows 24 3 H H' s.1 (((l.take s.2).map (·.c)).map Clm.cs)) (fun s => l.length - s.2) (.p (.slice none 0 0), 0) (.refl (Nat.le_refl _)) ⟨Nat.zero_le _, .refl _, Nat.le_refl _, .nil _ _ _ _⟩ ?_
  rintro ⟨v, i⟩ H1 hn1 ⟨hil, hle, hn, hv⟩ k hk
  dsimp only at hil hv hk
  unfold S_wordhoardlaw_ProveSound_L3
  by_cases hi2 : i < l.length
  · obtain ⟨x, hx⟩ : ∃ x, l[i]? = some x := ⟨_, List.getElem?_eq_getElem hi2⟩
    have hxg : ∀ h, l[i]'h = x := fun h => (List.getElem?_eq_some_iff.1 hx).2
    have hiv := ivn (i := i) (by omega)
    have hll : ((l.take i).map (·.c)).length ≤ 1048576 := by rw [List.length_map, List.length_take]; omega
    simp (disch := first | omega | simp) [iv, hi2, hxg, Lin.cs]
    refine Grows.app (t := 24) hw (hv.kp (by repeat (first | with_reducible assumption | with_reducible exact Kp.refl _ | with_reducible apply Kp.up | (with_reducible refine Kp.put ?_ ?_; · first | omega | (simp only [up_nx, put_nx, kill_nx]; done) | (simp only [up_nx, put_nx, kill_nx]; omega)) | (with_reducible refine Kp.kill ?_ ?_; · first | omega | (simp only [up_nx, put_nx, kill_nx]; done) | (simp only [up_nx, put_nx, kill_nx]; omega))))) (by repeat (first | with_reducible assumption | with_reducible exact AH.le.refl _ | with_reducible apply AH.le.up | (with_reducible refine AH.le.put hw ?_ ?_; · first | omega | (simp only [up_nx, put_nx, kill_nx]; done) | (simp only [up_nx, put_nx, kill_nx]; omega)) | (with_reducible refine AH.le.kill hw ?_ ?_; · first | omega | (simp only [up_nx, put_nx, kill_nx]; done) | (simp only [up_nx, put_nx, kill_nx]; omega)))) (by first | omega | (simp only [up_nx, put_nx, kill_nx]; done) | (simp only [up_nx, put_nx, kill_nx]; omega)) (by first | omega | (simp only [up_nx, put_nx, kill_nx]; done) | (simp only [up_nx, put_nx, kill_nx]; omega)) (ys := [x.c.cs]) ?_ (dt_clm [x.c]) ?_ ?_ fun v' H3 g3 l3 n3 k3 _ => ?_
    · simp [Clm.cs]
    · rw [List.length_map]; simp only [List.length_singleton]; omega
    · rw [List.length_map]; simp only [List.length_singleton]; omega
    · rw [q_add_i, hiv]
      refine hk (v', i + 1) _ _ _ (.refl (by simp only [up_nx, put_nx] at n3; omega)) ⟨hi2, l3, by simp only [up_nx, put_nx] at n3; omega, ?_⟩ (by dsimp only; omega)
      dsimp only
      rw [List.take_add_one, hx, Option.toList_some, List.map_append, List.map_append]; exact g3
  · have hie : i = l.length := by omega
    subst hie
    rw [List.take_length] at hv
    simp (disch := first | omega | simp) [iv]
    refine cut_st (fun e : Int => [iv e]) (fun e H' => e = okS p l ∧ H.nx ≤ H'.nx) (fun k hk => ?_) ?_
    · by_cases hl : l.length > 400
      · have hl2 : (400 : Int) < (l.length : Int) := by omega
        simp (disch := first | omega | simp) [iv, hl2]
        exact hk 7 _ _ _ (.refl (Nat.le_refl _)) ⟨by unfold okS; rw [if_pos hl], hn⟩
      · have hl2 : ¬ (400 : Int) < (l.length : Int) := by omega
        simp (disch := first | omega | simp) [iv, hl2]
        obtain ⟨H2, f1, f2, f3, f4, f5⟩ := hv.fz (P := Try.prog) hw hle hn
        refine ca_pure' (by kernel_rfl) f1 (.cons (.refl _) (.cons f5 .nil)) (c_RCheckClaims p (l.map fun x : Lin => x.c) (by rw [List.length_map]; omega) H2) ?_
        exact hk _ _ _ _ (.refl (by omega)) ⟨by unfold okS; rw [if_neg hl], by omega⟩
    · rintro e H2 hn2 ⟨rfl, hnx2⟩
      unfold S_wordhoardlaw_ProveSound_K2
      simp (disch := first | omega | simp) [iv]
      refine loop_st (fun s : Bool × Nat => [bv s.1, iv s.2]) (fun s H' => s.2 ≤ l.length ∧ H.nx ≤ H'.nx ∧ (s.1 = true ↔ okS p l = 0 ∧ ∀ j, j < s.2 → ∀ x, l[j]? = some x → rightB p (l.map (·.c)) j x = true) ∧ (s.1 = false ∨ s.2 ≤ l.length)) (fun s => l.length - s.2) (decide (okS p l = 0), 0) (.refl (Nat.le_refl _)) ⟨Nat.zero_le _, hnx2, by simp, .inr (Nat.zero_le _)⟩ ?_
      rintro ⟨b, i⟩ H3 hn3 ⟨hil3, hnx3, hb3, _⟩ k3 hk3
      dsimp only at hil3 hb3 hk3
      unfold S_wordhoardlaw_ProveSound_L1
      have fin : (b = true → ¬ i < l.length) → b = (decide (okS p l = 0) && soundB p l) := fun hq => by
        rw [Bool.eq_iff_iff, hb3]
        simp only [Bool.and_eq_true, decide_eq_true_eq]
        constructor
        · rintro ⟨h1, h2⟩
          refine ⟨h1, ?_⟩
          have hbt : b = true := hb3.2 ⟨h1, h2⟩
          have := hq hbt
          unfold soundB
          rw [List.all_eq_true]
          intro j hj
          obtain ⟨y, hy⟩ : ∃ y, l[j]? = some y := ⟨_, List.getElem?_eq_getElem (List.mem_range.1 hj)⟩
          rw [hy]
          exact h2 j (by have := List.mem_range.1 hj; omega) y hy
        · rintro ⟨h1, h2⟩
          refine ⟨h1, fun j hj y hy => ?_⟩
          unfold soundB at h2
          rw [List.all_eq_true] at h2
          have := h2 j (List.mem_range.2 (by omega))
          rw [hy] at this; exact this
      have stop : (b = true → ¬ i < l.length) → (Ca Try.prog (.fn (.func 10) [] []) [] fun v55 => Gd v55 true (fun k => k (.p (.int .i64 (okS p l)))) fun v57 => Gd v55 true (fun k => k (.p (.int .i64 (okS p l)))) fun v58 => Gd v55 true (fun k => Pu Try.prog (.bin .eql 25) [v57, v58] k) fun v59 => Pu Try.prog .pick [v55, v59, .p (.bool false)] fun v60 => Gd v60 true (fun k => k (.p (.bool (decide (okS p l = 0) && soundB p l)))) fun v62 => Gd v60 true (fun k => k (.p (.bool b))) fun v63 => Gd v60 true (fun k => Pu Try.prog (.bin .eql 4) [v62, v63] k) fun v64 => Pu Try.prog .pick [v60, v64, .p (.bool false)] fun v65 => Rt Try.prog H.nx v65 (fun r _ => r = .p (.bool true))) H3 := fun hq => by
        refine ca_pure (by kernel_rfl) pc_begun ?_
        have hu : Try.prog.underlying 4 = some .bool := Try.underlying4
        simp (disch := first | omega | simp) [bv, hu, ← fin hq]
        exact rt_refl rfl hnx3
      by_cases hi2 : i < l.length
      · cases b with
        | false =>
          simp (disch := first | omega | simp) [iv, bv, hi2]
          exact stop (fun h => by cases h)
        | true =>
          obtain ⟨x, hx⟩ : ∃ x, l[i]? = some x := ⟨_, List.getElem?_eq_getElem hi2⟩
          have hiv := ivn (i := i) (by omega)
          obtain ⟨h0, hall⟩ := hb3.1 rfl
          have hok : okP p (l.map (·.c)) = 0 := by
            unfold okS at h0
            split at h0
            · cases h0
            · exact h0
          obtain ⟨hpl, hpo⟩ := okP_zero hok
          have hlo : ∀ y ∈ l, y.c.ok := fun y hy => hpo _ (List.mem_append_right _ (List.mem_map.2 ⟨y, hy, rfl⟩))
          simp (disch := first | omega | simp) [iv, bv, hi2]
          refine ca_pure (by kernel_rfl) (c_SoundLine p l i hx (fun q hq => hpo q (List.mem_append_left _ hq)) hlo (by have := hsl x (List.mem_of_getElem? hx); omega) (by omega) _) ?_
          simp (disch := first | omega | simp) [bv, hiv]
          refine hk3 (rightB p (l.map (·.c)) i x, i + 1) _ _ _ (.refl hn3) ⟨hi2, hnx3, ?_, .inr hi2⟩ (by dsimp only; omega)
          dsimp only
          constructor
          · intro hr
            refine ⟨h0, fun j hj y hy => ?_⟩
            by_cases e : j = i
            · subst e; rw [hx] at hy; injection hy with hy; subst hy; exact hr
            · exact hall j (by omega) y hy
          · rintro ⟨_, h2⟩; exact h2 i (by omega) x hx
      · simp (disch := first | omega | simp) [iv, bv, hi2]
        exact stop (fun _ => hi2))
def rLin : Rep (Int × (Bool × Int × Int) × List Int) := rPair rInt (rPair rClm (rList rInt))
def toL (x : Int × (Bool × Int × Int) × List Int) : Lin := ⟨x.1, toC x.2.1, x.2.2⟩
theorem avs_lin : AvsG rLin toL Lin.cs (fun x => I64 x.rule) := fun w S cs y hr => by
  obtain ⟨q1, q2⟩ := (avs_int.pair (avs_clm.pair (avs_int.list (by decide)))) w S cs y hr
  refine ⟨q1.1, ?_⟩
  have e : (y.2.2.map id) = y.2.2 := List.map_id y.2.2
  simp only [e] at q2
  exact q2
theorem opens_lin : Opens Try.prog 36 rLin :=
  opens_struct (l := [_, _, _]) Try.underlying36 rfl (opens_more rfl rfl (opens_int Try.underlying3) (opens_more rfl rfl opens_clm (opens_last rfl rfl opens_ints)))
theorem opens_lins : Opens Try.prog 33 (rList rLin) := opens_slice Try.underlying33 rfl (by decide) opens_lin
theorem lin_bulk : ∀ (l : List (Int × (Bool × Int × Int) × List Int)), l.length ≤ (l.map rLin.bulk).sum ∧ ∀ x ∈ l, x.2.2.length ≤ (l.map rLin.bulk).sum
  | [] => ⟨by simp, by simp⟩
  | a :: r => by
    obtain ⟨h1, h2⟩ := lin_bulk r
    have hi : ∀ xs : List Int, (xs.map rInt.bulk).sum = xs.length := fun xs => by induction xs with
      | nil => rfl
      | cons b bs ih => rw [List.map_cons, List.sum_cons, ih, List.length_cons]; show 1 + _ = _; omega
    have ha : a.2.2.length + 1 ≤ rLin.bulk a := by
      show _ ≤ 1 + (_ + ((a.2.2.map rInt.bulk).sum + 1))
      rw [hi]; omega
    rw [List.map_cons, List.sum_cons, List.length_cons]
    refine ⟨by omega, fun x hx => ?_⟩
    rcases List.mem_cons.1 hx with rfl | hx
    · omega
    · have := h2 x hx; omega
end Go.Proofs.Ytcmnjoepadjioaa

namespace Go.Proofs.Ytcmnjoepadjioaa.proveArgues
open Go.ChangeShapes Go.WideShapes Go.ChangeAt Go.RowKit
open Go.ChangeMaps (open_string shut_string)

theorem contract (H : Type) (enc : TypeId × Value → H) (W : World) (base : Nat) (args : Array Value) (ds gs : List (DataW H)) (before : List MemPlace)
    (hval : ∀ (j : Nat) t v, Try.f5.params[j]? = some t → args[j]? = some v → Value.okWide Try.prog W .any base t v)
    (hW : DataW.Whole enc Try.prog Try.f5.params.toList Rows.proveArguesSpec.vars false W args.toList ds gs before) :
    Calls Try.prog 5 args W fun e W' => ∃ v, e = .returned v ∧ Rows.proveArguesSpec.post enc Try.prog Try.f5 false true false false W args v W' := by
  have hW' := hW
  obtain ⟨p, q, hA0, hV, rfl, hfz, hnd⟩ := hW
  have hA : DataW.TrodAll enc Try.prog W 0 (fun _ => true) true Try.f5.params.toList args.toList ds p := hA0
  rw [Try.params5] at hA hval
  obtain ⟨v0, v1, d0, d1, p0, p1, rfl, rfl, rfl, h0, h1⟩ := trodAll_two hA
  obtain ⟨rfl, rfl⟩ := trodVars_none hV
  obtain ⟨A0, c0, x0, rfl, hs0, hb0⟩ := arg_slice opens_clms Try.underlying32 (hval 0 32 v0 rfl rfl) h0
  obtain ⟨cs1, x1, rfl, hs1, hb1⟩ := arg_struct opens_clm Try.underlying24 (hval 1 24 v1 rfl rfl) h1
  obtain ⟨k0, r0⟩ := (avs_clm).sl (by decide) (σ' := fun _ => none) hs0
  obtain ⟨k1, r1⟩ := (avs_clm).agg (σ' := fun _ => none) hs1
  refine (law_calls (us := [.slice A0 x0.length c0, .agg cs1]) (c_ProveArgues (x0.map toC) (toC x1) _) (.cons r0 (.cons r1 .nil))).mono fun e W' ⟨he, hg⟩ => ?_
  subst he
  exact ⟨_, rfl, post_true rfl Try.underlying4 rfl laidOut (by kernel_rfl) hW' rfl hg⟩

set_option maxRecDepth 100000 in
theorem lifted (os : Os) (started : os.Started) (H : Type) (enc : TypeId × Value → H) :
    ReturnsInHanded {} Try.checked os 5 .any (Rows.proveArguesSpec.pre6 enc Try.prog Try.f5 Rows.proveArguesRow.domain false) (Rows.proveArguesSpec.post enc Try.prog Try.f5 false true false false) := by
  refine returnsInHanded_of_change (C := Try.checked) own started (by kernel_rfl) Try.func5
    (ChangeSpec.witness6 (enc := enc) (C := Try.checked) false ⟨#[], #[.slice none 0 0, .agg #[.bool false, .int .i64 0, .int .i64 0]], []⟩ 8 (by kernel_rfl) (by kernel_rfl) (by kernel_rfl) (by kernel_rfl)) ?_
  intro W base args ds gs before hval hW _ _
  exact contract H enc W base args ds gs before hval hW

theorem proved : Rows.ProveArguesSaid :=
  OpenClaim.holds_of_wide 5 Try.f5 rfl rfl rfl rfl rfl rfl rfl ⟨rfl, rfl, rfl, rfl, rfl⟩ rfl rfl rfl rfl rfl (by kernel_rfl) Try.func5 (by kernel_rfl)
    (of_decide_eq_true (by kernel_rfl)) (by unfold Func.isWrapper; first | (rw [if_pos (by decide +kernel)]; kernel_rfl) | (rw [if_neg (by decide +kernel)]; exact ⟨rfl, rfl⟩))
    (fun os started H enc _ => lifted os started H enc)
end Go.Proofs.Ytcmnjoepadjioaa.proveArgues
