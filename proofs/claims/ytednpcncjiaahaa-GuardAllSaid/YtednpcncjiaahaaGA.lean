/-
  Functions of the program, printed as functions of values (by a program of this claim), each with the proof that the code is it. Conditions: none.
-/
import Derived.Test.YtednpcncjiaahaaRs6
import Derived.Test.YtednpcncjiaahaaProg
set_option linter.unusedVariables false
set_option linter.unusedSimpArgs false
set_option maxRecDepth 100000
namespace Go.Proofs.Try
open Go.Ab
namespace R

-- footman/footmanlaw4.GuardEdges
noncomputable def F6_j1 (cf : CallF) (lf : Nat) : Fv 8 := fun v42 v43 v44 v45 v46 v47 v48 v49 h50 =>
 cl (cf 17 [v47, v44, v45, (.i .i64 (.ofNat 0))] h50) fun v51 h52 =>
 bn prog .eql 4 v51 v46 fun v53 =>
 vb v53 fun q54 => ifB q54 (
 cl (cf 17 [v47, v44, v45, (.i .i64 (.ofNat 1))] h52) fun v55 h56 =>
 vb v46 fun q57 => ifB q57 (
 bn prog .eql 4 v55 v43 fun v58 =>
 vb v58 fun q59 => ifB q59 (
 cl (cf 17 [v47, v44, v45, (.i .i64 (.ofNat 2))] h56) fun v60 h61 =>
 vb v46 fun q62 => ifB q62 (
 bn prog .eql 4 v60 v42 fun v63 =>
 vb v63 fun q64 => ifB q64 (
 cl (cf 17 [v48, v44, v45, (.i .i64 (.ofNat 0))] h61) fun v65 h66 =>
 vb v46 fun q67 => ifB q67 (
 bn prog .eql 4 v65 (.b true) fun v68 =>
 vb v68 fun q69 => ifB q69 (
 cl (cf 17 [v48, v44, v45, (.i .i64 (.ofNat 2))] h66) fun v70 h71 =>
 vb v46 fun q72 => ifB q72 (
 vb v42 fun q73 => ifB q73 (
 bn prog .eql 4 v70 (.b true) fun v74 =>
 vb v74 fun q75 => ifB q75 (
 cl (cf 17 [v47, v44, (.i .u32 (.ofNat 0)), (.i .i64 (.ofNat 0))] h71) fun v76 h77 =>
 o1 (unV .not v76) fun v78 =>
 vb v78 fun q79 => ifB q79 (
 cl (cf 17 [v48, v44, v45, (.i .i64 (.ofNat 3))] h77) fun v80 h81 =>
 o1 (unV .not v80) fun v82 =>
 vb v82 fun q83 => ifB q83 (
 cl (cf 17 [v48, v44, v45, (.i .i64 (.negSucc 0))] h81) fun v84 h85 =>
 o1 (unV .not v84) fun v86 =>
 vb v86 fun q87 => ifB q87 (
 o1 (buildV prog 37 [(1, (.i .u32 (.ofNat 4294967292))), (2, (.b true)), (3, (.b true))]) fun v88 =>
 o2 (buildSliceV prog 38 1 [(0, v88)] h85) fun v89 h90 =>
 cl (cf 17 [v89, (.i .u32 (.ofNat 4294967292)), v45, (.i .i64 (.ofNat 0))] h90) fun v91 h92 =>
 o1 (unV .not v91) fun v93 =>
 vb v93 fun q94 => ifB q94 (
 cl (cf 18 [] h92) fun v95 h96 =>
 rt v95 h96) (
 rt (.b false) h92)) (
 rt (.b false) h85)) (
 rt (.b false) h81)) (
 rt (.b false) h77)) (
 rt (.b false) h71)) (
 bn prog .eql 4 v70 v49 fun v97 =>
 vb v97 fun q98 => ifB q98 (
 cl (cf 17 [v47, v44, (.i .u32 (.ofNat 0)), (.i .i64 (.ofNat 0))] h71) fun v99 h100 =>
 o1 (unV .not v99) fun v101 =>
 vb v101 fun q102 => ifB q102 (
 cl (cf 17 [v48, v44, v45, (.i .i64 (.ofNat 3))] h100) fun v103 h104 =>
 o1 (unV .not v103) fun v105 =>
 vb v105 fun q106 => ifB q106 (
 cl (cf 17 [v48, v44, v45, (.i .i64 (.negSucc 0))] h104) fun v107 h108 =>
 o1 (unV .not v107) fun v109 =>
 vb v109 fun q110 => ifB q110 (
 o1 (buildV prog 37 [(1, (.i .u32 (.ofNat 4294967292))), (2, (.b true)), (3, (.b true))]) fun v111 =>
 o2 (buildSliceV prog 38 1 [(0, v111)] h108) fun v112 h113 =>
 cl (cf 17 [v112, (.i .u32 (.ofNat 4294967292)), v45, (.i .i64 (.ofNat 0))] h113) fun v114 h115 =>
 o1 (unV .not v114) fun v116 =>
 vb v116 fun q117 => ifB q117 (
 cl (cf 18 [] h115) fun v118 h119 =>
 rt v118 h119) (
 rt (.b false) h115)) (
 rt (.b false) h108)) (
 rt (.b false) h104)) (
 rt (.b false) h100)) (
 rt (.b false) h71))) (
 bn prog .eql 4 v70 v49 fun v120 =>
 vb v120 fun q121 => ifB q121 (
 cl (cf 17 [v47, v44, (.i .u32 (.ofNat 0)), (.i .i64 (.ofNat 0))] h71) fun v122 h123 =>
 o1 (unV .not v122) fun v124 =>
 vb v124 fun q125 => ifB q125 (
 cl (cf 17 [v48, v44, v45, (.i .i64 (.ofNat 3))] h123) fun v126 h127 =>
 o1 (unV .not v126) fun v128 =>
 vb v128 fun q129 => ifB q129 (
 cl (cf 17 [v48, v44, v45, (.i .i64 (.negSucc 0))] h127) fun v130 h131 =>
 o1 (unV .not v130) fun v132 =>
 vb v132 fun q133 => ifB q133 (
 o1 (buildV prog 37 [(1, (.i .u32 (.ofNat 4294967292))), (2, (.b true)), (3, (.b true))]) fun v134 =>
 o2 (buildSliceV prog 38 1 [(0, v134)] h131) fun v135 h136 =>
 cl (cf 17 [v135, (.i .u32 (.ofNat 4294967292)), v45, (.i .i64 (.ofNat 0))] h136) fun v137 h138 =>
 o1 (unV .not v137) fun v139 =>
 vb v139 fun q140 => ifB q140 (
 cl (cf 18 [] h138) fun v141 h142 =>
 rt v141 h142) (
 rt (.b false) h138)) (
 rt (.b false) h131)) (
 rt (.b false) h127)) (
 rt (.b false) h123)) (
 rt (.b false) h71))) (
 rt (.b false) h66)) (
 bn prog .eql 4 v65 v49 fun v143 =>
 vb v143 fun q144 => ifB q144 (
 cl (cf 17 [v48, v44, v45, (.i .i64 (.ofNat 2))] h66) fun v145 h146 =>
 vb v46 fun q147 => ifB q147 (
 vb v42 fun q148 => ifB q148 (
 bn prog .eql 4 v145 (.b true) fun v149 =>
 vb v149 fun q150 => ifB q150 (
 cl (cf 17 [v47, v44, (.i .u32 (.ofNat 0)), (.i .i64 (.ofNat 0))] h146) fun v151 h152 =>
 o1 (unV .not v151) fun v153 =>
 vb v153 fun q154 => ifB q154 (
 cl (cf 17 [v48, v44, v45, (.i .i64 (.ofNat 3))] h152) fun v155 h156 =>
 o1 (unV .not v155) fun v157 =>
 vb v157 fun q158 => ifB q158 (
 cl (cf 17 [v48, v44, v45, (.i .i64 (.negSucc 0))] h156) fun v159 h160 =>
 o1 (unV .not v159) fun v161 =>
 vb v161 fun q162 => ifB q162 (
 o1 (buildV prog 37 [(1, (.i .u32 (.ofNat 4294967292))), (2, (.b true)), (3, (.b true))]) fun v163 =>
 o2 (buildSliceV prog 38 1 [(0, v163)] h160) fun v164 h165 =>
 cl (cf 17 [v164, (.i .u32 (.ofNat 4294967292)), v45, (.i .i64 (.ofNat 0))] h165) fun v166 h167 =>
 o1 (unV .not v166) fun v168 =>
 vb v168 fun q169 => ifB q169 (
 cl (cf 18 [] h167) fun v170 h171 =>
 rt v170 h171) (
 rt (.b false) h167)) (
 rt (.b false) h160)) (
 rt (.b false) h156)) (
 rt (.b false) h152)) (
 rt (.b false) h146)) (
 bn prog .eql 4 v145 v49 fun v172 =>
 vb v172 fun q173 => ifB q173 (
 cl (cf 17 [v47, v44, (.i .u32 (.ofNat 0)), (.i .i64 (.ofNat 0))] h146) fun v174 h175 =>
 o1 (unV .not v174) fun v176 =>
 vb v176 fun q177 => ifB q177 (
 cl (cf 17 [v48, v44, v45, (.i .i64 (.ofNat 3))] h175) fun v178 h179 =>
 o1 (unV .not v178) fun v180 =>
 vb v180 fun q181 => ifB q181 (
 cl (cf 17 [v48, v44, v45, (.i .i64 (.negSucc 0))] h179) fun v182 h183 =>
 o1 (unV .not v182) fun v184 =>
 vb v184 fun q185 => ifB q185 (
 o1 (buildV prog 37 [(1, (.i .u32 (.ofNat 4294967292))), (2, (.b true)), (3, (.b true))]) fun v186 =>
 o2 (buildSliceV prog 38 1 [(0, v186)] h183) fun v187 h188 =>
 cl (cf 17 [v187, (.i .u32 (.ofNat 4294967292)), v45, (.i .i64 (.ofNat 0))] h188) fun v189 h190 =>
 o1 (unV .not v189) fun v191 =>
 vb v191 fun q192 => ifB q192 (
 cl (cf 18 [] h190) fun v193 h194 =>
 rt v193 h194) (
 rt (.b false) h190)) (
 rt (.b false) h183)) (
 rt (.b false) h179)) (
 rt (.b false) h175)) (
 rt (.b false) h146))) (
 bn prog .eql 4 v145 v49 fun v195 =>
 vb v195 fun q196 => ifB q196 (
 cl (cf 17 [v47, v44, (.i .u32 (.ofNat 0)), (.i .i64 (.ofNat 0))] h146) fun v197 h198 =>
 o1 (unV .not v197) fun v199 =>
 vb v199 fun q200 => ifB q200 (
 cl (cf 17 [v48, v44, v45, (.i .i64 (.ofNat 3))] h198) fun v201 h202 =>
 o1 (unV .not v201) fun v203 =>
 vb v203 fun q204 => ifB q204 (
 cl (cf 17 [v48, v44, v45, (.i .i64 (.negSucc 0))] h202) fun v205 h206 =>
 o1 (unV .not v205) fun v207 =>
 vb v207 fun q208 => ifB q208 (
 o1 (buildV prog 37 [(1, (.i .u32 (.ofNat 4294967292))), (2, (.b true)), (3, (.b true))]) fun v209 =>
 o2 (buildSliceV prog 38 1 [(0, v209)] h206) fun v210 h211 =>
 cl (cf 17 [v210, (.i .u32 (.ofNat 4294967292)), v45, (.i .i64 (.ofNat 0))] h211) fun v212 h213 =>
 o1 (unV .not v212) fun v214 =>
 vb v214 fun q215 => ifB q215 (
 cl (cf 18 [] h213) fun v216 h217 =>
 rt v216 h217) (
 rt (.b false) h213)) (
 rt (.b false) h206)) (
 rt (.b false) h202)) (
 rt (.b false) h198)) (
 rt (.b false) h146))) (
 rt (.b false) h66))) (
 rt (.b false) h61)) (
 bn prog .eql 4 v60 (.b false) fun v218 =>
 vb v218 fun q219 => ifB q219 (
 cl (cf 17 [v48, v44, v45, (.i .i64 (.ofNat 0))] h61) fun v220 h221 =>
 vb v46 fun q222 => ifB q222 (
 bn prog .eql 4 v220 (.b true) fun v223 =>
 vb v223 fun q224 => ifB q224 (
 cl (cf 17 [v48, v44, v45, (.i .i64 (.ofNat 2))] h221) fun v225 h226 =>
 vb v46 fun q227 => ifB q227 (
 vb v42 fun q228 => ifB q228 (
 bn prog .eql 4 v225 (.b true) fun v229 =>
 vb v229 fun q230 => ifB q230 (
 cl (cf 17 [v47, v44, (.i .u32 (.ofNat 0)), (.i .i64 (.ofNat 0))] h226) fun v231 h232 =>
 o1 (unV .not v231) fun v233 =>
 vb v233 fun q234 => ifB q234 (
 cl (cf 17 [v48, v44, v45, (.i .i64 (.ofNat 3))] h232) fun v235 h236 =>
 o1 (unV .not v235) fun v237 =>
 vb v237 fun q238 => ifB q238 (
 cl (cf 17 [v48, v44, v45, (.i .i64 (.negSucc 0))] h236) fun v239 h240 =>
 o1 (unV .not v239) fun v241 =>
 vb v241 fun q242 => ifB q242 (
 o1 (buildV prog 37 [(1, (.i .u32 (.ofNat 4294967292))), (2, (.b true)), (3, (.b true))]) fun v243 =>
 o2 (buildSliceV prog 38 1 [(0, v243)] h240) fun v244 h245 =>
 cl (cf 17 [v244, (.i .u32 (.ofNat 4294967292)), v45, (.i .i64 (.ofNat 0))] h245) fun v246 h247 =>
 o1 (unV .not v246) fun v248 =>
 vb v248 fun q249 => ifB q249 (
 cl (cf 18 [] h247) fun v250 h251 =>
 rt v250 h251) (
 rt (.b false) h247)) (
 rt (.b false) h240)) (
 rt (.b false) h236)) (
 rt (.b false) h232)) (
 rt (.b false) h226)) (
 bn prog .eql 4 v225 v49 fun v252 =>
 vb v252 fun q253 => ifB q253 (
 cl (cf 17 [v47, v44, (.i .u32 (.ofNat 0)), (.i .i64 (.ofNat 0))] h226) fun v254 h255 =>
 o1 (unV .not v254) fun v256 =>
 vb v256 fun q257 => ifB q257 (
 cl (cf 17 [v48, v44, v45, (.i .i64 (.ofNat 3))] h255) fun v258 h259 =>
 o1 (unV .not v258) fun v260 =>
 vb v260 fun q261 => ifB q261 (
 cl (cf 17 [v48, v44, v45, (.i .i64 (.negSucc 0))] h259) fun v262 h263 =>
 o1 (unV .not v262) fun v264 =>
 vb v264 fun q265 => ifB q265 (
 o1 (buildV prog 37 [(1, (.i .u32 (.ofNat 4294967292))), (2, (.b true)), (3, (.b true))]) fun v266 =>
 o2 (buildSliceV prog 38 1 [(0, v266)] h263) fun v267 h268 =>
 cl (cf 17 [v267, (.i .u32 (.ofNat 4294967292)), v45, (.i .i64 (.ofNat 0))] h268) fun v269 h270 =>
 o1 (unV .not v269) fun v271 =>
 vb v271 fun q272 => ifB q272 (
 cl (cf 18 [] h270) fun v273 h274 =>
 rt v273 h274) (
 rt (.b false) h270)) (
 rt (.b false) h263)) (
 rt (.b false) h259)) (
 rt (.b false) h255)) (
 rt (.b false) h226))) (
 bn prog .eql 4 v225 v49 fun v275 =>
 vb v275 fun q276 => ifB q276 (
 cl (cf 17 [v47, v44, (.i .u32 (.ofNat 0)), (.i .i64 (.ofNat 0))] h226) fun v277 h278 =>
 o1 (unV .not v277) fun v279 =>
 vb v279 fun q280 => ifB q280 (
 cl (cf 17 [v48, v44, v45, (.i .i64 (.ofNat 3))] h278) fun v281 h282 =>
 o1 (unV .not v281) fun v283 =>
 vb v283 fun q284 => ifB q284 (
 cl (cf 17 [v48, v44, v45, (.i .i64 (.negSucc 0))] h282) fun v285 h286 =>
 o1 (unV .not v285) fun v287 =>
 vb v287 fun q288 => ifB q288 (
 o1 (buildV prog 37 [(1, (.i .u32 (.ofNat 4294967292))), (2, (.b true)), (3, (.b true))]) fun v289 =>
 o2 (buildSliceV prog 38 1 [(0, v289)] h286) fun v290 h291 =>
 cl (cf 17 [v290, (.i .u32 (.ofNat 4294967292)), v45, (.i .i64 (.ofNat 0))] h291) fun v292 h293 =>
 o1 (unV .not v292) fun v294 =>
 vb v294 fun q295 => ifB q295 (
 cl (cf 18 [] h293) fun v296 h297 =>
 rt v296 h297) (
 rt (.b false) h293)) (
 rt (.b false) h286)) (
 rt (.b false) h282)) (
 rt (.b false) h278)) (
 rt (.b false) h226))) (
 rt (.b false) h221)) (
 bn prog .eql 4 v220 v49 fun v298 =>
 vb v298 fun q299 => ifB q299 (
 cl (cf 17 [v48, v44, v45, (.i .i64 (.ofNat 2))] h221) fun v300 h301 =>
 vb v46 fun q302 => ifB q302 (
 vb v42 fun q303 => ifB q303 (
 bn prog .eql 4 v300 (.b true) fun v304 =>
 vb v304 fun q305 => ifB q305 (
 cl (cf 17 [v47, v44, (.i .u32 (.ofNat 0)), (.i .i64 (.ofNat 0))] h301) fun v306 h307 =>
 o1 (unV .not v306) fun v308 =>
 vb v308 fun q309 => ifB q309 (
 cl (cf 17 [v48, v44, v45, (.i .i64 (.ofNat 3))] h307) fun v310 h311 =>
 o1 (unV .not v310) fun v312 =>
 vb v312 fun q313 => ifB q313 (
 cl (cf 17 [v48, v44, v45, (.i .i64 (.negSucc 0))] h311) fun v314 h315 =>
 o1 (unV .not v314) fun v316 =>
 vb v316 fun q317 => ifB q317 (
 o1 (buildV prog 37 [(1, (.i .u32 (.ofNat 4294967292))), (2, (.b true)), (3, (.b true))]) fun v318 =>
 o2 (buildSliceV prog 38 1 [(0, v318)] h315) fun v319 h320 =>
 cl (cf 17 [v319, (.i .u32 (.ofNat 4294967292)), v45, (.i .i64 (.ofNat 0))] h320) fun v321 h322 =>
 o1 (unV .not v321) fun v323 =>
 vb v323 fun q324 => ifB q324 (
 cl (cf 18 [] h322) fun v325 h326 =>
 rt v325 h326) (
 rt (.b false) h322)) (
 rt (.b false) h315)) (
 rt (.b false) h311)) (
 rt (.b false) h307)) (
 rt (.b false) h301)) (
 bn prog .eql 4 v300 v49 fun v327 =>
 vb v327 fun q328 => ifB q328 (
 cl (cf 17 [v47, v44, (.i .u32 (.ofNat 0)), (.i .i64 (.ofNat 0))] h301) fun v329 h330 =>
 o1 (unV .not v329) fun v331 =>
 vb v331 fun q332 => ifB q332 (
 cl (cf 17 [v48, v44, v45, (.i .i64 (.ofNat 3))] h330) fun v333 h334 =>
 o1 (unV .not v333) fun v335 =>
 vb v335 fun q336 => ifB q336 (
 cl (cf 17 [v48, v44, v45, (.i .i64 (.negSucc 0))] h334) fun v337 h338 =>
 o1 (unV .not v337) fun v339 =>
 vb v339 fun q340 => ifB q340 (
 o1 (buildV prog 37 [(1, (.i .u32 (.ofNat 4294967292))), (2, (.b true)), (3, (.b true))]) fun v341 =>
 o2 (buildSliceV prog 38 1 [(0, v341)] h338) fun v342 h343 =>
 cl (cf 17 [v342, (.i .u32 (.ofNat 4294967292)), v45, (.i .i64 (.ofNat 0))] h343) fun v344 h345 =>
 o1 (unV .not v344) fun v346 =>
 vb v346 fun q347 => ifB q347 (
 cl (cf 18 [] h345) fun v348 h349 =>
 rt v348 h349) (
 rt (.b false) h345)) (
 rt (.b false) h338)) (
 rt (.b false) h334)) (
 rt (.b false) h330)) (
 rt (.b false) h301))) (
 bn prog .eql 4 v300 v49 fun v350 =>
 vb v350 fun q351 => ifB q351 (
 cl (cf 17 [v47, v44, (.i .u32 (.ofNat 0)), (.i .i64 (.ofNat 0))] h301) fun v352 h353 =>
 o1 (unV .not v352) fun v354 =>
 vb v354 fun q355 => ifB q355 (
 cl (cf 17 [v48, v44, v45, (.i .i64 (.ofNat 3))] h353) fun v356 h357 =>
 o1 (unV .not v356) fun v358 =>
 vb v358 fun q359 => ifB q359 (
 cl (cf 17 [v48, v44, v45, (.i .i64 (.negSucc 0))] h357) fun v360 h361 =>
 o1 (unV .not v360) fun v362 =>
 vb v362 fun q363 => ifB q363 (
 o1 (buildV prog 37 [(1, (.i .u32 (.ofNat 4294967292))), (2, (.b true)), (3, (.b true))]) fun v364 =>
 o2 (buildSliceV prog 38 1 [(0, v364)] h361) fun v365 h366 =>
 cl (cf 17 [v365, (.i .u32 (.ofNat 4294967292)), v45, (.i .i64 (.ofNat 0))] h366) fun v367 h368 =>
 o1 (unV .not v367) fun v369 =>
 vb v369 fun q370 => ifB q370 (
 cl (cf 18 [] h368) fun v371 h372 =>
 rt v371 h372) (
 rt (.b false) h368)) (
 rt (.b false) h361)) (
 rt (.b false) h357)) (
 rt (.b false) h353)) (
 rt (.b false) h301))) (
 rt (.b false) h221))) (
 rt (.b false) h61))) (
 rt (.b false) h56)) (
 bn prog .eql 4 v55 (.b false) fun v373 =>
 vb v373 fun q374 => ifB q374 (
 cl (cf 17 [v47, v44, v45, (.i .i64 (.ofNat 2))] h56) fun v375 h376 =>
 vb v46 fun q377 => ifB q377 (
 bn prog .eql 4 v375 v42 fun v378 =>
 vb v378 fun q379 => ifB q379 (
 cl (cf 17 [v48, v44, v45, (.i .i64 (.ofNat 0))] h376) fun v380 h381 =>
 vb v46 fun q382 => ifB q382 (
 bn prog .eql 4 v380 (.b true) fun v383 =>
 vb v383 fun q384 => ifB q384 (
 cl (cf 17 [v48, v44, v45, (.i .i64 (.ofNat 2))] h381) fun v385 h386 =>
 vb v46 fun q387 => ifB q387 (
 vb v42 fun q388 => ifB q388 (
 bn prog .eql 4 v385 (.b true) fun v389 =>
 vb v389 fun q390 => ifB q390 (
 cl (cf 17 [v47, v44, (.i .u32 (.ofNat 0)), (.i .i64 (.ofNat 0))] h386) fun v391 h392 =>
 o1 (unV .not v391) fun v393 =>
 vb v393 fun q394 => ifB q394 (
 cl (cf 17 [v48, v44, v45, (.i .i64 (.ofNat 3))] h392) fun v395 h396 =>
 o1 (unV .not v395) fun v397 =>
 vb v397 fun q398 => ifB q398 (
 cl (cf 17 [v48, v44, v45, (.i .i64 (.negSucc 0))] h396) fun v399 h400 =>
 o1 (unV .not v399) fun v401 =>
 vb v401 fun q402 => ifB q402 (
 o1 (buildV prog 37 [(1, (.i .u32 (.ofNat 4294967292))), (2, (.b true)), (3, (.b true))]) fun v403 =>
 o2 (buildSliceV prog 38 1 [(0, v403)] h400) fun v404 h405 =>
 cl (cf 17 [v404, (.i .u32 (.ofNat 4294967292)), v45, (.i .i64 (.ofNat 0))] h405) fun v406 h407 =>
 o1 (unV .not v406) fun v408 =>
 vb v408 fun q409 => ifB q409 (
 cl (cf 18 [] h407) fun v410 h411 =>
 rt v410 h411) (
 rt (.b false) h407)) (
 rt (.b false) h400)) (
 rt (.b false) h396)) (
 rt (.b false) h392)) (
 rt (.b false) h386)) (
 bn prog .eql 4 v385 v49 fun v412 =>
 vb v412 fun q413 => ifB q413 (
 cl (cf 17 [v47, v44, (.i .u32 (.ofNat 0)), (.i .i64 (.ofNat 0))] h386) fun v414 h415 =>
 o1 (unV .not v414) fun v416 =>
 vb v416 fun q417 => ifB q417 (
 cl (cf 17 [v48, v44, v45, (.i .i64 (.ofNat 3))] h415) fun v418 h419 =>
 o1 (unV .not v418) fun v420 =>
 vb v420 fun q421 => ifB q421 (
 cl (cf 17 [v48, v44, v45, (.i .i64 (.negSucc 0))] h419) fun v422 h423 =>
 o1 (unV .not v422) fun v424 =>
 vb v424 fun q425 => ifB q425 (
 o1 (buildV prog 37 [(1, (.i .u32 (.ofNat 4294967292))), (2, (.b true)), (3, (.b true))]) fun v426 =>
 o2 (buildSliceV prog 38 1 [(0, v426)] h423) fun v427 h428 =>
 cl (cf 17 [v427, (.i .u32 (.ofNat 4294967292)), v45, (.i .i64 (.ofNat 0))] h428) fun v429 h430 =>
 o1 (unV .not v429) fun v431 =>
 vb v431 fun q432 => ifB q432 (
 cl (cf 18 [] h430) fun v433 h434 =>
 rt v433 h434) (
 rt (.b false) h430)) (
 rt (.b false) h423)) (
 rt (.b false) h419)) (
 rt (.b false) h415)) (
 rt (.b false) h386))) (
 bn prog .eql 4 v385 v49 fun v435 =>
 vb v435 fun q436 => ifB q436 (
 cl (cf 17 [v47, v44, (.i .u32 (.ofNat 0)), (.i .i64 (.ofNat 0))] h386) fun v437 h438 =>
 o1 (unV .not v437) fun v439 =>
 vb v439 fun q440 => ifB q440 (
 cl (cf 17 [v48, v44, v45, (.i .i64 (.ofNat 3))] h438) fun v441 h442 =>
 o1 (unV .not v441) fun v443 =>
 vb v443 fun q444 => ifB q444 (
 cl (cf 17 [v48, v44, v45, (.i .i64 (.negSucc 0))] h442) fun v445 h446 =>
 o1 (unV .not v445) fun v447 =>
 vb v447 fun q448 => ifB q448 (
 o1 (buildV prog 37 [(1, (.i .u32 (.ofNat 4294967292))), (2, (.b true)), (3, (.b true))]) fun v449 =>
 o2 (buildSliceV prog 38 1 [(0, v449)] h446) fun v450 h451 =>
 cl (cf 17 [v450, (.i .u32 (.ofNat 4294967292)), v45, (.i .i64 (.ofNat 0))] h451) fun v452 h453 =>
 o1 (unV .not v452) fun v454 =>
 vb v454 fun q455 => ifB q455 (
 cl (cf 18 [] h453) fun v456 h457 =>
 rt v456 h457) (
 rt (.b false) h453)) (
 rt (.b false) h446)) (
 rt (.b false) h442)) (
 rt (.b false) h438)) (
 rt (.b false) h386))) (
 rt (.b false) h381)) (
 bn prog .eql 4 v380 v49 fun v458 =>
 vb v458 fun q459 => ifB q459 (
 cl (cf 17 [v48, v44, v45, (.i .i64 (.ofNat 2))] h381) fun v460 h461 =>
 vb v46 fun q462 => ifB q462 (
 vb v42 fun q463 => ifB q463 (
 bn prog .eql 4 v460 (.b true) fun v464 =>
 vb v464 fun q465 => ifB q465 (
 cl (cf 17 [v47, v44, (.i .u32 (.ofNat 0)), (.i .i64 (.ofNat 0))] h461) fun v466 h467 =>
 o1 (unV .not v466) fun v468 =>
 vb v468 fun q469 => ifB q469 (
 cl (cf 17 [v48, v44, v45, (.i .i64 (.ofNat 3))] h467) fun v470 h471 =>
 o1 (unV .not v470) fun v472 =>
 vb v472 fun q473 => ifB q473 (
 cl (cf 17 [v48, v44, v45, (.i .i64 (.negSucc 0))] h471) fun v474 h475 =>
 o1 (unV .not v474) fun v476 =>
 vb v476 fun q477 => ifB q477 (
 o1 (buildV prog 37 [(1, (.i .u32 (.ofNat 4294967292))), (2, (.b true)), (3, (.b true))]) fun v478 =>
 o2 (buildSliceV prog 38 1 [(0, v478)] h475) fun v479 h480 =>
 cl (cf 17 [v479, (.i .u32 (.ofNat 4294967292)), v45, (.i .i64 (.ofNat 0))] h480) fun v481 h482 =>
 o1 (unV .not v481) fun v483 =>
 vb v483 fun q484 => ifB q484 (
 cl (cf 18 [] h482) fun v485 h486 =>
 rt v485 h486) (
 rt (.b false) h482)) (
 rt (.b false) h475)) (
 rt (.b false) h471)) (
 rt (.b false) h467)) (
 rt (.b false) h461)) (
 bn prog .eql 4 v460 v49 fun v487 =>
 vb v487 fun q488 => ifB q488 (
 cl (cf 17 [v47, v44, (.i .u32 (.ofNat 0)), (.i .i64 (.ofNat 0))] h461) fun v489 h490 =>
 o1 (unV .not v489) fun v491 =>
 vb v491 fun q492 => ifB q492 (
 cl (cf 17 [v48, v44, v45, (.i .i64 (.ofNat 3))] h490) fun v493 h494 =>
 o1 (unV .not v493) fun v495 =>
 vb v495 fun q496 => ifB q496 (
 cl (cf 17 [v48, v44, v45, (.i .i64 (.negSucc 0))] h494) fun v497 h498 =>
 o1 (unV .not v497) fun v499 =>
 vb v499 fun q500 => ifB q500 (
 o1 (buildV prog 37 [(1, (.i .u32 (.ofNat 4294967292))), (2, (.b true)), (3, (.b true))]) fun v501 =>
 o2 (buildSliceV prog 38 1 [(0, v501)] h498) fun v502 h503 =>
 cl (cf 17 [v502, (.i .u32 (.ofNat 4294967292)), v45, (.i .i64 (.ofNat 0))] h503) fun v504 h505 =>
 o1 (unV .not v504) fun v506 =>
 vb v506 fun q507 => ifB q507 (
 cl (cf 18 [] h505) fun v508 h509 =>
 rt v508 h509) (
 rt (.b false) h505)) (
 rt (.b false) h498)) (
 rt (.b false) h494)) (
 rt (.b false) h490)) (
 rt (.b false) h461))) (
 bn prog .eql 4 v460 v49 fun v510 =>
 vb v510 fun q511 => ifB q511 (
 cl (cf 17 [v47, v44, (.i .u32 (.ofNat 0)), (.i .i64 (.ofNat 0))] h461) fun v512 h513 =>
 o1 (unV .not v512) fun v514 =>
 vb v514 fun q515 => ifB q515 (
 cl (cf 17 [v48, v44, v45, (.i .i64 (.ofNat 3))] h513) fun v516 h517 =>
 o1 (unV .not v516) fun v518 =>
 vb v518 fun q519 => ifB q519 (
 cl (cf 17 [v48, v44, v45, (.i .i64 (.negSucc 0))] h517) fun v520 h521 =>
 o1 (unV .not v520) fun v522 =>
 vb v522 fun q523 => ifB q523 (
 o1 (buildV prog 37 [(1, (.i .u32 (.ofNat 4294967292))), (2, (.b true)), (3, (.b true))]) fun v524 =>
 o2 (buildSliceV prog 38 1 [(0, v524)] h521) fun v525 h526 =>
 cl (cf 17 [v525, (.i .u32 (.ofNat 4294967292)), v45, (.i .i64 (.ofNat 0))] h526) fun v527 h528 =>
 o1 (unV .not v527) fun v529 =>
 vb v529 fun q530 => ifB q530 (
 cl (cf 18 [] h528) fun v531 h532 =>
 rt v531 h532) (
 rt (.b false) h528)) (
 rt (.b false) h521)) (
 rt (.b false) h517)) (
 rt (.b false) h513)) (
 rt (.b false) h461))) (
 rt (.b false) h381))) (
 rt (.b false) h376)) (
 bn prog .eql 4 v375 (.b false) fun v533 =>
 vb v533 fun q534 => ifB q534 (
 cl (cf 17 [v48, v44, v45, (.i .i64 (.ofNat 0))] h376) fun v535 h536 =>
 vb v46 fun q537 => ifB q537 (
 bn prog .eql 4 v535 (.b true) fun v538 =>
 vb v538 fun q539 => ifB q539 (
 cl (cf 17 [v48, v44, v45, (.i .i64 (.ofNat 2))] h536) fun v540 h541 =>
 vb v46 fun q542 => ifB q542 (
 vb v42 fun q543 => ifB q543 (
 bn prog .eql 4 v540 (.b true) fun v544 =>
 vb v544 fun q545 => ifB q545 (
 cl (cf 17 [v47, v44, (.i .u32 (.ofNat 0)), (.i .i64 (.ofNat 0))] h541) fun v546 h547 =>
 o1 (unV .not v546) fun v548 =>
 vb v548 fun q549 => ifB q549 (
 cl (cf 17 [v48, v44, v45, (.i .i64 (.ofNat 3))] h547) fun v550 h551 =>
 o1 (unV .not v550) fun v552 =>
 vb v552 fun q553 => ifB q553 (
 cl (cf 17 [v48, v44, v45, (.i .i64 (.negSucc 0))] h551) fun v554 h555 =>
 o1 (unV .not v554) fun v556 =>
 vb v556 fun q557 => ifB q557 (
 o1 (buildV prog 37 [(1, (.i .u32 (.ofNat 4294967292))), (2, (.b true)), (3, (.b true))]) fun v558 =>
 o2 (buildSliceV prog 38 1 [(0, v558)] h555) fun v559 h560 =>
 cl (cf 17 [v559, (.i .u32 (.ofNat 4294967292)), v45, (.i .i64 (.ofNat 0))] h560) fun v561 h562 =>
 o1 (unV .not v561) fun v563 =>
 vb v563 fun q564 => ifB q564 (
 cl (cf 18 [] h562) fun v565 h566 =>
 rt v565 h566) (
 rt (.b false) h562)) (
 rt (.b false) h555)) (
 rt (.b false) h551)) (
 rt (.b false) h547)) (
 rt (.b false) h541)) (
 bn prog .eql 4 v540 v49 fun v567 =>
 vb v567 fun q568 => ifB q568 (
 cl (cf 17 [v47, v44, (.i .u32 (.ofNat 0)), (.i .i64 (.ofNat 0))] h541) fun v569 h570 =>
 o1 (unV .not v569) fun v571 =>
 vb v571 fun q572 => ifB q572 (
 cl (cf 17 [v48, v44, v45, (.i .i64 (.ofNat 3))] h570) fun v573 h574 =>
 o1 (unV .not v573) fun v575 =>
 vb v575 fun q576 => ifB q576 (
 cl (cf 17 [v48, v44, v45, (.i .i64 (.negSucc 0))] h574) fun v577 h578 =>
 o1 (unV .not v577) fun v579 =>
 vb v579 fun q580 => ifB q580 (
 o1 (buildV prog 37 [(1, (.i .u32 (.ofNat 4294967292))), (2, (.b true)), (3, (.b true))]) fun v581 =>
 o2 (buildSliceV prog 38 1 [(0, v581)] h578) fun v582 h583 =>
 cl (cf 17 [v582, (.i .u32 (.ofNat 4294967292)), v45, (.i .i64 (.ofNat 0))] h583) fun v584 h585 =>
 o1 (unV .not v584) fun v586 =>
 vb v586 fun q587 => ifB q587 (
 cl (cf 18 [] h585) fun v588 h589 =>
 rt v588 h589) (
 rt (.b false) h585)) (
 rt (.b false) h578)) (
 rt (.b false) h574)) (
 rt (.b false) h570)) (
 rt (.b false) h541))) (
 bn prog .eql 4 v540 v49 fun v590 =>
 vb v590 fun q591 => ifB q591 (
 cl (cf 17 [v47, v44, (.i .u32 (.ofNat 0)), (.i .i64 (.ofNat 0))] h541) fun v592 h593 =>
 o1 (unV .not v592) fun v594 =>
 vb v594 fun q595 => ifB q595 (
 cl (cf 17 [v48, v44, v45, (.i .i64 (.ofNat 3))] h593) fun v596 h597 =>
 o1 (unV .not v596) fun v598 =>
 vb v598 fun q599 => ifB q599 (
 cl (cf 17 [v48, v44, v45, (.i .i64 (.negSucc 0))] h597) fun v600 h601 =>
 o1 (unV .not v600) fun v602 =>
 vb v602 fun q603 => ifB q603 (
 o1 (buildV prog 37 [(1, (.i .u32 (.ofNat 4294967292))), (2, (.b true)), (3, (.b true))]) fun v604 =>
 o2 (buildSliceV prog 38 1 [(0, v604)] h601) fun v605 h606 =>
 cl (cf 17 [v605, (.i .u32 (.ofNat 4294967292)), v45, (.i .i64 (.ofNat 0))] h606) fun v607 h608 =>
 o1 (unV .not v607) fun v609 =>
 vb v609 fun q610 => ifB q610 (
 cl (cf 18 [] h608) fun v611 h612 =>
 rt v611 h612) (
 rt (.b false) h608)) (
 rt (.b false) h601)) (
 rt (.b false) h597)) (
 rt (.b false) h593)) (
 rt (.b false) h541))) (
 rt (.b false) h536)) (
 bn prog .eql 4 v535 v49 fun v613 =>
 vb v613 fun q614 => ifB q614 (
 cl (cf 17 [v48, v44, v45, (.i .i64 (.ofNat 2))] h536) fun v615 h616 =>
 vb v46 fun q617 => ifB q617 (
 vb v42 fun q618 => ifB q618 (
 bn prog .eql 4 v615 (.b true) fun v619 =>
 vb v619 fun q620 => ifB q620 (
 cl (cf 17 [v47, v44, (.i .u32 (.ofNat 0)), (.i .i64 (.ofNat 0))] h616) fun v621 h622 =>
 o1 (unV .not v621) fun v623 =>
 vb v623 fun q624 => ifB q624 (
 cl (cf 17 [v48, v44, v45, (.i .i64 (.ofNat 3))] h622) fun v625 h626 =>
 o1 (unV .not v625) fun v627 =>
 vb v627 fun q628 => ifB q628 (
 cl (cf 17 [v48, v44, v45, (.i .i64 (.negSucc 0))] h626) fun v629 h630 =>
 o1 (unV .not v629) fun v631 =>
 vb v631 fun q632 => ifB q632 (
 o1 (buildV prog 37 [(1, (.i .u32 (.ofNat 4294967292))), (2, (.b true)), (3, (.b true))]) fun v633 =>
 o2 (buildSliceV prog 38 1 [(0, v633)] h630) fun v634 h635 =>
 cl (cf 17 [v634, (.i .u32 (.ofNat 4294967292)), v45, (.i .i64 (.ofNat 0))] h635) fun v636 h637 =>
 o1 (unV .not v636) fun v638 =>
 vb v638 fun q639 => ifB q639 (
 cl (cf 18 [] h637) fun v640 h641 =>
 rt v640 h641) (
 rt (.b false) h637)) (
 rt (.b false) h630)) (
 rt (.b false) h626)) (
 rt (.b false) h622)) (
 rt (.b false) h616)) (
 bn prog .eql 4 v615 v49 fun v642 =>
 vb v642 fun q643 => ifB q643 (
 cl (cf 17 [v47, v44, (.i .u32 (.ofNat 0)), (.i .i64 (.ofNat 0))] h616) fun v644 h645 =>
 o1 (unV .not v644) fun v646 =>
 vb v646 fun q647 => ifB q647 (
 cl (cf 17 [v48, v44, v45, (.i .i64 (.ofNat 3))] h645) fun v648 h649 =>
 o1 (unV .not v648) fun v650 =>
 vb v650 fun q651 => ifB q651 (
 cl (cf 17 [v48, v44, v45, (.i .i64 (.negSucc 0))] h649) fun v652 h653 =>
 o1 (unV .not v652) fun v654 =>
 vb v654 fun q655 => ifB q655 (
 o1 (buildV prog 37 [(1, (.i .u32 (.ofNat 4294967292))), (2, (.b true)), (3, (.b true))]) fun v656 =>
 o2 (buildSliceV prog 38 1 [(0, v656)] h653) fun v657 h658 =>
 cl (cf 17 [v657, (.i .u32 (.ofNat 4294967292)), v45, (.i .i64 (.ofNat 0))] h658) fun v659 h660 =>
 o1 (unV .not v659) fun v661 =>
 vb v661 fun q662 => ifB q662 (
 cl (cf 18 [] h660) fun v663 h664 =>
 rt v663 h664) (
 rt (.b false) h660)) (
 rt (.b false) h653)) (
 rt (.b false) h649)) (
 rt (.b false) h645)) (
 rt (.b false) h616))) (
 bn prog .eql 4 v615 v49 fun v665 =>
 vb v665 fun q666 => ifB q666 (
 cl (cf 17 [v47, v44, (.i .u32 (.ofNat 0)), (.i .i64 (.ofNat 0))] h616) fun v667 h668 =>
 o1 (unV .not v667) fun v669 =>
 vb v669 fun q670 => ifB q670 (
 cl (cf 17 [v48, v44, v45, (.i .i64 (.ofNat 3))] h668) fun v671 h672 =>
 o1 (unV .not v671) fun v673 =>
 vb v673 fun q674 => ifB q674 (
 cl (cf 17 [v48, v44, v45, (.i .i64 (.negSucc 0))] h672) fun v675 h676 =>
 o1 (unV .not v675) fun v677 =>
 vb v677 fun q678 => ifB q678 (
 o1 (buildV prog 37 [(1, (.i .u32 (.ofNat 4294967292))), (2, (.b true)), (3, (.b true))]) fun v679 =>
 o2 (buildSliceV prog 38 1 [(0, v679)] h676) fun v680 h681 =>
 cl (cf 17 [v680, (.i .u32 (.ofNat 4294967292)), v45, (.i .i64 (.ofNat 0))] h681) fun v682 h683 =>
 o1 (unV .not v682) fun v684 =>
 vb v684 fun q685 => ifB q685 (
 cl (cf 18 [] h683) fun v686 h687 =>
 rt v686 h687) (
 rt (.b false) h683)) (
 rt (.b false) h676)) (
 rt (.b false) h672)) (
 rt (.b false) h668)) (
 rt (.b false) h616))) (
 rt (.b false) h536))) (
 rt (.b false) h376))) (
 rt (.b false) h56))) (
 rt (.b false) h52)
noncomputable def F6 (cf : CallF) (lf : Nat) : Fv 6 := fun x0 x1 x2 x3 x4 x5 h =>
 cv .u32 x0 fun v1 =>
 bi .mul v1 (.i .u32 (.ofNat 4)) fun v2 =>
 cv .u32 x1 fun v3 =>
 bi .mul v3 (.i .u32 (.ofNat 4)) fun v4 =>
 bi .add v2 v4 fun v5 =>
 o1 (buildV prog 37 [(0, v2), (1, v5), (2, x4), (3, x5)]) fun v6 =>
 al (zl prog 37) h fun v7 h8 =>
 st 4 v7 v6 h8 fun h9 =>
 bi .add v2 v4 fun v10 =>
 bi .add v2 v4 fun v11 =>
 bi .add v11 (.i .u32 (.ofNat 4)) fun v12 =>
 o1 (buildV prog 37 [(0, v10), (1, v12), (2, (.b true)), (3, (.b true))]) fun v13 =>
 al (zl prog 37) h9 fun v14 h15 =>
 st 4 v14 v13 h15 fun h16 =>
 cv .u32 x2 fun v17 =>
 bi .add v4 (.i .u32 (.ofNat 4)) fun v18 =>
 bi .rem v17 v18 fun v19 =>
 bi .add v2 v19 fun v20 =>
 cv .u32 x3 fun v21 =>
 bi .rem v21 (.i .u32 (.ofNat 8)) fun v22 =>
 bi .add (.i .u32 (.ofNat 1)) v22 fun v23 =>
 bi .add v20 v23 fun v24 =>
 bi .add v2 v4 fun v25 =>
 bi .leq v24 v25 fun v26 =>
 ldn 4 v7 h16 fun v27 =>
 o2 (buildSliceV prog 38 1 [(0, v27)] h16) fun v28 h29 =>
 ldn 4 v7 h29 fun v30 =>
 ldn 4 v14 h29 fun v31 =>
 o2 (buildSliceV prog 38 2 [(0, v30), (1, v31)] h29) fun v32 h33 =>
 jn 8 (fun J34 =>
 bi .add v2 v4 fun v35 =>
 bi .geq v20 v35 fun v36 =>
 vb v36 fun q37 => ifB q37 (
 bi .add v20 v23 fun v38 =>
 bi .add v2 v4 fun v39 =>
 bi .add v39 (.i .u32 (.ofNat 4)) fun v40 =>
 bi .leq v38 v40 fun v41 =>
 J34 x4 x5 v20 v23 v26 v28 v32 v41 h33) (
 J34 x4 x5 v20 v23 v26 v28 v32 (.b false) h33)) (F6_j1 cf lf)
def A6 : Ann := (.s (.r []) (.s (.r []) (.s (.r []) (.s (.r []) (.s (.r []) (.s (.r []) (.s (.r []) (.s (.r []) (.j [4, 5, 17, 18, 19, 20, 21, 22] (.r [6]) (.s (.r [7, 13, 14, 18, 24, 25, 29, 35, 36, 40, 46, 47, 49, 50, 54, 60, 67, 74, 81]) .z))))))))))
theorem F6_eq (cf : CallF) (lf : Nat) (x0 : V) (x1 : V) (x2 : V) (x3 : V) (x4 : V) (x5 : V) (h : Heap) : bodyA prog 0 f6 (f6.body.getD .skip) A6 cf lf [x0, x1, x2, x3, x4, x5] h = F6 cf lf x0 x1 x2 x3 x4 x5 h := by kernel_rfl

-- footman/footmanlaw4.GuardMore
noncomputable def F7_j1 (cf : CallF) (lf : Nat) : Fv 5 := fun v12 v13 v14 v15 v16 h17 =>
 cv .i64 v16 fun v18 =>
 bi .rem v18 (.i .i64 (.ofNat 3)) fun v19 =>
 cl (cf 17 [v12, v14, v15, v19] h17) fun v20 h21 =>
 cl (cf 17 [v13, v14, v15, v19] h21) fun v22 h23 =>
 o2 (buildSliceV prog 38 0 [] h23) fun v24 h25 =>
 o2 (appendV prog 38 38 v24 v12 h25) fun v26 h27 =>
 o2 (appendV prog 38 38 v26 v13 h27) fun v28 h29 =>
 cl (cf 17 [v28, v14, v15, v19] h29) fun v30 h31 =>
 vb v20 fun q32 => ifB q32 (
 bn prog .eql 4 v30 (.b true) fun v33 =>
 vb v33 fun q34 => ifB q34 (
 o2 (buildSliceV prog 38 0 [] h31) fun v35 h36 =>
 o2 (appendV prog 38 38 v35 v13 h36) fun v37 h38 =>
 o2 (appendV prog 38 38 v37 v12 h38) fun v39 h40 =>
 cl (cf 17 [v39, v14, v15, v19] h40) fun v41 h42 =>
 vb v20 fun q43 => ifB q43 (
 bn prog .eql 4 v41 (.b true) fun v44 =>
 vb v44 fun q45 => ifB q45 (
 cl (cf 18 [] h42) fun v46 h47 =>
 rt v46 h47) (
 rt (.b false) h42)) (
 bn prog .eql 4 v41 v22 fun v48 =>
 vb v48 fun q49 => ifB q49 (
 cl (cf 18 [] h42) fun v50 h51 =>
 rt v50 h51) (
 rt (.b false) h42))) (
 rt (.b false) h31)) (
 bn prog .eql 4 v30 v22 fun v52 =>
 vb v52 fun q53 => ifB q53 (
 o2 (buildSliceV prog 38 0 [] h31) fun v54 h55 =>
 o2 (appendV prog 38 38 v54 v13 h55) fun v56 h57 =>
 o2 (appendV prog 38 38 v56 v12 h57) fun v58 h59 =>
 cl (cf 17 [v58, v14, v15, v19] h59) fun v60 h61 =>
 vb v20 fun q62 => ifB q62 (
 bn prog .eql 4 v60 (.b true) fun v63 =>
 vb v63 fun q64 => ifB q64 (
 cl (cf 18 [] h61) fun v65 h66 =>
 rt v65 h66) (
 rt (.b false) h61)) (
 bn prog .eql 4 v60 v22 fun v67 =>
 vb v67 fun q68 => ifB q68 (
 cl (cf 18 [] h61) fun v69 h70 =>
 rt v69 h70) (
 rt (.b false) h61))) (
 rt (.b false) h31))
noncomputable def F7 (cf : CallF) (lf : Nat) : Fv 5 := fun x0 x1 x2 x3 x4 h =>
 jn 5 (fun J1 =>
 lns x0 fun v2 =>
 bi .gtr v2 (.i .i64 (.ofNat 20)) fun v3 =>
 vb v3 fun q4 => ifB q4 (
 cl (cf 18 [] h) fun v5 h6 =>
 rt v5 h6) (
 lns x1 fun v7 =>
 bi .gtr v7 (.i .i64 (.ofNat 20)) fun v8 =>
 vb v8 fun q9 => ifB q9 (
 cl (cf 18 [] h) fun v10 h11 =>
 rt v10 h11) (
 J1 x0 x1 x2 x3 x4 h))) (F7_j1 cf lf)
def A7 : Ann := (.s (.r []) (.j [0, 1, 2, 3, 4] (.s (.r [4]) (.s (.s (.r []) .z) .z)) (.s (.r []) (.s (.r []) (.s (.r [11, 15, 26, 27, 31]) .z)))))
theorem F7_eq (cf : CallF) (lf : Nat) (x0 : V) (x1 : V) (x2 : V) (x3 : V) (x4 : V) (h : Heap) : bodyA prog 0 f7 (f7.body.getD .skip) A7 cf lf [x0, x1, x2, x3, x4] h = F7 cf lf x0 x1 x2 x3 x4 h := by kernel_rfl

-- footman/footmanlaw4.GuardAll
noncomputable def F10 (cf : CallF) (lf : Nat) : Fv 5 := fun x0 x1 x2 x3 x4 h =>
 lns x1 fun v1 =>
 bi .gtr v1 (.i .i64 (.ofNat 20)) fun v2 =>
 vb v2 fun q3 => ifB q3 (
 cl (cf 18 [] h) fun v4 h5 =>
 rt v4 h5) (
 cl (cf 22 [x1] h) fun v6 h7 =>
 o1 (extractV v6 0) fun v8 =>
 o1 (extractV v6 1) fun v9 =>
 al (zl prog 55) h7 fun v10 h11 =>
 st 16 v10 v8 h11 fun h12 =>
 cl (cf 23 [x1] h12) fun v13 h14 =>
 al (zl prog 60) h14 fun v15 h16 =>
 st 17 v15 v13 h16 fun h17 =>
 cln (cf 26 [x0] (Heap.mk h17.next h17.t [])) fun v18 h19 =>
 fh (Heap.new h19 .dead) fun h20 =>
 let r21 : Rc := ⟨1, ⟨none, h19.wl.filter (fun x => Nat.blt x h17.next), h17.next, Nat.succ h19.next⟩, none, h17, h20⟩
 cln (cf 25 [v18] (Heap.mk h20.next h20.t [])) fun v22 h23 =>
 fh (Heap.new h23 .dead) fun h24 =>
 let r25 : Rc := ⟨2, ⟨none, h23.wl.filter (fun x => Nat.blt x h20.next), h20.next, Nat.succ h23.next⟩, none, h20, h24⟩
 cln (cf 26 [x0] (Heap.mk h24.next h24.t [])) fun v26 h27 =>
 fh (Heap.new h27 .dead) fun h28 =>
 let r29 : Rc := ⟨4, ⟨none, h27.wl.filter (fun x => Nat.blt x h24.next), h24.next, Nat.succ h27.next⟩, none, h24, h28⟩
 cln (cf 27 [v26] (Heap.mk h28.next h28.t [])) fun v30 h31 =>
 fh (Heap.new h31 .dead) fun h32 =>
 let r33 : Rc := ⟨5, ⟨none, h31.wl.filter (fun x => Nat.blt x h28.next), h28.next, Nat.succ h31.next⟩, none, h28, h32⟩
 cln (cf 24 [v22, v30] (Heap.mk h32.next h32.t [])) fun v34 h35 =>
 fh (Heap.new h35 .dead) fun h36 =>
 let r37 : Rc := ⟨6, ⟨none, h35.wl.filter (fun x => Nat.blt x h32.next), h32.next, Nat.succ h35.next⟩, none, h32, h36⟩
 vb v34 fun q38 => ifB q38 (
 ldn 16 v10 h36 fun v39 =>
 fa 0 v15 fun v40 =>
 ldn 16 v40 h36 fun v41 =>
 bn prog .eql 55 v39 v41 fun v42 =>
 vb v42 fun q43 => ifB q43 (
 cln (cf 28 [v9] (Heap.mk h36.next h36.t [])) fun v44 h45 =>
 fh (Heap.new h45 .dead) fun h46 =>
 let r47 : Rc := ⟨15, ⟨none, h45.wl.filter (fun x => Nat.blt x h36.next), h36.next, Nat.succ h45.next⟩, none, h36, h46⟩
 fa 16 v15 fun v48 =>
 ld v48 h46 fun v49 =>
 let r50 : Rc := ⟨17, ⟨some (V.ids v48), [], h46.next, h46.next⟩, some (3, v48, v49), h46, h46⟩
 bi .eql v44 v49 fun v51 =>
 vb v51 fun q52 => ifB q52 (
 cln (cf 17 [x1, x2, x3, x4] (Heap.mk h46.next h46.t [])) fun v53 h54 =>
 fh (Heap.new h54 .dead) fun h55 =>
 let r56 : Rc := ⟨25, ⟨none, h54.wl.filter (fun x => Nat.blt x h46.next), h46.next, Nat.succ h54.next⟩, none, h46, h55⟩
 cln (cf 29 [x1, x2, x3, x4] (Heap.mk h55.next h55.t [])) fun v57 h58 =>
 fh (Heap.new h58 .dead) fun h59 =>
 let r60 : Rc := ⟨30, ⟨none, h58.wl.filter (fun x => Nat.blt x h55.next), h55.next, Nat.succ h58.next⟩, none, h55, h59⟩
 bn prog .eql 4 v53 v57 fun v61 =>
 vb v61 fun q62 => ifB q62 (
 cln (cf 18 [] (Heap.mk h59.next h59.t [])) fun v63 h64 =>
 fh (Heap.new h64 .dead) fun h65 =>
 let r66 : Rc := ⟨34, ⟨none, h64.wl.filter (fun x => Nat.blt x h59.next), h59.next, Nat.succ h64.next⟩, none, h59, h65⟩
 ifB (pc prog r47 r50) (
 fh (Heap.mk h65.next h65.t (wrR [r21, r25, r29, r33, r37, r47, r50, r56, r60, r66] ++ h17.wl)) fun h67 =>
 rt v63 h67) .fail) (
 ifB (pc prog r47 r50) (
 fh (Heap.mk h59.next h59.t (wrR [r21, r25, r29, r33, r37, r47, r50, r56, r60] ++ h17.wl)) fun h68 =>
 rt (.b false) h68) .fail)) (
 ifB (pc prog r47 r50) (
 fh (Heap.mk h46.next h46.t (wrR [r21, r25, r29, r33, r37, r47, r50] ++ h17.wl)) fun h69 =>
 rt (.b false) h69) .fail)) (
 fh (Heap.mk h36.next h36.t (wrR [r21, r25, r29, r33, r37] ++ h17.wl)) fun h70 =>
 rt (.b false) h70)) (
 fh (Heap.mk h36.next h36.t (wrR [r21, r25, r29, r33, r37] ++ h17.wl)) fun h71 =>
 rt (.b false) h71))
def A10 : Ann := (.s (.r []) (.s (.s (.r []) (.s (.s (.r []) .z) .z)) (.s (.r []) (.s (.r []) (.s (.d [8, 14, 21, 34] [17] [0, 1, 3, 0, 15, 31, 63, 127, 255, 255, 767, 2047, 4095, 8191, 16383, 32767, 16383, 81919, 262143, 524287, 1048575, 2097151, 2097151, 2097151, 2097151, 33554431, 2097151, 2097151, 2097151, 2097151, 1073741823, 2147483647, 4294967295, 8589934591, 17179869183, 34359738367, 68719476735]) .z)))))
theorem F10_eq (cf : CallF) (lf : Nat) (x0 : V) (x1 : V) (x2 : V) (x3 : V) (x4 : V) (h : Heap) : bodyA prog 0 f10 (f10.body.getD .skip) A10 cf lf [x0, x1, x2, x3, x4] h = F10 cf lf x0 x1 x2 x3 x4 h := by kernel_rfl

-- footman/footmanlaw4.GuardBack
noncomputable def F11_j1 (cf : CallF) (lf : Nat) (S2 : Fv 3) : Fv 3 := fun v15 v16 v17 h18 =>
 ix 1 v15 v17 fun v19 =>
 ld v19 h18 fun v20 =>
 bi .quo v20 (.i .u32 (.ofNat 4)) fun v21 =>
 bi .mul v21 (.i .u32 (.ofNat 4)) fun v22 =>
 bi .add v17 (.i .i64 (.ofNat 1)) fun v23 =>
 ix 1 v15 v23 fun v24 =>
 ld v24 h18 fun v25 =>
 bi .quo v25 (.i .u32 (.ofNat 4)) fun v26 =>
 bi .mul v26 (.i .u32 (.ofNat 4)) fun v27 =>
 ix 1 v15 v17 fun v28 =>
 ld v28 h18 fun v29 =>
 bi .rem v29 (.i .u32 (.ofNat 2)) fun v30 =>
 bi .eql v30 (.i .u32 (.ofNat 1)) fun v31 =>
 bi .add v17 (.i .i64 (.ofNat 1)) fun v32 =>
 ix 1 v15 v32 fun v33 =>
 ld v33 h18 fun v34 =>
 bi .rem v34 (.i .u32 (.ofNat 2)) fun v35 =>
 bi .eql v35 (.i .u32 (.ofNat 1)) fun v36 =>
 o1 (buildV prog 37 [(0, v22), (1, v27), (2, v31), (3, v36)]) fun v37 =>
 o2 (buildSliceV prog 38 1 [(0, v37)] (Heap.mk h18.next h18.t [])) fun v38 h39 =>
 fh (Heap.new h39 .dead) fun h40 =>
 let r41 : Rc := ⟨28, ⟨(some (List.flatMap V.ids [])), h39.wl.filter (fun x => Nat.blt x h18.next), h18.next, Nat.succ h39.next⟩, none, h18, h40⟩
 o2 (appendV prog 38 38 v16 v38 (Heap.mk h40.next h40.t [])) fun v42 h43 =>
 fh (Heap.new h43 .dead) fun h44 =>
 let r45 : Rc := ⟨29, ⟨(some (List.flatMap V.ids [v16, v38])), h43.wl.filter (fun x => Nat.blt x h40.next), h40.next, Nat.succ h43.next⟩, none, h40, h44⟩
 fh (Heap.mk h44.next h44.t (wrR [r41, r45] ++ h18.wl)) fun h46 =>
 bi .add v17 (.i .i64 (.ofNat 2)) fun v47 =>
 S2 v15 v42 v47 h46
noncomputable def F11_b2 (cf : CallF) (lf : Nat) (J1 : Fv 1) : Fv 3 → Fv 3 := fun S2 v3 v4 v5 h6 =>
 jn 3 (fun J7 =>
 bi .add v5 (.i .i64 (.ofNat 1)) fun v8 =>
 lns v3 fun v9 =>
 bi .lss v8 v9 fun v10 =>
 vb v10 fun q11 => ifB q11 (
 lns v4 fun v12 =>
 bi .lss v12 (.i .i64 (.ofNat 8)) fun v13 =>
 vb v13 fun q14 => ifB q14 (
 J7 v3 v4 v5 h6) (
 J1 v4 h6)) (
 J1 v4 h6)) (F11_j1 cf lf S2)
noncomputable def F11_b3 (cf : CallF) (lf : Nat) : Fv 2 → Fv 2 := fun S79 v80 v81 h82 =>
 bi .lss v81 (.i .i64 (.ofNat 8)) fun v83 =>
 vb v83 fun q84 => ifB q84 (
 ix 4 v80 v81 fun v85 =>
 ldn 4 v85 h82 fun v86 =>
 o1 (buildV prog 37 []) fun v87 =>
 bn prog .neq 37 v86 v87 fun v88 =>
 vb v88 fun q89 => ifB q89 (
 rt (.b false) h82) (
 bi .add v81 (.i .i64 (.ofNat 1)) fun v90 =>
 S79 v80 v90 h82)) (
 o2 (buildSliceV prog 38 0 [] h82) fun v91 h92 =>
 o2 (appendV prog 38 38 v91 v80 h92) fun v93 h94 =>
 o1 (buildV prog 37 []) fun v95 =>
 o2 (buildSliceV prog 38 1 [(0, v95)] h94) fun v96 h97 =>
 o2 (appendV prog 38 38 v93 v96 h97) fun v98 h99 =>
 cl (cf 22 [v98] h99) fun v100 h101 =>
 o1 (extractV v100 0) fun v102 =>
 o1 (extractV v100 1) fun v103 =>
 al (zl prog 55) h101 fun v104 h105 =>
 st 16 v104 v102 h105 fun h106 =>
 o1 (buildV prog 37 []) fun v107 =>
 o1 (buildV prog 37 [(0, (.i .u32 (.ofNat 2)))]) fun v108 =>
 o2 (buildSliceV prog 38 2 [(0, v107), (1, v108)] h106) fun v109 h110 =>
 cl (cf 22 [v109] h110) fun v111 h112 =>
 o1 (extractV v111 0) fun v113 =>
 o1 (extractV v111 1) fun v114 =>
 al (zl prog 55) h112 fun v115 h116 =>
 st 16 v115 v113 h116 fun h117 =>
 cl (cf 28 [v103] h117) fun v118 h119 =>
 bi .eql v118 (.i .i64 (.ofNat 9)) fun v120 =>
 vb v120 fun q121 => ifB q121 (
 cl (cf 28 [v114] h119) fun v122 h123 =>
 bi .eql v122 (.i .i64 (.ofNat 4)) fun v124 =>
 vb v124 fun q125 => ifB q125 (
 cl (cf 18 [] h123) fun v126 h127 =>
 rt v126 h127) (
 rt (.b false) h123)) (
 rt (.b false) h119))
noncomputable def F11_j4 (cf : CallF) (lf : Nat) : Fv 2 := fun v75 v76 h77 =>
 lns v75 fun v78 =>
 loop 2 lf (F11_b3 cf lf) v76 v78 h77
noncomputable def F11_j5 (cf : CallF) (lf : Nat) : Fv 1 := fun v48 h49 =>
 cl (cf 22 [v48] h49) fun v50 h51 =>
 o1 (extractV v50 0) fun v52 =>
 o1 (extractV v50 1) fun v53 =>
 al (zl prog 55) h51 fun v54 h55 =>
 st 16 v54 v52 h55 fun h56 =>
 ldn 16 v54 h56 fun v57 =>
 cl (cf 25 [v57] h56) fun v58 h59 =>
 jn 2 (fun J60 =>
 cl (cf 28 [v53] h59) fun v61 h62 =>
 bi .neq v61 (.i .i64 (.ofNat 0)) fun v63 =>
 vb v63 fun q64 => ifB q64 (
 rt (.b false) h62) (
 lns v58 fun v65 =>
 bi .neq v65 (.i .i64 (.ofNat 8)) fun v66 =>
 vb v66 fun q67 => ifB q67 (
 rt (.b false) h62) (
 lns v48 fun v68 =>
 o2 (sliceV prog 38 v58 none (some v68) none h62) fun v69 h70 =>
 cl (cf 24 [v69, v48] h70) fun v71 h72 =>
 o1 (unV .not v71) fun v73 =>
 vb v73 fun q74 => ifB q74 (
 rt (.b false) h72) (
 J60 v48 v58 h72)))) (F11_j4 cf lf)
noncomputable def F11 (cf : CallF) (lf : Nat) : Fv 1 := fun x0 h =>
 jn 1 (fun J1 =>
 loop 3 lf (F11_b2 cf lf J1) x0 (.sl none 0 0 true) (.i .i64 (.ofNat 0)) h) (F11_j5 cf lf)
def A11 : Ann := (.s (.r []) (.s (.r []) (.j [3] (.s (.r []) (.b (.l [0, 3, 4] (.j [0, 3, 4] (.s (.r [6]) (.s .z .z)) (.s (.b (.d [] [] [0, 0, 0, 6, 14, 30, 62, 0, 0, 256, 896, 1920, 3968, 8064, 0, 0, 49152, 114688, 245760, 507904, 0, 0, 2097152, 7340032, 15728640, 32505856, 66060288, 134217726, 268435454, 536870911, 1073741823])) (.r [])))))) (.s (.r []) (.s (.r []) (.j [3, 7] (.s (.r [4, 9]) (.s (.s (.r []) .z) .z)) (.s (.s (.r []) (.b (.l [7, 8] (.s (.s (.r []) (.s .z .z)) (.s (.b (.s (.r []) (.s (.s (.r []) .z) .z))) (.r [])))))) (.s (.r []) (.s (.r []) (.s (.r [4, 9]) .z))))))))))
theorem F11_eq (cf : CallF) (lf : Nat) (x0 : V) (h : Heap) : bodyA prog 0 f11 (f11.body.getD .skip) A11 cf lf [x0] h = F11 cf lf x0 h := by kernel_rfl

-- footman/guard.Allow
noncomputable def F17_b1 (cf : CallF) (lf : Nat) : Fv 6 → Fv 6 := fun S7 v8 v9 v10 v11 v12 v13 h14 =>
 bi .lss v13 v12 fun v15 =>
 vb v15 fun q16 => ifB q16 (
 ix 4 v11 v13 fun v17 =>
 ldn 4 v17 h14 fun v18 =>
 al (zl prog 37) h14 fun v19 h20 =>
 st 4 v19 v18 h20 fun h21 =>
 ldn 4 v19 h21 fun v22 =>
 cl (cf 32 [v22, v9] h21) fun v23 h24 =>
 vb v23 fun q25 => ifB q25 (
 fa 0 v19 fun v26 =>
 ld v26 h24 fun v27 =>
 bi .geq v8 v27 fun v28 =>
 vb v28 fun q29 => ifB q29 (
 fa 1 v19 fun v30 =>
 ld v30 h24 fun v31 =>
 cv .u64 v31 fun v32 =>
 bi .leq v10 v32 fun v33 =>
 vb v33 fun q34 => ifB q34 (
 rt (.b true) h24) (
 bi .add v13 (.i .i64 (.ofNat 1)) fun v35 =>
 S7 v8 v9 v10 v11 v12 v35 h24)) (
 bi .add v13 (.i .i64 (.ofNat 1)) fun v36 =>
 S7 v8 v9 v10 v11 v12 v36 h24)) (
 bi .add v13 (.i .i64 (.ofNat 1)) fun v37 =>
 S7 v8 v9 v10 v11 v12 v37 h24)) (
 rt (.b false) h14)
noncomputable def F17 (cf : CallF) (lf : Nat) : Fv 4 := fun x0 x1 x2 x3 h =>
 bi .lss x2 (.i .u32 (.ofNat 1)) fun v1 =>
 vb v1 fun q2 => ifB q2 (
 rt (.b false) h) (
 cv .u64 x1 fun v3 =>
 cv .u64 x2 fun v4 =>
 bi .add v3 v4 fun v5 =>
 lns x0 fun v6 =>
 loop 6 lf (F17_b1 cf lf) x1 x3 v5 x0 v6 (.i .i64 (.ofNat 0)) h)
def A17 : Ann := (.s (.r []) (.s (.s (.r []) (.s (.s (.r []) .z) .z)) (.s (.r []) (.s (.s (.r []) (.b (.l [1, 3, 9, 19, 20, 21] (.s (.r []) (.s (.s .z .z) (.s (.b (.s (.r []) (.s (.r [4, 10]) (.s (.s (.r []) .z) .z)))) (.r []))))))) (.s (.r []) .z)))))
theorem F17_eq (cf : CallF) (lf : Nat) (x0 : V) (x1 : V) (x2 : V) (x3 : V) (h : Heap) : bodyA prog 0 f17 (f17.body.getD .skip) A17 cf lf [x0, x1, x2, x3] h = F17 cf lf x0 x1 x2 x3 h := by kernel_rfl

-- footman/footmanlaw4.awake
noncomputable def F18 (cf : CallF) (lf : Nat) : Fv 0 := fun h =>
 cl (cf 17 [(.sl none 0 0 true), (.i .u32 (.ofNat 0)), (.i .u32 (.ofNat 1)), (.i .i64 (.ofNat 0))] h) fun v1 h2 =>
 o1 (unV .not v1) fun v3 =>
 vb v3 fun q4 => ifB q4 (
 o1 (buildV prog 37 [(1, (.i .u32 (.ofNat 8)))]) fun v5 =>
 o2 (buildSliceV prog 38 1 [(0, v5)] h2) fun v6 h7 =>
 cl (cf 17 [v6, (.i .u32 (.ofNat 4)), (.i .u32 (.ofNat 4)), (.i .i64 (.ofNat 0))] h7) fun v8 h9 =>
 vb v8 fun q10 => ifB q10 (
 o1 (buildV prog 55 []) fun v11 =>
 cl (cf 25 [v11] h9) fun v12 h13 =>
 lns v12 fun v14 =>
 bi .eql v14 (.i .i64 (.ofNat 8)) fun v15 =>
 rt v15 h13) (
 rt (.b false) h9)) (
 rt (.b false) h2)
def A18 : Ann := (.s (.r []) (.s (.r [3, 8]) .z))
theorem F18_eq (cf : CallF) (lf : Nat) (h : Heap) : bodyA prog 0 f18 (f18.body.getD .skip) A18 cf lf [] h = F18 cf lf h := by kernel_rfl

-- footman/guard.Put
noncomputable def F22_b1 (cf : CallF) (lf : Nat) : Fv 5 → Fv 5 := fun S45 v46 v47 v48 v49 v50 h51 =>
 bi .lss v50 v49 fun v52 =>
 vb v52 fun q53 => ifB q53 (
 ix 4 v48 v50 fun v54 =>
 ldn 4 v54 h51 fun v55 =>
 al (zl prog 37) h51 fun v56 h57 =>
 st 4 v56 v55 h57 fun h58 =>
 bi .mul (.i .i64 (.ofNat 2)) v50 fun v59 =>
 bi .mul (.i .i64 (.ofNat 2)) v50 fun v60 =>
 bi .add v60 (.i .i64 (.ofNat 1)) fun v61 =>
 fa 0 v56 fun v62 =>
 ld v62 h58 fun v63 =>
 let r64 : Rc := ⟨6, ⟨some (V.ids v62), [], h58.next, h58.next⟩, some (28, v62, v63), h58, h58⟩
 ldn 4 v56 h58 fun v65 =>
 cln (cf 39 [v65] (Heap.mk h58.next h58.t [])) fun v66 h67 =>
 fh (Heap.new h67 .dead) fun h68 =>
 let r69 : Rc := ⟨8, ⟨none, h67.wl.filter (fun x => Nat.blt x h58.next), h58.next, Nat.succ h67.next⟩, none, h58, h68⟩
 ixa 16 1 v47 v59 fun v70 =>
 st 1 v70 v63 (Heap.mk h68.next h68.t []) fun h71 =>
 fh (Heap.new h71 .dead) fun h72 =>
 let r73 : Rc := ⟨10, ⟨(some (List.flatMap V.ids [v70])), h71.wl.filter (fun x => Nat.blt x h68.next), h68.next, Nat.succ h71.next⟩, none, h68, h72⟩
 ixa 16 1 v47 v61 fun v74 =>
 st 1 v74 v66 (Heap.mk h72.next h72.t []) fun h75 =>
 fh (Heap.new h75 .dead) fun h76 =>
 let r77 : Rc := ⟨12, ⟨(some (List.flatMap V.ids [v74])), h75.wl.filter (fun x => Nat.blt x h72.next), h72.next, Nat.succ h75.next⟩, none, h72, h76⟩
 ifB (pc prog r64 r69) (
 fh (Heap.mk h76.next h76.t (wrR [r64, r69, r73, r77] ++ h58.wl)) fun h78 =>
 bi .add v50 (.i .i64 (.ofNat 1)) fun v79 =>
 S45 v46 v47 v48 v49 v79 h78) .fail) (
 ldn 16 v47 h51 fun v80 =>
 st 16 v46 v80 h51 fun h81 =>
 ldn 16 v46 h81 fun v82 =>
 rt (.tup [v82, (.i .i64 (.ofNat 0))]) h81)
noncomputable def F22_b2 (cf : CallF) (lf : Nat) : Fv 6 → Fv 6 := fun S12 v13 v14 v15 v16 v17 v18 h19 =>
 bi .lss v18 v17 fun v20 =>
 vb v20 fun q21 => ifB q21 (
 ix 4 v16 v18 fun v22 =>
 ldn 4 v22 h19 fun v23 =>
 al (zl prog 37) h19 fun v24 h25 =>
 st 4 v24 v23 h25 fun h26 =>
 fa 0 v24 fun v27 =>
 ld v27 h26 fun v28 =>
 bi .and v28 (.i .u32 (.ofNat 3)) fun v29 =>
 bi .neq v29 (.i .u32 (.ofNat 0)) fun v30 =>
 vb v30 fun q31 => ifB q31 (
 ldn 16 v15 h26 fun v32 =>
 st 16 v14 v32 h26 fun h33 =>
 ldn 16 v14 h33 fun v34 =>
 rt (.tup [v34, (.i .i64 (.ofNat 4))]) h33) (
 fa 1 v24 fun v35 =>
 ld v35 h26 fun v36 =>
 bi .and v36 (.i .u32 (.ofNat 3)) fun v37 =>
 bi .neq v37 (.i .u32 (.ofNat 0)) fun v38 =>
 vb v38 fun q39 => ifB q39 (
 ldn 16 v15 h26 fun v40 =>
 st 16 v14 v40 h26 fun h41 =>
 ldn 16 v14 h41 fun v42 =>
 rt (.tup [v42, (.i .i64 (.ofNat 4))]) h41) (
 bi .add v18 (.i .i64 (.ofNat 1)) fun v43 =>
 S12 v13 v14 v15 v16 v17 v43 h26))) (
 lns v13 fun v44 =>
 loop 5 lf (F22_b1 cf lf) v14 v15 v13 v44 (.i .i64 (.ofNat 0)) h19)
noncomputable def F22 (cf : CallF) (lf : Nat) : Fv 1 := fun x0 h =>
 al (zl prog 55) h fun v1 h2 =>
 al (zl prog 55) h2 fun v3 h4 =>
 lns x0 fun v5 =>
 bi .gtr v5 (.i .i64 (.ofNat 8)) fun v6 =>
 vb v6 fun q7 => ifB q7 (
 ldn 16 v3 h4 fun v8 =>
 st 16 v1 v8 h4 fun h9 =>
 ldn 16 v1 h9 fun v10 =>
 rt (.tup [v10, (.i .i64 (.ofNat 9))]) h9) (
 lns x0 fun v11 =>
 loop 6 lf (F22_b2 cf lf) x0 v1 v3 x0 v11 (.i .i64 (.ofNat 0)) h4)
def A22 : Ann := (.s (.r []) (.s (.r []) (.s (.s (.r []) (.s (.s (.r []) .z) .z)) (.s (.s (.r []) (.b (.l [0, 2, 4, 13, 14, 15] (.s (.r []) (.s (.s .z .z) (.s (.b (.s (.r []) (.s (.r [5]) (.s (.s (.r []) .z) .z)))) (.r []))))))) (.s (.s (.r []) (.b (.l [2, 4, 31, 32, 33] (.s (.r []) (.s (.s .z .z) (.s (.b (.s (.r []) (.d [] [6] [0, 1, 0, 4, 12, 0, 32, 0, 128, 99, 995, 2047, 4095]))) (.r []))))))) (.s (.r []) .z))))))
theorem F22_eq (cf : CallF) (lf : Nat) (x0 : V) (h : Heap) : bodyA prog 0 f22 (f22.body.getD .skip) A22 cf lf [x0] h = F22 cf lf x0 h := by kernel_rfl

-- footman/footmanref1.PutGuard
noncomputable def F23_j1 (cf : CallF) (lf : Nat) (S11 : Fv 4) : Fv 4 := fun v69 v70 v71 v72 h73 =>
 ix 4 v69 v72 fun v74 =>
 fa 3 v74 fun v75 =>
 ld v75 h73 fun v76 =>
 vb v76 fun q77 => ifB q77 (
 bi .mul (.i .i64 (.ofNat 2)) v72 fun v78 =>
 bi .add v78 (.i .i64 (.ofNat 1)) fun v79 =>
 ixa 16 1 v71 v79 fun v80 =>
 ld v80 h73 fun v81 =>
 bi .or v81 (.i .u32 (.ofNat 2)) fun v82 =>
 ixa 16 1 v71 v79 fun v83 =>
 st 1 v83 v82 h73 fun h84 =>
 bi .add v72 (.i .i64 (.ofNat 1)) fun v85 =>
 S11 v69 v70 v71 v85 h84) (
 bi .add v72 (.i .i64 (.ofNat 1)) fun v86 =>
 S11 v69 v70 v71 v86 h73)
noncomputable def F23_j2 (cf : CallF) (lf : Nat) (S11 : Fv 4) : Fv 4 := fun v39 v40 v41 v42 h43 =>
 bi .mul (.i .i64 (.ofNat 2)) v42 fun v44 =>
 ix 4 v39 v42 fun v45 =>
 fa 0 v45 fun v46 =>
 ld v46 h43 fun v47 =>
 ixa 16 1 v41 v44 fun v48 =>
 st 1 v48 v47 h43 fun h49 =>
 bi .mul (.i .i64 (.ofNat 2)) v42 fun v50 =>
 bi .add v50 (.i .i64 (.ofNat 1)) fun v51 =>
 ix 4 v39 v42 fun v52 =>
 fa 1 v52 fun v53 =>
 ld v53 h49 fun v54 =>
 ixa 16 1 v41 v51 fun v55 =>
 st 1 v55 v54 h49 fun h56 =>
 jn 4 (fun J57 =>
 ix 4 v39 v42 fun v58 =>
 fa 2 v58 fun v59 =>
 ld v59 h56 fun v60 =>
 vb v60 fun q61 => ifB q61 (
 bi .mul (.i .i64 (.ofNat 2)) v42 fun v62 =>
 bi .add v62 (.i .i64 (.ofNat 1)) fun v63 =>
 ixa 16 1 v41 v63 fun v64 =>
 ld v64 h56 fun v65 =>
 bi .or v65 (.i .u32 (.ofNat 1)) fun v66 =>
 ixa 16 1 v41 v63 fun v67 =>
 st 1 v67 v66 h56 fun h68 =>
 J57 v39 v40 v41 v42 h68) (
 J57 v39 v40 v41 v42 h56)) (F23_j1 cf lf S11)
noncomputable def F23_b3 (cf : CallF) (lf : Nat) : Fv 4 → Fv 4 := fun S11 v12 v13 v14 v15 h16 =>
 lns v12 fun v17 =>
 bi .lss v15 v17 fun v18 =>
 vb v18 fun q19 => ifB q19 (
 jn 4 (fun J20 =>
 ix 4 v12 v15 fun v21 =>
 fa 0 v21 fun v22 =>
 ld v22 h16 fun v23 =>
 bi .rem v23 (.i .u32 (.ofNat 4)) fun v24 =>
 bi .neq v24 (.i .u32 (.ofNat 0)) fun v25 =>
 vb v25 fun q26 => ifB q26 (
 o1 (buildV prog 60 [(1, (.i .i64 (.ofNat 4)))]) fun v27 =>
 st 17 v13 v27 h16 fun h28 =>
 ldn 17 v13 h28 fun v29 =>
 rt v29 h28) (
 ix 4 v12 v15 fun v30 =>
 fa 1 v30 fun v31 =>
 ld v31 h16 fun v32 =>
 bi .rem v32 (.i .u32 (.ofNat 4)) fun v33 =>
 bi .neq v33 (.i .u32 (.ofNat 0)) fun v34 =>
 vb v34 fun q35 => ifB q35 (
 o1 (buildV prog 60 [(1, (.i .i64 (.ofNat 4)))]) fun v36 =>
 st 17 v13 v36 h16 fun h37 =>
 ldn 17 v13 h37 fun v38 =>
 rt v38 h37) (
 J20 v12 v13 v14 v15 h16))) (F23_j2 cf lf S11)) (
 ldn 16 v14 h16 fun v87 =>
 o1 (buildV prog 60 [(0, v87)]) fun v88 =>
 st 17 v13 v88 h16 fun h89 =>
 ldn 17 v13 h89 fun v90 =>
 rt v90 h89)
noncomputable def F23 (cf : CallF) (lf : Nat) : Fv 1 := fun x0 h =>
 al (zl prog 60) h fun v1 h2 =>
 lns x0 fun v3 =>
 bi .gtr v3 (.i .i64 (.ofNat 8)) fun v4 =>
 vb v4 fun q5 => ifB q5 (
 o1 (buildV prog 60 [(1, (.i .i64 (.ofNat 9)))]) fun v6 =>
 st 17 v1 v6 h2 fun h7 =>
 ldn 17 v1 h7 fun v8 =>
 rt v8 h7) (
 al (zl prog 55) h2 fun v9 h10 =>
 loop 4 lf (F23_b3 cf lf) x0 v1 v9 (.i .i64 (.ofNat 0)) h10)
def A23 : Ann := (.s (.r []) (.s (.s (.r []) (.s (.s (.r []) .z) .z)) (.s (.r []) (.s (.s (.r []) (.b (.l [0, 2, 3, 4] (.s (.s (.r []) (.s .z .z)) (.s (.b (.j [0, 2, 3, 4] (.s (.r [8]) (.s (.s (.r []) .z) .z)) (.s (.r []) (.s (.r []) (.j [0, 2, 3, 4] (.s (.r []) (.s (.r []) .z)) (.s (.r []) (.s (.r []) .z))))))) (.r [])))))) (.s (.r []) .z)))))
theorem F23_eq (cf : CallF) (lf : Nat) (x0 : V) (h : Heap) : bodyA prog 0 f23 (f23.body.getD .skip) A23 cf lf [x0] h = F23 cf lf x0 h := by kernel_rfl

-- footman/footmanlaw4.same
noncomputable def F24_b1 (cf : CallF) (lf : Nat) : Fv 3 → Fv 3 := fun S5 v6 v7 v8 h9 =>
 lns v6 fun v10 =>
 bi .lss v8 v10 fun v11 =>
 vb v11 fun q12 => ifB q12 (
 ix 4 v6 v8 fun v13 =>
 ldn 4 v13 h9 fun v14 =>
 ix 4 v7 v8 fun v15 =>
 ldn 4 v15 h9 fun v16 =>
 bn prog .neq 37 v14 v16 fun v17 =>
 vb v17 fun q18 => ifB q18 (
 rt (.b false) h9) (
 bi .add v8 (.i .i64 (.ofNat 1)) fun v19 =>
 S5 v6 v7 v19 h9)) (
 rt (.b true) h9)
noncomputable def F24 (cf : CallF) (lf : Nat) : Fv 2 := fun x0 x1 h =>
 lns x0 fun v1 =>
 lns x1 fun v2 =>
 bi .neq v1 v2 fun v3 =>
 vb v3 fun q4 => ifB q4 (
 rt (.b false) h) (
 loop 3 lf (F24_b1 cf lf) x0 x1 (.i .i64 (.ofNat 0)) h)
def A24 : Ann := (.s (.r []) (.s (.s (.r []) (.s (.s (.r []) .z) .z)) (.s (.s (.r []) (.b (.l [0, 1, 5] (.s (.s (.r []) (.s .z .z)) (.s (.b (.s (.d [] [] [0, 0, 3, 7, 0, 0, 48, 112, 255]) (.s (.s (.r []) .z) .z))) (.r [])))))) (.s (.r []) .z))))
theorem F24_eq (cf : CallF) (lf : Nat) (x0 : V) (x1 : V) (h : Heap) : bodyA prog 0 f24 (f24.body.getD .skip) A24 cf lf [x0, x1] h = F24 cf lf x0 x1 h := by kernel_rfl

-- footman/guard.Of
noncomputable def F25_b1 (cf : CallF) (lf : Nat) : Fv 3 → Fv 3 := fun S3 v4 v5 v6 h7 =>
 bi .lss v6 (.i .i64 (.ofNat 16)) fun v8 =>
 vb v8 fun q9 => ifB q9 (
 ixa 16 1 v4 v6 fun v10 =>
 ld v10 h7 fun v11 =>
 bi .add v6 (.i .i64 (.ofNat 1)) fun v12 =>
 ixa 16 1 v4 v12 fun v13 =>
 ld v13 h7 fun v14 =>
 bi .andNot v11 (.i .u32 (.ofNat 3)) fun v15 =>
 bi .andNot v14 (.i .u32 (.ofNat 3)) fun v16 =>
 bi .and v14 (.i .u32 (.ofNat 1)) fun v17 =>
 bi .neq v17 (.i .u32 (.ofNat 0)) fun v18 =>
 bi .and v14 (.i .u32 (.ofNat 2)) fun v19 =>
 bi .neq v19 (.i .u32 (.ofNat 0)) fun v20 =>
 o1 (buildV prog 37 [(0, v15), (1, v16), (2, v18), (3, v20)]) fun v21 =>
 o2 (buildSliceV prog 38 1 [(0, v21)] h7) fun v22 h23 =>
 o2 (appendV prog 38 38 v5 v22 h23) fun v24 h25 =>
 bi .add v6 (.i .i64 (.ofNat 2)) fun v26 =>
 S3 v4 v24 v26 h25) (
 rt v5 h7)
noncomputable def F25 (cf : CallF) (lf : Nat) : Fv 1 := fun x0 h =>
 al (V.cells x0) h fun v1 h2 =>
 loop 3 lf (F25_b1 cf lf) v1 (.sl none 0 0 true) (.i .i64 (.ofNat 0)) h2
def A25 : Ann := (.s (.r []) (.s (.r []) (.s (.s (.r []) (.b (.l [1, 3, 4] (.s (.s (.r []) (.s .z .z)) (.s (.b (.s (.d [] [] [0, 1, 3, 0, 8, 24, 56, 7, 255]) (.r []))) (.r [])))))) (.s (.r []) .z))))
theorem F25_eq (cf : CallF) (lf : Nat) (x0 : V) (h : Heap) : bodyA prog 0 f25 (f25.body.getD .skip) A25 cf lf [x0] h = F25 cf lf x0 h := by kernel_rfl

-- footman/footmanlaw4.row
noncomputable def F26_b1 (cf : CallF) (lf : Nat) : Fv 4 → Fv 4 := fun S5 v6 v7 v8 v9 h10 =>
 lns v6 fun v11 =>
 bi .lss v9 v11 fun v12 =>
 vb v12 fun q13 => ifB q13 (
 bi .lss v9 (.i .i64 (.ofNat 16)) fun v14 =>
 vb v14 fun q15 => ifB q15 (
 ix 1 v6 v9 fun v16 =>
 ld v16 h10 fun v17 =>
 ixa 16 1 v8 v9 fun v18 =>
 st 1 v18 v17 h10 fun h19 =>
 bi .add v9 (.i .i64 (.ofNat 1)) fun v20 =>
 S5 v6 v7 v8 v20 h19) (
 ldn 16 v8 h10 fun v21 =>
 st 16 v7 v21 h10 fun h22 =>
 ldn 16 v7 h22 fun v23 =>
 rt v23 h22)) (
 ldn 16 v8 h10 fun v24 =>
 st 16 v7 v24 h10 fun h25 =>
 ldn 16 v7 h25 fun v26 =>
 rt v26 h25)
noncomputable def F26 (cf : CallF) (lf : Nat) : Fv 1 := fun x0 h =>
 al (zl prog 55) h fun v1 h2 =>
 al (zl prog 55) h2 fun v3 h4 =>
 loop 4 lf (F26_b1 cf lf) x0 v1 v3 (.i .i64 (.ofNat 0)) h4
def A26 : Ann := (.s (.r []) (.s (.r []) (.s (.s (.r []) (.b (.l [0, 2, 3, 4] (.s (.s (.r [5]) (.s .z .z)) (.s (.b (.r [])) (.r [])))))) (.s (.r []) .z))))
theorem F26_eq (cf : CallF) (lf : Nat) (x0 : V) (h : Heap) : bodyA prog 0 f26 (f26.body.getD .skip) A26 cf lf [x0] h = F26 cf lf x0 h := by kernel_rfl

-- footman/footmanref1.Of
noncomputable def F27_b1 (cf : CallF) (lf : Nat) : Fv 3 → Fv 3 := fun S3 v4 v5 v6 h7 =>
 bi .lss v6 (.i .i64 (.ofNat 16)) fun v8 =>
 vb v8 fun q9 => ifB q9 (
 ixa 16 1 v4 v6 fun v10 =>
 ld v10 h7 fun v11 =>
 bi .quo v11 (.i .u32 (.ofNat 4)) fun v12 =>
 bi .mul v12 (.i .u32 (.ofNat 4)) fun v13 =>
 bi .add v6 (.i .i64 (.ofNat 1)) fun v14 =>
 ixa 16 1 v4 v14 fun v15 =>
 ld v15 h7 fun v16 =>
 bi .quo v16 (.i .u32 (.ofNat 4)) fun v17 =>
 bi .mul v17 (.i .u32 (.ofNat 4)) fun v18 =>
 bi .add v6 (.i .i64 (.ofNat 1)) fun v19 =>
 ixa 16 1 v4 v19 fun v20 =>
 ld v20 h7 fun v21 =>
 bi .rem v21 (.i .u32 (.ofNat 2)) fun v22 =>
 bi .eql v22 (.i .u32 (.ofNat 1)) fun v23 =>
 bi .add v6 (.i .i64 (.ofNat 1)) fun v24 =>
 ixa 16 1 v4 v24 fun v25 =>
 ld v25 h7 fun v26 =>
 bi .quo v26 (.i .u32 (.ofNat 2)) fun v27 =>
 bi .rem v27 (.i .u32 (.ofNat 2)) fun v28 =>
 bi .eql v28 (.i .u32 (.ofNat 1)) fun v29 =>
 o1 (buildV prog 37 [(0, v13), (1, v18), (2, v23), (3, v29)]) fun v30 =>
 o2 (buildSliceV prog 38 1 [(0, v30)] (Heap.mk h7.next h7.t [])) fun v31 h32 =>
 fh (Heap.new h32 .dead) fun h33 =>
 let r34 : Rc := ⟨26, ⟨(some (List.flatMap V.ids [])), h32.wl.filter (fun x => Nat.blt x h7.next), h7.next, Nat.succ h32.next⟩, none, h7, h33⟩
 o2 (appendV prog 38 38 v5 v31 (Heap.mk h33.next h33.t [])) fun v35 h36 =>
 fh (Heap.new h36 .dead) fun h37 =>
 let r38 : Rc := ⟨27, ⟨(some (List.flatMap V.ids [v5, v31])), h36.wl.filter (fun x => Nat.blt x h33.next), h33.next, Nat.succ h36.next⟩, none, h33, h37⟩
 fh (Heap.mk h37.next h37.t (wrR [r34, r38] ++ h7.wl)) fun h39 =>
 bi .add v6 (.i .i64 (.ofNat 2)) fun v40 =>
 S3 v4 v35 v40 h39) (
 rt v5 h7)
noncomputable def F27 (cf : CallF) (lf : Nat) : Fv 1 := fun x0 h =>
 al (V.cells x0) h fun v1 h2 =>
 loop 3 lf (F27_b1 cf lf) v1 (.sl none 0 0 true) (.i .i64 (.ofNat 0)) h2
def A27 : Ann := (.s (.r []) (.s (.r []) (.s (.s (.r []) (.b (.l [1, 3, 4] (.s (.s (.r []) (.s .z .z)) (.s (.b (.d [] [] [0, 0, 2, 6, 14, 30, 0, 64, 192, 448, 960, 1984, 0, 4096, 12288, 28672, 61440, 126976, 0, 262144, 786432, 1835008, 3932160, 8126464, 16515072, 33554430, 67108862, 134217727, 268435455])) (.r [])))))) (.s (.r []) .z))))
theorem F27_eq (cf : CallF) (lf : Nat) (x0 : V) (h : Heap) : bodyA prog 0 f27 (f27.body.getD .skip) A27 cf lf [x0] h = F27 cf lf x0 h := by kernel_rfl

-- footman/footmanlaw1.Err
noncomputable def F28 (cf : CallF) (lf : Nat) : Fv 1 := fun x0 h =>
 rt x0 h
def A28 : Ann := (.s (.r []) (.s (.r []) .z))
theorem F28_eq (cf : CallF) (lf : Nat) (x0 : V) (h : Heap) : bodyA prog 0 f28 (f28.body.getD .skip) A28 cf lf [x0] h = F28 cf lf x0 h := by kernel_rfl

-- footman/footmanref1.Allow
noncomputable def F29_b1 (cf : CallF) (lf : Nat) : Fv 5 → Fv 5 := fun S13 v14 v15 v16 v17 v18 h19 =>
 lns v14 fun v20 =>
 bi .lss v18 v20 fun v21 =>
 vb v21 fun q22 => ifB q22 (
 ix 4 v14 v18 fun v23 =>
 ldn 4 v23 h19 fun v24 =>
 al (zl prog 37) h19 fun v25 h26 =>
 st 4 v25 v24 h26 fun h27 =>
 fa 0 v25 fun v28 =>
 ld v28 h27 fun v29 =>
 bi .geq v15 v29 fun v30 =>
 vb v30 fun q31 => ifB q31 (
 cv .i64 v15 fun v32 =>
 cv .i64 v16 fun v33 =>
 bi .add v32 v33 fun v34 =>
 fa 1 v25 fun v35 =>
 ld v35 h27 fun v36 =>
 cv .i64 v36 fun v37 =>
 bi .leq v34 v37 fun v38 =>
 vb v38 fun q39 => ifB q39 (
 bi .neq v17 (.i .i64 (.ofNat 2)) fun v40 =>
 vb v40 fun q41 => ifB q41 (
 bi .neq v17 (.i .i64 (.ofNat 1)) fun v42 =>
 vb v42 fun q43 => ifB q43 (
 rt (.b true) h27) (
 fa 3 v25 fun v44 =>
 ld v44 h27 fun v45 =>
 vb v45 fun q46 => ifB q46 (
 rt (.b true) h27) (
 bi .add v18 (.i .i64 (.ofNat 1)) fun v47 =>
 S13 v14 v15 v16 v17 v47 h27))) (
 fa 2 v25 fun v48 =>
 ld v48 h27 fun v49 =>
 vb v49 fun q50 => ifB q50 (
 bi .neq v17 (.i .i64 (.ofNat 1)) fun v51 =>
 vb v51 fun q52 => ifB q52 (
 rt (.b true) h27) (
 fa 3 v25 fun v53 =>
 ld v53 h27 fun v54 =>
 vb v54 fun q55 => ifB q55 (
 rt (.b true) h27) (
 bi .add v18 (.i .i64 (.ofNat 1)) fun v56 =>
 S13 v14 v15 v16 v17 v56 h27))) (
 bi .add v18 (.i .i64 (.ofNat 1)) fun v57 =>
 S13 v14 v15 v16 v17 v57 h27))) (
 bi .add v18 (.i .i64 (.ofNat 1)) fun v58 =>
 S13 v14 v15 v16 v17 v58 h27)) (
 bi .add v18 (.i .i64 (.ofNat 1)) fun v59 =>
 S13 v14 v15 v16 v17 v59 h27)) (
 rt (.b false) h19)
noncomputable def F29_j2 (cf : CallF) (lf : Nat) : Fv 4 := fun v8 v9 v10 v11 h12 =>
 loop 5 lf (F29_b1 cf lf) v8 v9 v10 v11 (.i .i64 (.ofNat 0)) h12
noncomputable def F29 (cf : CallF) (lf : Nat) : Fv 4 := fun x0 x1 x2 x3 h =>
 jn 4 (fun J1 =>
 bi .lss x2 (.i .u32 (.ofNat 1)) fun v2 =>
 vb v2 fun q3 => ifB q3 (
 rt (.b false) h) (
 bi .lss x3 (.i .i64 (.ofNat 0)) fun v4 =>
 vb v4 fun q5 => ifB q5 (
 rt (.b false) h) (
 bi .gtr x3 (.i .i64 (.ofNat 2)) fun v6 =>
 vb v6 fun q7 => ifB q7 (
 rt (.b false) h) (
 J1 x0 x1 x2 x3 h)))) (F29_j2 cf lf)
def A29 : Ann := (.s (.r []) (.j [0, 1, 2, 3] (.s (.r [3, 7]) (.s (.s (.r []) .z) .z)) (.s (.s (.r []) (.b (.l [0, 1, 2, 3, 9] (.s (.s (.r []) (.s .z .z)) (.s (.b (.s (.r []) (.s (.r [5, 16, 19, 21, 24, 27, 29]) (.s (.s (.r []) .z) .z)))) (.r [])))))) (.s (.r []) .z))))
theorem F29_eq (cf : CallF) (lf : Nat) (x0 : V) (x1 : V) (x2 : V) (x3 : V) (h : Heap) : bodyA prog 0 f29 (f29.body.getD .skip) A29 cf lf [x0, x1, x2, x3] h = F29 cf lf x0 x1 x2 x3 h := by kernel_rfl

-- footman/guard.may
noncomputable def F32 (cf : CallF) (lf : Nat) : Fv 2 := fun x0 x1 h =>
 al (V.cells x0) h fun v1 h2 =>
 bi .eql x1 (.i .i64 (.ofNat 0)) fun v3 =>
 vb v3 fun q4 => ifB q4 (
 rt (.b true) h2) (
 bi .eql x1 (.i .i64 (.ofNat 1)) fun v5 =>
 vb v5 fun q6 => ifB q6 (
 fa 3 v1 fun v7 =>
 ld v7 h2 fun v8 =>
 rt v8 h2) (
 bi .eql x1 (.i .i64 (.ofNat 2)) fun v9 =>
 vb v9 fun q10 => ifB q10 (
 fa 2 v1 fun v11 =>
 ld v11 h2 fun v12 =>
 rt v12 h2) (
 rt (.b false) h2)))
def A32 : Ann := (.s (.r []) (.s (.s (.r []) (.b (.s (.r []) (.s (.s (.r []) .z) (.s (.r []) (.s (.s (.r []) .z) (.s (.r []) (.s (.s (.r []) .z) .z)))))))) (.s (.r []) .z)))
theorem F32_eq (cf : CallF) (lf : Nat) (x0 : V) (x1 : V) (h : Heap) : bodyA prog 0 f32 (f32.body.getD .skip) A32 cf lf [x0, x1] h = F32 cf lf x0 x1 h := by kernel_rfl

-- footman/guard.high
noncomputable def F39 (cf : CallF) (lf : Nat) : Fv 1 := fun x0 h =>
 al (V.cells x0) h fun v1 h2 =>
 fa 1 v1 fun v3 =>
 ld v3 h2 fun v4 =>
 fa 2 v1 fun v5 =>
 ld v5 h2 fun v6 =>
 vb v6 fun q7 => ifB q7 (
 bi .or v4 (.i .u32 (.ofNat 1)) fun v8 =>
 fa 3 v1 fun v9 =>
 ld v9 h2 fun v10 =>
 vb v10 fun q11 => ifB q11 (
 bi .or v8 (.i .u32 (.ofNat 2)) fun v12 =>
 rt v12 h2) (
 rt v8 h2)) (
 fa 3 v1 fun v13 =>
 ld v13 h2 fun v14 =>
 vb v14 fun q15 => ifB q15 (
 bi .or v4 (.i .u32 (.ofNat 2)) fun v16 =>
 rt v16 h2) (
 rt v4 h2))
def A39 : Ann := (.s (.r []) (.s (.r []) (.s (.s (.r []) (.s (.r []) .z)) (.s (.s (.r []) (.s (.r []) .z)) (.s (.r []) .z)))))
theorem F39_eq (cf : CallF) (lf : Nat) (x0 : V) (h : Heap) : bodyA prog 0 f39 (f39.body.getD .skip) A39 cf lf [x0] h = F39 cf lf x0 h := by kernel_rfl

theorem b6 : BodyOk prog 0 6 (wrapF 6 F6) := BodyOk.mk (n := 6) (an := A6) func6 (c := f6.body.getD .skip) (by kernel_rfl) (by kernel_rfl) fun cf lf x0 x1 x2 x3 x4 x5 h => F6_eq cf lf x0 x1 x2 x3 x4 x5 h
theorem b7 : BodyOk prog 0 7 (wrapF 5 F7) := BodyOk.mk (n := 5) (an := A7) func7 (c := f7.body.getD .skip) (by kernel_rfl) (by kernel_rfl) fun cf lf x0 x1 x2 x3 x4 h => F7_eq cf lf x0 x1 x2 x3 x4 h
theorem b10 : BodyOk prog 0 10 (wrapF 5 F10) := BodyOk.mk (n := 5) (an := A10) func10 (c := f10.body.getD .skip) (by kernel_rfl) (by kernel_rfl) fun cf lf x0 x1 x2 x3 x4 h => F10_eq cf lf x0 x1 x2 x3 x4 h
theorem b11 : BodyOk prog 0 11 (wrapF 1 F11) := BodyOk.mk (n := 1) (an := A11) func11 (c := f11.body.getD .skip) (by kernel_rfl) (by kernel_rfl) fun cf lf x0 h => F11_eq cf lf x0 h
theorem b17 : BodyOk prog 0 17 (wrapF 4 F17) := BodyOk.mk (n := 4) (an := A17) func17 (c := f17.body.getD .skip) (by kernel_rfl) (by kernel_rfl) fun cf lf x0 x1 x2 x3 h => F17_eq cf lf x0 x1 x2 x3 h
theorem b18 : BodyOk prog 0 18 (wrapF 0 F18) := BodyOk.mk (n := 0) (an := A18) func18 (c := f18.body.getD .skip) (by kernel_rfl) (by kernel_rfl) fun cf lf h => F18_eq cf lf h
theorem b22 : BodyOk prog 0 22 (wrapF 1 F22) := BodyOk.mk (n := 1) (an := A22) func22 (c := f22.body.getD .skip) (by kernel_rfl) (by kernel_rfl) fun cf lf x0 h => F22_eq cf lf x0 h
theorem b23 : BodyOk prog 0 23 (wrapF 1 F23) := BodyOk.mk (n := 1) (an := A23) func23 (c := f23.body.getD .skip) (by kernel_rfl) (by kernel_rfl) fun cf lf x0 h => F23_eq cf lf x0 h
theorem b24 : BodyOk prog 0 24 (wrapF 2 F24) := BodyOk.mk (n := 2) (an := A24) func24 (c := f24.body.getD .skip) (by kernel_rfl) (by kernel_rfl) fun cf lf x0 x1 h => F24_eq cf lf x0 x1 h
theorem b25 : BodyOk prog 0 25 (wrapF 1 F25) := BodyOk.mk (n := 1) (an := A25) func25 (c := f25.body.getD .skip) (by kernel_rfl) (by kernel_rfl) fun cf lf x0 h => F25_eq cf lf x0 h
theorem b26 : BodyOk prog 0 26 (wrapF 1 F26) := BodyOk.mk (n := 1) (an := A26) func26 (c := f26.body.getD .skip) (by kernel_rfl) (by kernel_rfl) fun cf lf x0 h => F26_eq cf lf x0 h
theorem b27 : BodyOk prog 0 27 (wrapF 1 F27) := BodyOk.mk (n := 1) (an := A27) func27 (c := f27.body.getD .skip) (by kernel_rfl) (by kernel_rfl) fun cf lf x0 h => F27_eq cf lf x0 h
theorem b28 : BodyOk prog 0 28 (wrapF 1 F28) := BodyOk.mk (n := 1) (an := A28) func28 (c := f28.body.getD .skip) (by kernel_rfl) (by kernel_rfl) fun cf lf x0 h => F28_eq cf lf x0 h
theorem b29 : BodyOk prog 0 29 (wrapF 4 F29) := BodyOk.mk (n := 4) (an := A29) func29 (c := f29.body.getD .skip) (by kernel_rfl) (by kernel_rfl) fun cf lf x0 x1 x2 x3 h => F29_eq cf lf x0 x1 x2 x3 h
theorem b32 : BodyOk prog 0 32 (wrapF 2 F32) := BodyOk.mk (n := 2) (an := A32) func32 (c := f32.body.getD .skip) (by kernel_rfl) (by kernel_rfl) fun cf lf x0 x1 h => F32_eq cf lf x0 x1 h
theorem b39 : BodyOk prog 0 39 (wrapF 1 F39) := BodyOk.mk (n := 1) (an := A39) func39 (c := f39.body.getD .skip) (by kernel_rfl) (by kernel_rfl) fun cf lf x0 h => F39_eq cf lf x0 h
noncomputable def tabL : List (Nat × Sem1) := [(6, wrapF 6 F6), (7, wrapF 5 F7), (10, wrapF 5 F10), (11, wrapF 1 F11), (17, wrapF 4 F17), (18, wrapF 0 F18), (22, wrapF 1 F22), (23, wrapF 1 F23), (24, wrapF 2 F24), (25, wrapF 1 F25), (26, wrapF 1 F26), (27, wrapF 1 F27), (28, wrapF 1 F28), (29, wrapF 4 F29), (32, wrapF 2 F32), (39, wrapF 1 F39)]
noncomputable def tabT : PT Sem1 := (.n (.n (.n (.n .e none (.n .e (some (wrapF 1 F22)) .e)) (some (wrapF 6 F6)) (.n (.n .e (some (wrapF 1 F26)) .e) (some (wrapF 5 F10)) (.n .e (some (wrapF 0 F18)) .e))) none (.n (.n (.n .e (some (wrapF 1 F28)) .e) none .e) none (.n (.n .e (some (wrapF 2 F24)) .e) none (.n .e none (.n .e (some (wrapF 2 F32)) .e))))) none (.n (.n (.n (.n .e (some (wrapF 4 F29)) .e) none .e) none (.n (.n .e (some (wrapF 1 F25)) .e) none (.n .e (some (wrapF 4 F17)) .e))) none (.n (.n (.n .e (some (wrapF 1 F27)) .e) (some (wrapF 1 F11)) .e) none (.n (.n .e (some (wrapF 1 F23)) (.n .e (some (wrapF 1 F39)) .e)) (some (wrapF 5 F7)) .e))))
noncomputable def tab (f : Nat) : Option Sem1 := (path f).get tabT
theorem tabAll : ∀ p ∈ tabL, BodyOk prog 0 p.1 p.2 := List.forall_mem_cons.2 ⟨b6, List.forall_mem_cons.2 ⟨b7, List.forall_mem_cons.2 ⟨b10, List.forall_mem_cons.2 ⟨b11, List.forall_mem_cons.2 ⟨b17, List.forall_mem_cons.2 ⟨b18, List.forall_mem_cons.2 ⟨b22, List.forall_mem_cons.2 ⟨b23, List.forall_mem_cons.2 ⟨b24, List.forall_mem_cons.2 ⟨b25, List.forall_mem_cons.2 ⟨b26, List.forall_mem_cons.2 ⟨b27, List.forall_mem_cons.2 ⟨b28, List.forall_mem_cons.2 ⟨b29, List.forall_mem_cons.2 ⟨b32, List.forall_mem_cons.2 ⟨b39, fun _ h => nomatch h⟩⟩⟩⟩⟩⟩⟩⟩⟩⟩⟩⟩⟩⟩⟩⟩
theorem tab_ok : ∀ f F, tab f = some F → BodyOk prog 0 f F := fun f F h => tabAll (f, F) (mkT_mem (by rw [← (show tabT = mkT tabL by kernel_rfl)]; exact h))
end R
end Go.Proofs.Try
