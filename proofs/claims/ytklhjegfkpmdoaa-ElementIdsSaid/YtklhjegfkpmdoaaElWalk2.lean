/- Proved: each of these functions does what a plain function says. Conditions: none. -/
import Derived.Test.YtklhjegfkpmdoaaElWalk1

/-! What the functions do, as plain functions; and that they do. -/
namespace Go.Proofs.Ytklhjegfkpmdoaa
open Go Go.Am
abbrev f88_T (R : Type) : Type := Int → Int → Bool → Bool → Int → List Int → Int → Int → Int → Int → (List Int → Int → Int → Int → Int → List D2 → List D1 → Option R) → Option R
abbrev f88_X : Type := (Unit × (Int × Int × Bool × Bool × Int × Unit) × Unit)
abbrev f88_Y : Type := ((List Int × Int × Int × Unit × Int × Int × Unit) × Unit)
/-! ## 88: (*diorama/element.parser).level -/
abbrev f88_j12_T (R : Type) : Type := Bool → Bool → Int → Bool → List Int → Int → Int → Int → Int → List D1 → Int → Int → Bool → Bool → Int → List D2 → Int → Int → Int → Bool → Int → ByteArray → Int → Bool → Bool → (Bool → Bool → Int → Bool → List Int → Int → Int → Int → Int → List D1 → Int → Int → Bool → Bool → Int → List D2 → Int → Int → Int → Bool → Int → ByteArray → Int → Bool → Bool → Option R) → Option R
abbrev f88_j12_X : Type := (Unit × Unit × Unit × Bool × Unit × Unit × Bool × Int × Bool × Unit)
abbrev f88_j12_Y : Type := ((List Int × Int × Int × Unit × Int × Int × Unit) × List D1 × (Int × Int × Bool × Bool × Int × Unit) × List D2 × (Int × Int × Int × Bool × Unit) × (Int × ByteArray × Int × Bool × Bool × Unit) × Unit)
noncomputable def f88_j12 {R : Type} (_g_f25 : Nat → f25_T R) (_g_f56_2 : Nat → f56_2_T R) (_g_f87_2 : Nat → f87_2_T R) (_g_f99_2 : Nat → f99_2_T R) (_g_f100 : Nat → f100_T R) (_g_f68 : Nat → f68_T R) (_g_f101_3 : Nat → f101_3_T R) (_k : Nat) (v104 : Bool) (v105 : Bool) (v106 : Int) (v107 : Bool) (v108 : List Int) (v109 : Int) (v110 : Int) (v111 : Int) (v112 : Int) (v113 : List D1) (v114 : Int) (v115 : Int) (v116 : Bool) (v117 : Bool) (v118 : Int) (v119 : List D2) (v120 : Int) (v121 : Int) (v122 : Int) (v123 : Bool) (v124 : Int) (v125 : ByteArray) (v126 : Int) (v127 : Bool) (v128 : Bool) (X0 : Bool → Bool → Int → Bool → List Int → Int → Int → Int → Int → List D1 → Int → Int → Bool → Bool → Int → List D2 → Int → Int → Int → Bool → Int → ByteArray → Int → Bool → Bool → Option R) : Option R :=
  bif v107 then
    X0 v104 v105 v106 v107 v108 v109 v110 v111 v112 v113 v114 v115 v116 v117 v118 v119 v120 v121 v122 v123 v124 v125 v126 v127 v128
  else
    bif v116 then
      bif decide (v106 > v115) then
        X0 v104 v105 v106 true v108 v109 v110 v111 v112 v113 v114 v115 v116 v117 v118 v119 v120 v121 v122 v123 v124 v125 v126 v127 v128
      else
        X0 v104 v105 v106 (decide (v122 > v115)) v108 v109 v110 v111 v112 v113 v114 v115 v116 v117 v118 v119 v120 v121 v122 v123 v124 v125 v126 v127 v128
    else
      X0 v104 v105 v106 false v108 v109 v110 v111 v112 v113 v114 v115 v116 v117 v118 v119 v120 v121 v122 v123 v124 v125 v126 v127 v128
abbrev f88_j17_T (R : Type) : Type := Bool → Bool → Bool → List Int → Int → Int → Int → Int → List D1 → Int → Int → Bool → Bool → Int → List D2 → Int → Int → Int → Bool → Int → ByteArray → Int → Bool → Bool → (Bool → Bool → List Int → Int → Int → Int → Int → List D1 → Int → Int → Bool → Bool → Int → List D2 → Int → Int → Int → Bool → Int → ByteArray → Int → Bool → Bool → Option R) → Option R
abbrev f88_j17_X : Type := (Unit × Unit × Unit × Bool × Unit × Unit × Bool × Bool × Unit)
abbrev f88_j17_Y : Type := ((List Int × Int × Int × Unit × Int × Int × Unit) × List D1 × (Int × Int × Bool × Bool × Int × Unit) × List D2 × (Int × Int × Int × Bool × Unit) × (Int × ByteArray × Int × Bool × Bool × Unit) × Unit)
noncomputable def f88_j17 {R : Type} (_g_f25 : Nat → f25_T R) (_g_f56_2 : Nat → f56_2_T R) (_g_f87_2 : Nat → f87_2_T R) (_g_f99_2 : Nat → f99_2_T R) (_g_f100 : Nat → f100_T R) (_g_f68 : Nat → f68_T R) (_g_f101_3 : Nat → f101_3_T R) (_g_f88_j12 : Nat → f88_j12_T R) (_k : Nat) (v216 : Bool) (v217 : Bool) (v218 : Bool) (v219 : List Int) (v220 : Int) (v221 : Int) (v222 : Int) (v223 : Int) (v224 : List D1) (v225 : Int) (v226 : Int) (v227 : Bool) (v228 : Bool) (v229 : Int) (v230 : List D2) (v231 : Int) (v232 : Int) (v233 : Int) (v234 : Bool) (v235 : Int) (v236 : ByteArray) (v237 : Int) (v238 : Bool) (v239 : Bool) (X0 : Bool → Bool → List Int → Int → Int → Int → Int → List D1 → Int → Int → Bool → Bool → Int → List D2 → Int → Int → Int → Bool → Int → ByteArray → Int → Bool → Bool → Option R) : Option R :=
  bif v218 then
    X0 v217 v218 v219 v220 v221 v222 v223 v224 v225 v226 v227 v228 v229 v230 v231 v232 v233 v234 v235 v236 v237 v238 v239
  else
    bif (v235 == 237) then
      bif (v225 == 0) then
        X0 v217 true v219 v220 v221 v222 v223 v224 v225 v226 v227 v228 v229 v230 v231 v232 v233 v234 v235 v236 v237 v238 v239
      else
        X0 v217 (!v216) v219 v220 v221 v222 v223 v224 v225 v226 v227 v228 v229 v230 v231 v232 v233 v234 v235 v236 v237 v238 v239
    else
      X0 v217 false v219 v220 v221 v222 v223 v224 v225 v226 v227 v228 v229 v230 v231 v232 v233 v234 v235 v236 v237 v238 v239
abbrev f88_j18_T (R : Type) : Type := Bool → Bool → List Int → Int → Int → Int → Int → List D1 → Int → Int → Bool → Bool → Int → List D2 → Int → Int → Int → Bool → Int → ByteArray → Int → Bool → Bool → (Bool → List Int → Int → Int → Int → Int → List D1 → Int → Int → Bool → Bool → Int → List D2 → Int → Int → Int → Bool → Int → ByteArray → Int → Bool → Bool → Option R) → Option R
abbrev f88_j18_X : Type := (Unit × Unit × Unit × Unit × Unit × Bool × Bool × Unit)
abbrev f88_j18_Y : Type := ((List Int × Int × Int × Unit × Int × Int × Unit) × List D1 × (Int × Int × Bool × Bool × Int × Unit) × List D2 × (Int × Int × Int × Bool × Unit) × (Int × ByteArray × Int × Bool × Bool × Unit) × Unit)
noncomputable def f88_j18 {R : Type} (_g_f25 : Nat → f25_T R) (_g_f56_2 : Nat → f56_2_T R) (g_f87_2 : Nat → f87_2_T R) (_g_f99_2 : Nat → f99_2_T R) (g_f100 : Nat → f100_T R) (_g_f68 : Nat → f68_T R) (_g_f101_3 : Nat → f101_3_T R) (_g_f88_j12 : Nat → f88_j12_T R) (_g_f88_j17 : Nat → f88_j17_T R) (k : Nat) (v263 : Bool) (v264 : Bool) (v265 : List Int) (v266 : Int) (v267 : Int) (v268 : Int) (v269 : Int) (v270 : List D1) (v271 : Int) (v272 : Int) (v273 : Bool) (v274 : Bool) (v275 : Int) (v276 : List D2) (v277 : Int) (v278 : Int) (v279 : Int) (v280 : Bool) (v281 : Int) (v282 : ByteArray) (v283 : Int) (v284 : Bool) (v285 : Bool) (X0 : Bool → List Int → Int → Int → Int → Int → List D1 → Int → Int → Bool → Bool → Int → List D2 → Int → Int → Int → Bool → Int → ByteArray → Int → Bool → Bool → Option R) : Option R :=
  bif v264 then
    g_f87_2 k 42 v265 v266 v267 v268 v269 v270 (fun v286 v287 v288 v289 v290 v291 =>
      X0 v263 v286 v287 v288 v289 v290 v291 v271 v272 v273 v274 v275 v276 v277 v278 v279 v280 v281 v282 v283 v284 v285)
  else
    bif decide (v275 > 8) then
      g_f87_2 k 43 v265 v266 v267 v268 v269 v270 (fun v292 v293 v294 v295 v296 v297 =>
        X0 v263 v292 v293 v294 v295 v296 v297 v271 v272 v273 v274 v275 v276 v277 v278 v279 v280 v281 v282 v283 v284 v285)
    else
      bif (v281 == 237) then
        g_f100 k v277 v278 v279 v280 v271 v272 v273 v274 v275 v265 v266 v267 v268 v269 v270 (fun v298 v299 v300 v301 v302 v303 =>
          X0 v263 v298 v299 v300 v301 v302 v303 v271 v272 v273 v274 v275 v276 v277 v278 v279 v280 v281 v282 v283 v284 v285)
      else
        X0 v263 v265 v266 v267 v268 v269 v270 v271 v272 v273 v274 v275 v276 v277 v278 v279 v280 v281 v282 v283 v284 v285
abbrev f88_j15_T (R : Type) : Type := Bool → Bool → Bool → List Int → Int → Int → Int → Int → List D1 → Int → Int → Bool → Bool → Int → List D2 → Int → Int → Int → Bool → Int → ByteArray → Int → Bool → Bool → (Bool → List Int → Int → Int → Int → Int → List D1 → Int → Int → Bool → Bool → Int → List D2 → Int → Int → Int → Bool → Int → ByteArray → Int → Bool → Bool → Option R) → Option R
abbrev f88_j15_X : Type := (Unit × Unit × Unit × Bool × Unit × Unit × Bool × Bool × Unit)
abbrev f88_j15_Y : Type := ((List Int × Int × Int × Unit × Int × Int × Unit) × List D1 × (Int × Int × Bool × Bool × Int × Unit) × List D2 × (Int × Int × Int × Bool × Unit) × (Int × ByteArray × Int × Bool × Bool × Unit) × Unit)
noncomputable def f88_j15 {R : Type} (_g_f25 : Nat → f25_T R) (_g_f56_2 : Nat → f56_2_T R) (g_f87_2 : Nat → f87_2_T R) (_g_f99_2 : Nat → f99_2_T R) (_g_f100 : Nat → f100_T R) (g_f68 : Nat → f68_T R) (_g_f101_3 : Nat → f101_3_T R) (_g_f88_j12 : Nat → f88_j12_T R) (g_f88_j17 : Nat → f88_j17_T R) (g_f88_j18 : Nat → f88_j18_T R) (k : Nat) (v185 : Bool) (v186 : Bool) (v187 : Bool) (v188 : List Int) (v189 : Int) (v190 : Int) (v191 : Int) (v192 : Int) (v193 : List D1) (v194 : Int) (v195 : Int) (v196 : Bool) (v197 : Bool) (v198 : Int) (v199 : List D2) (v200 : Int) (v201 : Int) (v202 : Int) (v203 : Bool) (v204 : Int) (v205 : ByteArray) (v206 : Int) (v207 : Bool) (v208 : Bool) (X0 : Bool → List Int → Int → Int → Int → Int → List D1 → Int → Int → Bool → Bool → Int → List D2 → Int → Int → Int → Bool → Int → ByteArray → Int → Bool → Bool → Option R) : Option R :=
  bif v187 then
    g_f87_2 k 3 v188 v189 v190 v191 v192 v193 (fun v209 v210 v211 v212 v213 v214 =>
      X0 v186 v209 v210 v211 v212 v213 v214 v194 v195 v196 v197 v198 v199 v200 v201 v202 v203 v204 v205 v206 v207 v208)
  else
    bif (!v186) then
      g_f68 k v204 v205 v206 v207 v208 v194 (fun v215 =>
        g_f88_j17 k v185 v186 (!v215) v188 v189 v190 v191 v192 v193 v194 v195 v196 v197 v198 v199 v200 v201 v202 v203 v204 v205 v206 v207 v208 (fun v240 v241 v242 v243 v244 v245 v246 v247 v248 v249 v250 v251 v252 v253 v254 v255 v256 v257 v258 v259 v260 v261 v262 =>
          g_f88_j18 k v240 v241 v242 v243 v244 v245 v246 v247 v248 v249 v250 v251 v252 v253 v254 v255 v256 v257 v258 v259 v260 v261 v262 (fun v304 v305 v306 v307 v308 v309 v310 v311 v312 v313 v314 v315 v316 v317 v318 v319 v320 v321 v322 v323 v324 v325 =>
            X0 v304 v305 v306 v307 v308 v309 v310 v311 v312 v313 v314 v315 v316 v317 v318 v319 v320 v321 v322 v323 v324 v325)))
    else
      g_f88_j17 k v185 v186 false v188 v189 v190 v191 v192 v193 v194 v195 v196 v197 v198 v199 v200 v201 v202 v203 v204 v205 v206 v207 v208 (fun v326 v327 v328 v329 v330 v331 v332 v333 v334 v335 v336 v337 v338 v339 v340 v341 v342 v343 v344 v345 v346 v347 v348 =>
        g_f88_j18 k v326 v327 v328 v329 v330 v331 v332 v333 v334 v335 v336 v337 v338 v339 v340 v341 v342 v343 v344 v345 v346 v347 v348 (fun v349 v350 v351 v352 v353 v354 v355 v356 v357 v358 v359 v360 v361 v362 v363 v364 v365 v366 v367 v368 v369 v370 =>
          X0 v349 v350 v351 v352 v353 v354 v355 v356 v357 v358 v359 v360 v361 v362 v363 v364 v365 v366 v367 v368 v369 v370))
abbrev f88_j13_T (R : Type) : Type := Bool → Bool → Int → Bool → List Int → Int → Int → Int → Int → List D1 → Int → Int → Bool → Bool → Int → List D2 → Int → Int → Int → Bool → Int → ByteArray → Int → Bool → Bool → (Bool → List Int → Int → Int → Int → Int → List D1 → Int → Int → Bool → Bool → Int → List D2 → Int → Int → Int → Bool → Int → ByteArray → Int → Bool → Bool → Option R) → Option R
abbrev f88_j13_X : Type := (Unit × Unit × Unit × Bool × Unit × Unit × Bool × Int × Bool × Unit)
abbrev f88_j13_Y : Type := ((List Int × Int × Int × Unit × Int × Int × Unit) × List D1 × (Int × Int × Bool × Bool × Int × Unit) × List D2 × (Int × Int × Int × Bool × Unit) × (Int × ByteArray × Int × Bool × Bool × Unit) × Unit)
noncomputable def f88_j13 {R : Type} (_g_f25 : Nat → f25_T R) (_g_f56_2 : Nat → f56_2_T R) (g_f87_2 : Nat → f87_2_T R) (_g_f99_2 : Nat → f99_2_T R) (_g_f100 : Nat → f100_T R) (_g_f68 : Nat → f68_T R) (_g_f101_3 : Nat → f101_3_T R) (_g_f88_j12 : Nat → f88_j12_T R) (_g_f88_j17 : Nat → f88_j17_T R) (_g_f88_j18 : Nat → f88_j18_T R) (g_f88_j15 : Nat → f88_j15_T R) (k : Nat) (v154 : Bool) (v155 : Bool) (v156 : Int) (v157 : Bool) (v158 : List Int) (v159 : Int) (v160 : Int) (v161 : Int) (v162 : Int) (v163 : List D1) (v164 : Int) (v165 : Int) (v166 : Bool) (v167 : Bool) (v168 : Int) (v169 : List D2) (v170 : Int) (v171 : Int) (v172 : Int) (v173 : Bool) (v174 : Int) (v175 : ByteArray) (v176 : Int) (v177 : Bool) (v178 : Bool) (X0 : Bool → List Int → Int → Int → Int → Int → List D1 → Int → Int → Bool → Bool → Int → List D2 → Int → Int → Int → Bool → Int → ByteArray → Int → Bool → Bool → Option R) : Option R :=
  bif v157 then
    g_f87_2 k 41 v158 v159 v160 v161 v162 v163 (fun v179 v180 v181 v182 v183 v184 =>
      X0 v155 v179 v180 v181 v182 v183 v184 v164 v165 v166 v167 v168 v169 v170 v171 v172 v173 v174 v175 v176 v177 v178)
  else
    bif decide (v156 > (v158.length : Int)) then
      g_f88_j15 k v154 v155 true v158 v159 v160 v161 v162 v163 v164 v165 v166 v167 v168 v169 v170 v171 v172 v173 v174 v175 v176 v177 v178 (fun v371 v372 v373 v374 v375 v376 v377 v378 v379 v380 v381 v382 v383 v384 v385 v386 v387 v388 v389 v390 v391 v392 =>
        X0 v371 v372 v373 v374 v375 v376 v377 v378 v379 v380 v381 v382 v383 v384 v385 v386 v387 v388 v389 v390 v391 v392)
    else
      g_f88_j15 k v154 v155 (decide (v172 > (v158.length : Int))) v158 v159 v160 v161 v162 v163 v164 v165 v166 v167 v168 v169 v170 v171 v172 v173 v174 v175 v176 v177 v178 (fun v393 v394 v395 v396 v397 v398 v399 v400 v401 v402 v403 v404 v405 v406 v407 v408 v409 v410 v411 v412 v413 v414 =>
        X0 v393 v394 v395 v396 v397 v398 v399 v400 v401 v402 v403 v404 v405 v406 v407 v408 v409 v410 v411 v412 v413 v414)
abbrev f88_j23_T (R : Type) : Type := Bool → List Int → Int → Int → Int → Int → List D1 → Int → Int → Bool → Bool → Int → List D2 → Int → Int → Int → Bool → Int → ByteArray → Int → Bool → Bool → (List D2 → List Int → Int → Int → Int → Int → List D1 → Option R) → (List Int → Int → Int → Int → Int → List D1 → Int → Int → Bool → Bool → Int → List D2 → Option R) → Option R
abbrev f88_j23_X : Type := (Unit × Unit × Unit × Unit × Unit × Bool × Unit)
abbrev f88_j23_Y : Type := ((List Int × Int × Int × Unit × Int × Int × Unit) × List D1 × (Int × Int × Bool × Bool × Int × Unit) × List D2 × (Int × Int × Int × Bool × Unit) × (Int × ByteArray × Int × Bool × Bool × Unit) × Unit)
noncomputable def f88_j23 {R : Type} (_g_f25 : Nat → f25_T R) (g_f56_2 : Nat → f56_2_T R) (_g_f87_2 : Nat → f87_2_T R) (_g_f99_2 : Nat → f99_2_T R) (_g_f100 : Nat → f100_T R) (_g_f68 : Nat → f68_T R) (g_f101_3 : Nat → f101_3_T R) (_g_f88_j12 : Nat → f88_j12_T R) (_g_f88_j17 : Nat → f88_j17_T R) (_g_f88_j18 : Nat → f88_j18_T R) (_g_f88_j15 : Nat → f88_j15_T R) (_g_f88_j13 : Nat → f88_j13_T R) (k : Nat) (v437 : Bool) (v438 : List Int) (v439 : Int) (v440 : Int) (v441 : Int) (v442 : Int) (v443 : List D1) (v444 : Int) (v445 : Int) (v446 : Bool) (v447 : Bool) (v448 : Int) (v449 : List D2) (v450 : Int) (v451 : Int) (v452 : Int) (v453 : Bool) (v454 : Int) (v455 : ByteArray) (v456 : Int) (v457 : Bool) (v458 : Bool) (X0 : List D2 → List Int → Int → Int → Int → Int → List D1 → Option R) (X1 : List Int → Int → Int → Int → Int → List D1 → Int → Int → Bool → Bool → Int → List D2 → Option R) : Option R :=
  g_f56_2 k v438 v439 v440 v441 v442 v443 (fun v459 v460 v461 v462 v463 v464 v465 =>
    bif (!v459) then
      X0 v449 v460 v461 v462 v463 v464 v465
    else
      g_f101_3 k v450 v451 v452 v453 v454 v455 v456 v457 v458 v437 v444 v445 v446 v447 v448 v460 v461 v462 v463 v464 v465 (fun v466 v467 v468 v469 v470 v471 v472 v473 v474 v475 v476 =>
        bif v468 then
          bif room 64 (v449.length + ([(D2.mk v466 v474 v475 v467)]).length) then
            X1 v469 v470 v471 v472 v473 v476 v444 v445 v446 v447 v448 (v449 ++ ([(D2.mk v466 v474 v475 v467)]))
          else
            none
        else
          X1 v469 v470 v471 v472 v473 v476 v444 v445 v446 v447 v448 v449))
abbrev f88_j10_T (R : Type) : Type := Bool → Bool → List Int → Int → Int → Int → Int → List D1 → Int → Int → Bool → Bool → Int → List D2 → Int → Int → Int → Bool → Int → ByteArray → Int → Bool → Bool → (List D2 → List Int → Int → Int → Int → Int → List D1 → Option R) → (List Int → Int → Int → Int → Int → List D1 → Int → Int → Bool → Bool → Int → List D2 → Option R) → Option R
abbrev f88_j10_X : Type := (Unit × Unit × Unit × Bool × Unit × Unit × Bool × Unit)
abbrev f88_j10_Y : Type := ((List Int × Int × Int × Unit × Int × Int × Unit) × List D1 × (Int × Int × Bool × Bool × Int × Unit) × List D2 × (Int × Int × Int × Bool × Unit) × (Int × ByteArray × Int × Bool × Bool × Unit) × Unit)
noncomputable def f88_j10 {R : Type} (_g_f25 : Nat → f25_T R) (_g_f56_2 : Nat → f56_2_T R) (_g_f87_2 : Nat → f87_2_T R) (_g_f99_2 : Nat → f99_2_T R) (_g_f100 : Nat → f100_T R) (_g_f68 : Nat → f68_T R) (_g_f101_3 : Nat → f101_3_T R) (g_f88_j12 : Nat → f88_j12_T R) (_g_f88_j17 : Nat → f88_j17_T R) (_g_f88_j18 : Nat → f88_j18_T R) (_g_f88_j15 : Nat → f88_j15_T R) (g_f88_j13 : Nat → f88_j13_T R) (g_f88_j23 : Nat → f88_j23_T R) (k : Nat) (v81 : Bool) (v82 : Bool) (v83 : List Int) (v84 : Int) (v85 : Int) (v86 : Int) (v87 : Int) (v88 : List D1) (v89 : Int) (v90 : Int) (v91 : Bool) (v92 : Bool) (v93 : Int) (v94 : List D2) (v95 : Int) (v96 : Int) (v97 : Int) (v98 : Bool) (v99 : Int) (v100 : ByteArray) (v101 : Int) (v102 : Bool) (v103 : Bool) (X0 : List D2 → List Int → Int → Int → Int → Int → List D1 → Option R) (X1 : List Int → Int → Int → Int → Int → List D1 → Int → Int → Bool → Bool → Int → List D2 → Option R) : Option R :=
  bif v98 then
    g_f88_j12 k v81 v82 (IntKind.i64.wrap ((IntKind.i64.wrap (v84 + v96)) + v97)) (!v103) v83 v84 v85 v86 v87 v88 v89 v90 v91 v92 v93 v94 v95 v96 v97 v98 v99 v100 v101 v102 v103 (fun v129 v130 v131 v132 v133 v134 v135 v136 v137 v138 v139 v140 v141 v142 v143 v144 v145 v146 v147 v148 v149 v150 v151 v152 v153 =>
      g_f88_j13 k v129 v130 v131 v132 v133 v134 v135 v136 v137 v138 v139 v140 v141 v142 v143 v144 v145 v146 v147 v148 v149 v150 v151 v152 v153 (fun v415 v416 v417 v418 v419 v420 v421 v422 v423 v424 v425 v426 v427 v428 v429 v430 v431 v432 v433 v434 v435 v436 =>
        g_f88_j23 k v415 v416 v417 v418 v419 v420 v421 v422 v423 v424 v425 v426 v427 v428 v429 v430 v431 v432 v433 v434 v435 v436 (fun v477 v478 v479 v480 v481 v482 v483 =>
          X0 v477 v478 v479 v480 v481 v482 v483) (fun v484 v485 v486 v487 v488 v489 v490 v491 v492 v493 v494 v495 =>
          X1 v484 v485 v486 v487 v488 v489 v490 v491 v492 v493 v494 v495)))
  else
    g_f88_j12 k v81 v82 (IntKind.i64.wrap ((IntKind.i64.wrap (v84 + v96)) + v97)) false v83 v84 v85 v86 v87 v88 v89 v90 v91 v92 v93 v94 v95 v96 v97 v98 v99 v100 v101 v102 v103 (fun v496 v497 v498 v499 v500 v501 v502 v503 v504 v505 v506 v507 v508 v509 v510 v511 v512 v513 v514 v515 v516 v517 v518 v519 v520 =>
      g_f88_j13 k v496 v497 v498 v499 v500 v501 v502 v503 v504 v505 v506 v507 v508 v509 v510 v511 v512 v513 v514 v515 v516 v517 v518 v519 v520 (fun v521 v522 v523 v524 v525 v526 v527 v528 v529 v530 v531 v532 v533 v534 v535 v536 v537 v538 v539 v540 v541 v542 =>
        g_f88_j23 k v521 v522 v523 v524 v525 v526 v527 v528 v529 v530 v531 v532 v533 v534 v535 v536 v537 v538 v539 v540 v541 v542 (fun v543 v544 v545 v546 v547 v548 v549 =>
          X0 v543 v544 v545 v546 v547 v548 v549) (fun v550 v551 v552 v553 v554 v555 v556 v557 v558 v559 v560 v561 =>
          X1 v550 v551 v552 v553 v554 v555 v556 v557 v558 v559 v560 v561)))
abbrev f88_j9_T (R : Type) : Type := Bool → Bool → List Int → Int → Int → Int → Int → List D1 → Int → Int → Bool → Bool → Int → List D2 → Int → Int → Int → Bool → Int → ByteArray → Int → Bool → Bool → (List D2 → List Int → Int → Int → Int → Int → List D1 → Option R) → (List Int → Int → Int → Int → Int → List D1 → Int → Int → Bool → Bool → Int → List D2 → Option R) → Option R
abbrev f88_j9_X : Type := (Unit × Unit × Unit × Bool × Unit × Unit × Bool × Unit)
abbrev f88_j9_Y : Type := ((List Int × Int × Int × Unit × Int × Int × Unit) × List D1 × (Int × Int × Bool × Bool × Int × Unit) × List D2 × (Int × Int × Int × Bool × Unit) × (Int × ByteArray × Int × Bool × Bool × Unit) × Unit)
noncomputable def f88_j9 {R : Type} (_g_f25 : Nat → f25_T R) (_g_f56_2 : Nat → f56_2_T R) (_g_f87_2 : Nat → f87_2_T R) (_g_f99_2 : Nat → f99_2_T R) (_g_f100 : Nat → f100_T R) (g_f68 : Nat → f68_T R) (_g_f101_3 : Nat → f101_3_T R) (_g_f88_j12 : Nat → f88_j12_T R) (_g_f88_j17 : Nat → f88_j17_T R) (_g_f88_j18 : Nat → f88_j18_T R) (_g_f88_j15 : Nat → f88_j15_T R) (_g_f88_j13 : Nat → f88_j13_T R) (_g_f88_j23 : Nat → f88_j23_T R) (g_f88_j10 : Nat → f88_j10_T R) (k : Nat) (v57 : Bool) (v58 : Bool) (v59 : List Int) (v60 : Int) (v61 : Int) (v62 : Int) (v63 : Int) (v64 : List D1) (v65 : Int) (v66 : Int) (v67 : Bool) (v68 : Bool) (v69 : Int) (v70 : List D2) (v71 : Int) (v72 : Int) (v73 : Int) (v74 : Bool) (v75 : Int) (v76 : ByteArray) (v77 : Int) (v78 : Bool) (v79 : Bool) (X0 : List D2 → List Int → Int → Int → Int → Int → List D1 → Option R) (X1 : List Int → Int → Int → Int → Int → List D1 → Int → Int → Bool → Bool → Int → List D2 → Option R) : Option R :=
  bif v68 then
    bif (!v58) then
      g_f68 k v75 v76 v77 v78 v79 v65 (fun v80 =>
        bif (!v80) then
          X0 v70 v59 v60 v61 v62 v63 v64
        else
          g_f88_j10 k v57 v58 v59 v60 v61 v62 v63 v64 v65 v66 v67 v68 v69 v70 v71 v72 v73 v74 v75 v76 v77 v78 v79 (fun v562 v563 v564 v565 v566 v567 v568 =>
            X0 v562 v563 v564 v565 v566 v567 v568) (fun v569 v570 v571 v572 v573 v574 v575 v576 v577 v578 v579 v580 =>
            X1 v569 v570 v571 v572 v573 v574 v575 v576 v577 v578 v579 v580))
    else
      g_f88_j10 k v57 v58 v59 v60 v61 v62 v63 v64 v65 v66 v67 v68 v69 v70 v71 v72 v73 v74 v75 v76 v77 v78 v79 (fun v581 v582 v583 v584 v585 v586 v587 =>
        X0 v581 v582 v583 v584 v585 v586 v587) (fun v588 v589 v590 v591 v592 v593 v594 v595 v596 v597 v598 v599 =>
        X1 v588 v589 v590 v591 v592 v593 v594 v595 v596 v597 v598 v599)
  else
    g_f88_j10 k v57 v58 v59 v60 v61 v62 v63 v64 v65 v66 v67 v68 v69 v70 v71 v72 v73 v74 v75 v76 v77 v78 v79 (fun v600 v601 v602 v603 v604 v605 v606 =>
      X0 v600 v601 v602 v603 v604 v605 v606) (fun v607 v608 v609 v610 v611 v612 v613 v614 v615 v616 v617 v618 =>
      X1 v607 v608 v609 v610 v611 v612 v613 v614 v615 v616 v617 v618)
abbrev f88_j5_T (R : Type) : Type := Bool → List Int → Int → Int → Int → Int → List D1 → Int → Int → Bool → Bool → Int → List D2 → (List D2 → List Int → Int → Int → Int → Int → List D1 → Option R) → (Bool → List Int → Int → Int → Int → Int → List D1 → Int → Int → Bool → Bool → Int → List D2 → Option R) → Option R
abbrev f88_j5_X : Type := (Unit × Unit × Unit × Bool × Unit)
abbrev f88_j5_Y : Type := ((List Int × Int × Int × Unit × Int × Int × Unit) × List D1 × (Int × Int × Bool × Bool × Int × Unit) × List D2 × Unit)
noncomputable def f88_j5 {R : Type} (g_f25 : Nat → f25_T R) (g_f56_2 : Nat → f56_2_T R) (_g_f87_2 : Nat → f87_2_T R) (g_f99_2 : Nat → f99_2_T R) (_g_f100 : Nat → f100_T R) (_g_f68 : Nat → f68_T R) (_g_f101_3 : Nat → f101_3_T R) (_g_f88_j12 : Nat → f88_j12_T R) (_g_f88_j17 : Nat → f88_j17_T R) (_g_f88_j18 : Nat → f88_j18_T R) (_g_f88_j15 : Nat → f88_j15_T R) (_g_f88_j13 : Nat → f88_j13_T R) (_g_f88_j23 : Nat → f88_j23_T R) (_g_f88_j10 : Nat → f88_j10_T R) (g_f88_j9 : Nat → f88_j9_T R) (k : Nat) (v21 : Bool) (v22 : List Int) (v23 : Int) (v24 : Int) (v25 : Int) (v26 : Int) (v27 : List D1) (v28 : Int) (v29 : Int) (v30 : Bool) (v31 : Bool) (v32 : Int) (v33 : List D2) (X0 : List D2 → List Int → Int → Int → Int → Int → List D1 → Option R) (X1 : Bool → List Int → Int → Int → Int → Int → List D1 → Int → Int → Bool → Bool → Int → List D2 → Option R) : Option R :=
  g_f99_2 k v22 v23 v24 v25 v26 v27 (fun v34 v35 v36 v37 v38 v39 v40 v41 v42 v43 =>
    g_f56_2 k v38 v39 v40 v41 v42 v43 (fun v44 v45 v46 v47 v48 v49 v50 =>
      bif (!v44) then
        X0 v33 v45 v46 v47 v48 v49 v50
      else
        g_f25 k v34 (fun v51 v52 v53 v54 v55 v56 =>
          bif (!v56) then
            g_f88_j9 k v21 true v45 v46 v47 v48 v49 v50 v28 v29 v30 v31 v32 v33 v34 v35 v36 v37 v51 v52 v53 v54 v55 (fun v619 v620 v621 v622 v623 v624 v625 =>
              X0 v619 v620 v621 v622 v623 v624 v625) (fun v626 v627 v628 v629 v630 v631 v632 v633 v634 v635 v636 v637 =>
              X1 false v626 v627 v628 v629 v630 v631 v632 v633 v634 v635 v636 v637)
          else
            g_f88_j9 k v21 (decide (v53 < 0)) v45 v46 v47 v48 v49 v50 v28 v29 v30 v31 v32 v33 v34 v35 v36 v37 v51 v52 v53 v54 v55 (fun v638 v639 v640 v641 v642 v643 v644 =>
              X0 v638 v639 v640 v641 v642 v643 v644) (fun v645 v646 v647 v648 v649 v650 v651 v652 v653 v654 v655 v656 =>
              X1 false v645 v646 v647 v648 v649 v650 v651 v652 v653 v654 v655 v656))))
abbrev f88_l3_X : Type := (Unit × Unit × Unit × Bool × Unit)
abbrev f88_l3_Y : Type := ((List Int × Int × Int × Unit × Int × Int × Unit) × List D1 × (Int × Int × Bool × Bool × Int × Unit) × List D2 × Unit)
noncomputable def f88_l3 {R : Type} (g_f25 : Nat → f25_T R) (g_f56_2 : Nat → f56_2_T R) (g_f87_2 : Nat → f87_2_T R) (g_f99_2 : Nat → f99_2_T R) (g_f100 : Nat → f100_T R) (g_f68 : Nat → f68_T R) (g_f101_3 : Nat → f101_3_T R) (g_f88_j12 : Nat → f88_j12_T R) (g_f88_j17 : Nat → f88_j17_T R) (g_f88_j18 : Nat → f88_j18_T R) (g_f88_j15 : Nat → f88_j15_T R) (g_f88_j13 : Nat → f88_j13_T R) (g_f88_j23 : Nat → f88_j23_T R) (g_f88_j10 : Nat → f88_j10_T R) (g_f88_j9 : Nat → f88_j9_T R) (g_f88_j5 : Nat → f88_j5_T R) : Nat → Bool → List Int → Int → Int → Int → Int → List D1 → Int → Int → Bool → Bool → Int → List D2 → (List D2 → List Int → Int → Int → Int → Int → List D1 → Option R) → Option R
  | 0, _, _, _, _, _, _, _, _, _, _, _, _, _, _ => none
  | k + 1, v1, v2, v3, v4, v5, v6, v7, v8, v9, v10, v11, v12, v13, X0 =>
    bif decide (v3 < v9) then
      g_f56_2 k v2 v3 v4 v5 v6 v7 (fun v14 v15 v16 v17 v18 v19 v20 =>
        bif v14 then
          g_f88_j5 k v1 v15 v16 v17 v18 v19 v20 v8 v9 v10 v11 v12 v13 (fun v657 v658 v659 v660 v661 v662 v663 =>
            X0 v657 v658 v659 v660 v661 v662 v663) (fun v664 v665 v666 v667 v668 v669 v670 v671 v672 v673 v674 v675 v676 =>
            f88_l3 g_f25 g_f56_2 g_f87_2 g_f99_2 g_f100 g_f68 g_f101_3 g_f88_j12 g_f88_j17 g_f88_j18 g_f88_j15 g_f88_j13 g_f88_j23 g_f88_j10 g_f88_j9 g_f88_j5 k v664 v665 v666 v667 v668 v669 v670 v671 v672 v673 v674 v675 v676 X0)
        else
          X0 v13 v15 v16 v17 v18 v19 v20)
    else
      X0 v13 v2 v3 v4 v5 v6 v7
noncomputable def f88_s {R : Type} (g_f25 : Nat → f25_T R) (g_f56_2 : Nat → f56_2_T R) (g_f87_2 : Nat → f87_2_T R) (g_f99_2 : Nat → f99_2_T R) (g_f100 : Nat → f100_T R) (g_f68 : Nat → f68_T R) (g_f101_3 : Nat → f101_3_T R) (g_f88_j12 : Nat → f88_j12_T R) (g_f88_j17 : Nat → f88_j17_T R) (g_f88_j18 : Nat → f88_j18_T R) (g_f88_j15 : Nat → f88_j15_T R) (g_f88_j13 : Nat → f88_j13_T R) (g_f88_j23 : Nat → f88_j23_T R) (g_f88_j10 : Nat → f88_j10_T R) (g_f88_j9 : Nat → f88_j9_T R) (g_f88_j5 : Nat → f88_j5_T R) (k : Nat) (a0 : Int) (a1 : Int) (a2 : Bool) (a3 : Bool) (a4 : Int) (a5 : List Int) (a6 : Int) (a7 : Int) (a8 : Int) (a9 : Int) (K : List Int → Int → Int → Int → Int → List D2 → List D1 → Option R) : Option R :=
  f88_l3 g_f25 g_f56_2 g_f87_2 g_f99_2 g_f100 g_f68 g_f101_3 g_f88_j12 g_f88_j17 g_f88_j18 g_f88_j15 g_f88_j13 g_f88_j23 g_f88_j10 g_f88_j9 g_f88_j5 k true a5 a6 a7 a8 a9 ([] : List D1) a0 a1 a2 a3 a4 ([] : List D2) (fun v677 v678 v679 v680 v681 v682 v683 =>
    K v678 v679 v680 v681 v682 v677 v683)
noncomputable def f88_j12_c {R : Type} : Nat → f88_j12_T R := f88_j12 (f25 (R := R)) (f56_2 (R := R)) (f87_2 (R := R)) (f99_2 (R := R)) (f100 (R := R)) (f68 (R := R)) (f101_3 (R := R))
noncomputable def f88_j17_c {R : Type} : Nat → f88_j17_T R := f88_j17 (f25 (R := R)) (f56_2 (R := R)) (f87_2 (R := R)) (f99_2 (R := R)) (f100 (R := R)) (f68 (R := R)) (f101_3 (R := R)) (f88_j12_c (R := R))
noncomputable def f88_j18_c {R : Type} : Nat → f88_j18_T R := f88_j18 (f25 (R := R)) (f56_2 (R := R)) (f87_2 (R := R)) (f99_2 (R := R)) (f100 (R := R)) (f68 (R := R)) (f101_3 (R := R)) (f88_j12_c (R := R)) (f88_j17_c (R := R))
noncomputable def f88_j15_c {R : Type} : Nat → f88_j15_T R := f88_j15 (f25 (R := R)) (f56_2 (R := R)) (f87_2 (R := R)) (f99_2 (R := R)) (f100 (R := R)) (f68 (R := R)) (f101_3 (R := R)) (f88_j12_c (R := R)) (f88_j17_c (R := R)) (f88_j18_c (R := R))
noncomputable def f88_j13_c {R : Type} : Nat → f88_j13_T R := f88_j13 (f25 (R := R)) (f56_2 (R := R)) (f87_2 (R := R)) (f99_2 (R := R)) (f100 (R := R)) (f68 (R := R)) (f101_3 (R := R)) (f88_j12_c (R := R)) (f88_j17_c (R := R)) (f88_j18_c (R := R)) (f88_j15_c (R := R))
noncomputable def f88_j23_c {R : Type} : Nat → f88_j23_T R := f88_j23 (f25 (R := R)) (f56_2 (R := R)) (f87_2 (R := R)) (f99_2 (R := R)) (f100 (R := R)) (f68 (R := R)) (f101_3 (R := R)) (f88_j12_c (R := R)) (f88_j17_c (R := R)) (f88_j18_c (R := R)) (f88_j15_c (R := R)) (f88_j13_c (R := R))
noncomputable def f88_j10_c {R : Type} : Nat → f88_j10_T R := f88_j10 (f25 (R := R)) (f56_2 (R := R)) (f87_2 (R := R)) (f99_2 (R := R)) (f100 (R := R)) (f68 (R := R)) (f101_3 (R := R)) (f88_j12_c (R := R)) (f88_j17_c (R := R)) (f88_j18_c (R := R)) (f88_j15_c (R := R)) (f88_j13_c (R := R)) (f88_j23_c (R := R))
noncomputable def f88_j9_c {R : Type} : Nat → f88_j9_T R := f88_j9 (f25 (R := R)) (f56_2 (R := R)) (f87_2 (R := R)) (f99_2 (R := R)) (f100 (R := R)) (f68 (R := R)) (f101_3 (R := R)) (f88_j12_c (R := R)) (f88_j17_c (R := R)) (f88_j18_c (R := R)) (f88_j15_c (R := R)) (f88_j13_c (R := R)) (f88_j23_c (R := R)) (f88_j10_c (R := R))
noncomputable def f88_j5_c {R : Type} : Nat → f88_j5_T R := f88_j5 (f25 (R := R)) (f56_2 (R := R)) (f87_2 (R := R)) (f99_2 (R := R)) (f100 (R := R)) (f68 (R := R)) (f101_3 (R := R)) (f88_j12_c (R := R)) (f88_j17_c (R := R)) (f88_j18_c (R := R)) (f88_j15_c (R := R)) (f88_j13_c (R := R)) (f88_j23_c (R := R)) (f88_j10_c (R := R)) (f88_j9_c (R := R))
noncomputable def f88_d {R : Type} (g : f88_T R) (e : Dr D R) : Dr D R := door [.ptr 0 0, .agg [.int .i64, .int .i64, .bool, .bool, .int .i64]] [.box [.list (.int .u8), .int .i64, .int .i64, .nil, .int .i64, .int .i64]] (fun (x : f88_X) (y : f88_Y) K => g x.2.1.1 x.2.1.2.1 x.2.1.2.2.1 x.2.1.2.2.2.1 x.2.1.2.2.2.2.1 y.1.1 y.1.2.1 y.1.2.2.1 y.1.2.2.2.2.1 y.1.2.2.2.2.2.1 (fun z0 z1 z2 z3 z4 z5 z6 => K ⟨.own 1, [some (.box [.list (.int .u8) z0, .int .i64 z1, .int .i64 z2, .own 2, .int .i64 z3, .int .i64 z4]), some (.row (.named 2) z5 true), some (.row (.named 1) z6 true)]⟩)) e
noncomputable def f88_o {R : Type} (g_f25 : Nat → f25_T R) (g_f56_2 : Nat → f56_2_T R) (g_f87_2 : Nat → f87_2_T R) (g_f99_2 : Nat → f99_2_T R) (g_f100 : Nat → f100_T R) (g_f68 : Nat → f68_T R) (g_f101_3 : Nat → f101_3_T R) (k : Nat) : Orc D R := (orcAdd 101 (f101_3_d (g_f101_3 k) noDr) (orcAdd 68 (f68_d (g_f68 k) noDr) (orcAdd 100 (f100_d (g_f100 k) noDr) (orcAdd 99 (f99_2_d (g_f99_2 k) noDr) (orcAdd 87 (f87_2_d (g_f87_2 k) noDr) (orcAdd 56 (f56_2_d (g_f56_2 k) noDr) (orcAdd 25 (f25_d (g_f25 k) noDr) noOrc)))))))
theorem f88_o_ok {R : Type} (k : Nat) : OrcOk Try.prog cx (f88_o (R := R) (f25 (R := R)) (f56_2 (R := R)) (f87_2 (R := R)) (f99_2 (R := R)) (f100 (R := R)) (f68 (R := R)) (f101_3 (R := R)) k) := (OrcOk.add (f101_3_ok k FnOk.no) (OrcOk.add (f68_ok k FnOk.no) (OrcOk.add (f100_ok k FnOk.no) (OrcOk.add (f99_2_ok k FnOk.no) (OrcOk.add (f87_2_ok k FnOk.no) (OrcOk.add (f56_2_ok k FnOk.no) (OrcOk.add (f25_ok k FnOk.no) OrcOk.no)))))))
noncomputable def f88_b : Code := bodyOf Try.f88
noncomputable def f88_j12_a : LAnn := ⟨⟨[(.tmp 5, .own 137439002624 (.named 2)), (.cell 0 3, .own 137439002625 (.named 1))], [0, 3, 5, 6, 7, 8, 10, 11, 66], [0, 137439002625, 65600, 137439002624, 393344, 524432]⟩, exOfJ (some ⟨[(.tmp 5, .own 137439003648 (.named 2)), (.cell 0 3, .own 137439003649 (.named 1))], [0, 3, 5, 6, 7, 8, 10, 11, 66], [0, 137439003649, 65600, 137439003648, 393344, 524432]⟩) (none) []⟩
noncomputable def f88_j17_a : LAnn := ⟨⟨[(.tmp 5, .own 137439023104 (.named 2)), (.cell 0 3, .own 137439023105 (.named 1))], [0, 3, 5, 6, 7, 8, 10, 111], [0, 137439023105, 65600, 137439023104, 393344, 524432]⟩, exOfJ (some ⟨[(.tmp 5, .own 137439024128 (.named 2)), (.cell 0 3, .own 137439024129 (.named 1))], [0, 3, 5, 7, 8, 10, 111], [0, 137439024129, 65600, 137439024128, 393344, 524432]⟩) (none) []⟩
noncomputable def f88_j18_a : LAnn := ⟨⟨[(.tmp 5, .own 137439027200 (.named 2)), (.cell 0 3, .own 137439027201 (.named 1))], [0, 3, 5, 7, 8, 10, 111], [0, 137439027201, 65600, 137439027200, 393344, 524432]⟩, exOfJ (some ⟨[(.tmp 5, .own 137439028224 (.named 2)), (.cell 0 3, .own 137439028225 (.named 1))], [0, 3, 5, 7, 8, 10], [0, 137439028225, 65600, 137439028224, 393344, 524432]⟩) (none) []⟩
noncomputable def f88_j15_a : LAnn := ⟨⟨[(.tmp 5, .own 137439014912 (.named 2)), (.cell 0 3, .own 137439014913 (.named 1))], [0, 3, 5, 6, 7, 8, 10, 91], [0, 137439014913, 65600, 137439014912, 393344, 524432]⟩, exOfJ (some ⟨[(.tmp 5, .own 137439015936 (.named 2)), (.cell 0 3, .own 137439015937 (.named 1))], [0, 3, 5, 7, 8, 10], [0, 137439015937, 65600, 137439015936, 393344, 524432]⟩) (none) []⟩
noncomputable def f88_j13_a : LAnn := ⟨⟨[(.tmp 5, .own 137439006720 (.named 2)), (.cell 0 3, .own 137439006721 (.named 1))], [0, 3, 5, 6, 7, 8, 10, 11, 66], [0, 137439006721, 65600, 137439006720, 393344, 524432]⟩, exOfJ (some ⟨[(.tmp 5, .own 137439007744 (.named 2)), (.cell 0 3, .own 137439007745 (.named 1))], [0, 3, 5, 7, 8, 10], [0, 137439007745, 65600, 137439007744, 393344, 524432]⟩) (none) []⟩
noncomputable def f88_j23_a : LAnn := ⟨⟨[(.tmp 5, .own 137439047680 (.named 2)), (.cell 0 3, .own 137439047681 (.named 1))], [0, 3, 5, 7, 8, 10], [0, 137439047681, 65600, 137439047680, 393344, 524432]⟩, exOfJ (some ⟨[(.tmp 5, .own 137439049728 (.named 2))], [0, 3, 5], [0, 1640946, 65600, 137439049728]⟩) (none) [(0, ⟨[(.tmp 5, .own 137439048704 (.named 2)), (.cell 0 3, .own 137439048705 (.named 1))], [5], [137439048704, 0, 137439048705]⟩)]⟩
noncomputable def f88_j10_a : LAnn := ⟨⟨[(.tmp 5, .own 137438994432 (.named 2)), (.cell 0 3, .own 137438994433 (.named 1))], [0, 3, 5, 6, 7, 8, 10], [0, 137438994433, 65600, 137438994432, 393344, 524432]⟩, exOfJ (some ⟨[], [0, 3, 5], [0, 1640946, 65600, 137439049728]⟩) (none) [(0, ⟨[(.tmp 5, .own 137438995456 (.named 2)), (.cell 0 3, .own 137438995457 (.named 1))], [5], [137438995456, 0, 137438995457]⟩)]⟩
noncomputable def f88_j9_a : LAnn := ⟨⟨[(.tmp 5, .own 137438990336 (.named 2)), (.cell 0 3, .own 137438990337 (.named 1))], [0, 3, 5, 6, 7, 8, 10], [0, 137438990337, 65600, 137438990336, 393344, 524432]⟩, exOfJ (some ⟨[], [0, 3, 5], [0, 1640946, 65600, 137439049728]⟩) (none) [(0, ⟨[(.tmp 5, .own 137438991360 (.named 2)), (.cell 0 3, .own 137438991361 (.named 1))], [5], [137438991360, 0, 137438991361]⟩)]⟩
noncomputable def f88_j5_a : LAnn := ⟨⟨[(.tmp 5, .own 137438973952 (.named 2)), (.cell 0 3, .own 137438973953 (.named 1))], [0, 3, 5, 6], [0, 137438973953, 65600, 137438973952]⟩, exOfJ (some ⟨[], [0, 3, 5, 6], [0, 1640946, 65600, 137439049728]⟩) (none) [(0, ⟨[(.tmp 5, .own 137438974976 (.named 2)), (.cell 0 3, .own 137438974977 (.named 1))], [5], [137438974976, 0, 137438974977]⟩)]⟩
noncomputable def f88_l3_a : LAnn := ⟨⟨[(.tmp 5, .own 68719489024 (.named 2)), (.cell 0 3, .own 68719489025 (.named 1))], [0, 3, 5, 6], [0, 68719489025, 65600, 68719489024]⟩, exOf (none) [(0, ⟨[(.tmp 5, .own 68719490048 (.named 2)), (.cell 0 3, .own 68719490049 (.named 1))], [5], [68719490048, 0, 68719490049]⟩)]⟩
noncomputable def f88_ann : Nat → Option LAnn := fun key => bif Nat.beq key 3 then some f88_l3_a else bif Nat.beq key 1000005 then some f88_j5_a else bif Nat.beq key 1000009 then some f88_j9_a else bif Nat.beq key 1000010 then some f88_j10_a else bif Nat.beq key 1000023 then some f88_j23_a else bif Nat.beq key 1000013 then some f88_j13_a else bif Nat.beq key 1000015 then some f88_j15_a else bif Nat.beq key 1000018 then some f88_j18_a else bif Nat.beq key 1000017 then some f88_j17_a else bif Nat.beq key 1000012 then some f88_j12_a else none
noncomputable def f88_j12_b : Code := joinAt f88_ann f88_b 3
noncomputable def f88_j12_g {R : Type} (g : Nat → f88_j12_T R) (k : Nat) (x : f88_j12_X) (y : f88_j12_Y) (K : KX R) : Option R := g k x.2.2.2.1 x.2.2.2.2.2.2.1 x.2.2.2.2.2.2.2.1 x.2.2.2.2.2.2.2.2.1 y.1.1 y.1.2.1 y.1.2.2.1 y.1.2.2.2.2.1 y.1.2.2.2.2.2.1 y.2.1 y.2.2.1.1 y.2.2.1.2.1 y.2.2.1.2.2.1 y.2.2.1.2.2.2.1 y.2.2.1.2.2.2.2.1 y.2.2.2.1 y.2.2.2.2.1.1 y.2.2.2.2.1.2.1 y.2.2.2.2.1.2.2.1 y.2.2.2.2.1.2.2.2.1 y.2.2.2.2.2.1.1 y.2.2.2.2.2.1.2.1 y.2.2.2.2.2.1.2.2.1 y.2.2.2.2.2.1.2.2.2.1 y.2.2.2.2.2.1.2.2.2.2.1 (fun z0 z1 z2 z3 z4 z5 z6 z7 z8 z9 z10 z11 z12 z13 z14 z15 z16 z17 z18 z19 z20 z21 z22 z23 z24 => K (.normal) [.ptr 0 0, .ptr 65600 0, .own 137439003648, .bool z0, .ptr 393344 0, .ptr 524432 0, .bool z1, .int .i64 z2, .bool z3] [some (.box [.list (.int .u8) z4, .int .i64 z5, .int .i64 z6, .own 137439003649, .int .i64 z7, .int .i64 z8]), some (.row (.named 1) z9 true), some (.box [.int .i64 z10, .int .i64 z11, .bool z12, .bool z13, .int .i64 z14]), some (.row (.named 2) z15 true), some (.box [.int .i64 z16, .int .i64 z17, .int .i64 z18, .bool z19]), some (.box [.int .i64 z20, .str z21, .int .i64 z22, .bool z23, .bool z24])])
noncomputable def f88_j12_d {R : Type} (g : Nat → f88_j12_T R) (k : Nat) : Lr D R := ldoor [.ptr 0 0, .ptr 65600 0, .own 137439002624, .bool, .ptr 393344 0, .ptr 524432 0, .bool, .int .i64, .bool] [some (.box [.list (.int .u8), .int .i64, .int .i64, .own 137439002625, .int .i64, .int .i64]), some (.row (.named 1) true), some (.box [.int .i64, .int .i64, .bool, .bool, .int .i64]), some (.row (.named 2) true), some (.box [.int .i64, .int .i64, .int .i64, .bool]), some (.box [.int .i64, .str, .int .i64, .bool, .bool])] (f88_j12_g g k)
noncomputable def f88_j12_lrc {R : Type} (_g_f25 : Nat → f25_T R) (_g_f56_2 : Nat → f56_2_T R) (_g_f87_2 : Nat → f87_2_T R) (_g_f99_2 : Nat → f99_2_T R) (_g_f100 : Nat → f100_T R) (_g_f68 : Nat → f68_T R) (_g_f101_3 : Nat → f101_3_T R) (_k : Nat) : Lrc D R := noLrc
theorem f88_j12_e {R : Type} (g_f25 : Nat → f25_T R) (g_f56_2 : Nat → f56_2_T R) (g_f87_2 : Nat → f87_2_T R) (g_f99_2 : Nat → f99_2_T R) (g_f100 : Nat → f100_T R) (g_f68 : Nat → f68_T R) (g_f101_3 : Nat → f101_3_T R) (k : Nat) (x : f88_j12_X) (y : f88_j12_Y) (K : KX R) : f88_j12_g (f88_j12 g_f25 g_f56_2 g_f87_2 g_f99_2 g_f100 g_f68 g_f101_3) k x y K = tailR cx (f88_o g_f25 g_f56_2 g_f87_2 g_f99_2 g_f100 g_f68 g_f101_3 k) (f88_j12_lrc g_f25 g_f56_2 g_f87_2 g_f99_2 g_f100 g_f68 g_f101_3 k) f88_ann kp 167 1 f88_j12_a f88_j12_b (gives (D := D) [.ptr 0 0, .ptr 65600 0, .own 137439002624, .bool, .ptr 393344 0, .ptr 524432 0, .bool, .int .i64, .bool] x) (giveGs (D := D) [some (.box [.list (.int .u8), .int .i64, .int .i64, .own 137439002625, .int .i64, .int .i64]), some (.row (.named 1) true), some (.box [.int .i64, .int .i64, .bool, .bool, .int .i64]), some (.row (.named 2) true), some (.box [.int .i64, .int .i64, .int .i64, .bool]), some (.box [.int .i64, .str, .int .i64, .bool, .bool])] y) K := by kernel_rfl
theorem f88_j12_d_ok {R : Type} (k : Nat) : JoinOk Try.prog cx 167 1 f88_ann (f88_j12_d (R := R) (f88_j12_c (R := R)) k) f88_j12_b :=
  join_ok (keep := kp) (lrc := f88_j12_lrc (R := R) (f25 (R := R)) (f56_2 (R := R)) (f87_2 (R := R)) (f99_2 (R := R)) (f100 (R := R)) (f68 (R := R)) (f101_3 (R := R)) k) cxOk mixed (f88_o_ok k) (show f88_ann (Am.keyOf f88_j12_b + 1000000) = some f88_j12_a by kernel_rfl) (L := []) (by kernel_rfl) trivial (J := []) (by kernel_rfl) trivial (LrcNat.no) (fun x y K => f88_j12_e (f25 (R := R)) (f56_2 (R := R)) (f87_2 (R := R)) (f99_2 (R := R)) (f100 (R := R)) (f68 (R := R)) (f101_3 (R := R)) k x y K)
noncomputable def f88_j17_b : Code := joinAt f88_ann f88_b 6
noncomputable def f88_j17_g {R : Type} (g : Nat → f88_j17_T R) (k : Nat) (x : f88_j17_X) (y : f88_j17_Y) (K : KX R) : Option R := g k x.2.2.2.1 x.2.2.2.2.2.2.1 x.2.2.2.2.2.2.2.1 y.1.1 y.1.2.1 y.1.2.2.1 y.1.2.2.2.2.1 y.1.2.2.2.2.2.1 y.2.1 y.2.2.1.1 y.2.2.1.2.1 y.2.2.1.2.2.1 y.2.2.1.2.2.2.1 y.2.2.1.2.2.2.2.1 y.2.2.2.1 y.2.2.2.2.1.1 y.2.2.2.2.1.2.1 y.2.2.2.2.1.2.2.1 y.2.2.2.2.1.2.2.2.1 y.2.2.2.2.2.1.1 y.2.2.2.2.2.1.2.1 y.2.2.2.2.2.1.2.2.1 y.2.2.2.2.2.1.2.2.2.1 y.2.2.2.2.2.1.2.2.2.2.1 (fun z0 z1 z2 z3 z4 z5 z6 z7 z8 z9 z10 z11 z12 z13 z14 z15 z16 z17 z18 z19 z20 z21 z22 => K (.normal) [.ptr 0 0, .ptr 65600 0, .own 137439024128, .ptr 393344 0, .ptr 524432 0, .bool z0, .bool z1] [some (.box [.list (.int .u8) z2, .int .i64 z3, .int .i64 z4, .own 137439024129, .int .i64 z5, .int .i64 z6]), some (.row (.named 1) z7 true), some (.box [.int .i64 z8, .int .i64 z9, .bool z10, .bool z11, .int .i64 z12]), some (.row (.named 2) z13 true), some (.box [.int .i64 z14, .int .i64 z15, .int .i64 z16, .bool z17]), some (.box [.int .i64 z18, .str z19, .int .i64 z20, .bool z21, .bool z22])])
noncomputable def f88_j17_d {R : Type} (g : Nat → f88_j17_T R) (k : Nat) : Lr D R := ldoor [.ptr 0 0, .ptr 65600 0, .own 137439023104, .bool, .ptr 393344 0, .ptr 524432 0, .bool, .bool] [some (.box [.list (.int .u8), .int .i64, .int .i64, .own 137439023105, .int .i64, .int .i64]), some (.row (.named 1) true), some (.box [.int .i64, .int .i64, .bool, .bool, .int .i64]), some (.row (.named 2) true), some (.box [.int .i64, .int .i64, .int .i64, .bool]), some (.box [.int .i64, .str, .int .i64, .bool, .bool])] (f88_j17_g g k)
noncomputable def f88_j17_lrc {R : Type} (_g_f25 : Nat → f25_T R) (_g_f56_2 : Nat → f56_2_T R) (_g_f87_2 : Nat → f87_2_T R) (_g_f99_2 : Nat → f99_2_T R) (_g_f100 : Nat → f100_T R) (_g_f68 : Nat → f68_T R) (_g_f101_3 : Nat → f101_3_T R) (_g_f88_j12 : Nat → f88_j12_T R) (_k : Nat) : Lrc D R := noLrc
theorem f88_j17_e {R : Type} (g_f25 : Nat → f25_T R) (g_f56_2 : Nat → f56_2_T R) (g_f87_2 : Nat → f87_2_T R) (g_f99_2 : Nat → f99_2_T R) (g_f100 : Nat → f100_T R) (g_f68 : Nat → f68_T R) (g_f101_3 : Nat → f101_3_T R) (g_f88_j12 : Nat → f88_j12_T R) (k : Nat) (x : f88_j17_X) (y : f88_j17_Y) (K : KX R) : f88_j17_g (f88_j17 g_f25 g_f56_2 g_f87_2 g_f99_2 g_f100 g_f68 g_f101_3 g_f88_j12) k x y K = tailR cx (f88_o g_f25 g_f56_2 g_f87_2 g_f99_2 g_f100 g_f68 g_f101_3 k) (f88_j17_lrc g_f25 g_f56_2 g_f87_2 g_f99_2 g_f100 g_f68 g_f101_3 g_f88_j12 k) f88_ann kp 167 1 f88_j17_a f88_j17_b (gives (D := D) [.ptr 0 0, .ptr 65600 0, .own 137439023104, .bool, .ptr 393344 0, .ptr 524432 0, .bool, .bool] x) (giveGs (D := D) [some (.box [.list (.int .u8), .int .i64, .int .i64, .own 137439023105, .int .i64, .int .i64]), some (.row (.named 1) true), some (.box [.int .i64, .int .i64, .bool, .bool, .int .i64]), some (.row (.named 2) true), some (.box [.int .i64, .int .i64, .int .i64, .bool]), some (.box [.int .i64, .str, .int .i64, .bool, .bool])] y) K := by kernel_rfl
theorem f88_j17_d_ok {R : Type} (k : Nat) : JoinOk Try.prog cx 167 1 f88_ann (f88_j17_d (R := R) (f88_j17_c (R := R)) k) f88_j17_b :=
  join_ok (keep := kp) (lrc := f88_j17_lrc (R := R) (f25 (R := R)) (f56_2 (R := R)) (f87_2 (R := R)) (f99_2 (R := R)) (f100 (R := R)) (f68 (R := R)) (f101_3 (R := R)) (f88_j12_c (R := R)) k) cxOk mixed (f88_o_ok k) (show f88_ann (Am.keyOf f88_j17_b + 1000000) = some f88_j17_a by kernel_rfl) (L := []) (by kernel_rfl) trivial (J := []) (by kernel_rfl) trivial (LrcNat.no) (fun x y K => f88_j17_e (f25 (R := R)) (f56_2 (R := R)) (f87_2 (R := R)) (f99_2 (R := R)) (f100 (R := R)) (f68 (R := R)) (f101_3 (R := R)) (f88_j12_c (R := R)) k x y K)
noncomputable def f88_j18_b : Code := joinAt f88_ann f88_b 7
noncomputable def f88_j18_g {R : Type} (g : Nat → f88_j18_T R) (k : Nat) (x : f88_j18_X) (y : f88_j18_Y) (K : KX R) : Option R := g k x.2.2.2.2.2.1 x.2.2.2.2.2.2.1 y.1.1 y.1.2.1 y.1.2.2.1 y.1.2.2.2.2.1 y.1.2.2.2.2.2.1 y.2.1 y.2.2.1.1 y.2.2.1.2.1 y.2.2.1.2.2.1 y.2.2.1.2.2.2.1 y.2.2.1.2.2.2.2.1 y.2.2.2.1 y.2.2.2.2.1.1 y.2.2.2.2.1.2.1 y.2.2.2.2.1.2.2.1 y.2.2.2.2.1.2.2.2.1 y.2.2.2.2.2.1.1 y.2.2.2.2.2.1.2.1 y.2.2.2.2.2.1.2.2.1 y.2.2.2.2.2.1.2.2.2.1 y.2.2.2.2.2.1.2.2.2.2.1 (fun z0 z1 z2 z3 z4 z5 z6 z7 z8 z9 z10 z11 z12 z13 z14 z15 z16 z17 z18 z19 z20 z21 => K (.normal) [.ptr 0 0, .ptr 65600 0, .own 137439028224, .ptr 393344 0, .ptr 524432 0, .bool z0] [some (.box [.list (.int .u8) z1, .int .i64 z2, .int .i64 z3, .own 137439028225, .int .i64 z4, .int .i64 z5]), some (.row (.named 1) z6 true), some (.box [.int .i64 z7, .int .i64 z8, .bool z9, .bool z10, .int .i64 z11]), some (.row (.named 2) z12 true), some (.box [.int .i64 z13, .int .i64 z14, .int .i64 z15, .bool z16]), some (.box [.int .i64 z17, .str z18, .int .i64 z19, .bool z20, .bool z21])])
noncomputable def f88_j18_d {R : Type} (g : Nat → f88_j18_T R) (k : Nat) : Lr D R := ldoor [.ptr 0 0, .ptr 65600 0, .own 137439027200, .ptr 393344 0, .ptr 524432 0, .bool, .bool] [some (.box [.list (.int .u8), .int .i64, .int .i64, .own 137439027201, .int .i64, .int .i64]), some (.row (.named 1) true), some (.box [.int .i64, .int .i64, .bool, .bool, .int .i64]), some (.row (.named 2) true), some (.box [.int .i64, .int .i64, .int .i64, .bool]), some (.box [.int .i64, .str, .int .i64, .bool, .bool])] (f88_j18_g g k)
noncomputable def f88_j18_lrc {R : Type} (_g_f25 : Nat → f25_T R) (_g_f56_2 : Nat → f56_2_T R) (_g_f87_2 : Nat → f87_2_T R) (_g_f99_2 : Nat → f99_2_T R) (_g_f100 : Nat → f100_T R) (_g_f68 : Nat → f68_T R) (_g_f101_3 : Nat → f101_3_T R) (_g_f88_j12 : Nat → f88_j12_T R) (_g_f88_j17 : Nat → f88_j17_T R) (_k : Nat) : Lrc D R := noLrc
theorem f88_j18_e {R : Type} (g_f25 : Nat → f25_T R) (g_f56_2 : Nat → f56_2_T R) (g_f87_2 : Nat → f87_2_T R) (g_f99_2 : Nat → f99_2_T R) (g_f100 : Nat → f100_T R) (g_f68 : Nat → f68_T R) (g_f101_3 : Nat → f101_3_T R) (g_f88_j12 : Nat → f88_j12_T R) (g_f88_j17 : Nat → f88_j17_T R) (k : Nat) (x : f88_j18_X) (y : f88_j18_Y) (K : KX R) : f88_j18_g (f88_j18 g_f25 g_f56_2 g_f87_2 g_f99_2 g_f100 g_f68 g_f101_3 g_f88_j12 g_f88_j17) k x y K = tailR cx (f88_o g_f25 g_f56_2 g_f87_2 g_f99_2 g_f100 g_f68 g_f101_3 k) (f88_j18_lrc g_f25 g_f56_2 g_f87_2 g_f99_2 g_f100 g_f68 g_f101_3 g_f88_j12 g_f88_j17 k) f88_ann kp 167 1 f88_j18_a f88_j18_b (gives (D := D) [.ptr 0 0, .ptr 65600 0, .own 137439027200, .ptr 393344 0, .ptr 524432 0, .bool, .bool] x) (giveGs (D := D) [some (.box [.list (.int .u8), .int .i64, .int .i64, .own 137439027201, .int .i64, .int .i64]), some (.row (.named 1) true), some (.box [.int .i64, .int .i64, .bool, .bool, .int .i64]), some (.row (.named 2) true), some (.box [.int .i64, .int .i64, .int .i64, .bool]), some (.box [.int .i64, .str, .int .i64, .bool, .bool])] y) K := by kernel_rfl
theorem f88_j18_d_ok {R : Type} (k : Nat) : JoinOk Try.prog cx 167 1 f88_ann (f88_j18_d (R := R) (f88_j18_c (R := R)) k) f88_j18_b :=
  join_ok (keep := kp) (lrc := f88_j18_lrc (R := R) (f25 (R := R)) (f56_2 (R := R)) (f87_2 (R := R)) (f99_2 (R := R)) (f100 (R := R)) (f68 (R := R)) (f101_3 (R := R)) (f88_j12_c (R := R)) (f88_j17_c (R := R)) k) cxOk mixed (f88_o_ok k) (show f88_ann (Am.keyOf f88_j18_b + 1000000) = some f88_j18_a by kernel_rfl) (L := []) (by kernel_rfl) trivial (J := []) (by kernel_rfl) trivial (LrcNat.no) (fun x y K => f88_j18_e (f25 (R := R)) (f56_2 (R := R)) (f87_2 (R := R)) (f99_2 (R := R)) (f100 (R := R)) (f68 (R := R)) (f101_3 (R := R)) (f88_j12_c (R := R)) (f88_j17_c (R := R)) k x y K)
noncomputable def f88_j15_b : Code := joinAt f88_ann f88_b 5
noncomputable def f88_j15_g {R : Type} (g : Nat → f88_j15_T R) (k : Nat) (x : f88_j15_X) (y : f88_j15_Y) (K : KX R) : Option R := g k x.2.2.2.1 x.2.2.2.2.2.2.1 x.2.2.2.2.2.2.2.1 y.1.1 y.1.2.1 y.1.2.2.1 y.1.2.2.2.2.1 y.1.2.2.2.2.2.1 y.2.1 y.2.2.1.1 y.2.2.1.2.1 y.2.2.1.2.2.1 y.2.2.1.2.2.2.1 y.2.2.1.2.2.2.2.1 y.2.2.2.1 y.2.2.2.2.1.1 y.2.2.2.2.1.2.1 y.2.2.2.2.1.2.2.1 y.2.2.2.2.1.2.2.2.1 y.2.2.2.2.2.1.1 y.2.2.2.2.2.1.2.1 y.2.2.2.2.2.1.2.2.1 y.2.2.2.2.2.1.2.2.2.1 y.2.2.2.2.2.1.2.2.2.2.1 (fun z0 z1 z2 z3 z4 z5 z6 z7 z8 z9 z10 z11 z12 z13 z14 z15 z16 z17 z18 z19 z20 z21 => K (.normal) [.ptr 0 0, .ptr 65600 0, .own 137439015936, .ptr 393344 0, .ptr 524432 0, .bool z0] [some (.box [.list (.int .u8) z1, .int .i64 z2, .int .i64 z3, .own 137439015937, .int .i64 z4, .int .i64 z5]), some (.row (.named 1) z6 true), some (.box [.int .i64 z7, .int .i64 z8, .bool z9, .bool z10, .int .i64 z11]), some (.row (.named 2) z12 true), some (.box [.int .i64 z13, .int .i64 z14, .int .i64 z15, .bool z16]), some (.box [.int .i64 z17, .str z18, .int .i64 z19, .bool z20, .bool z21])])
noncomputable def f88_j15_d {R : Type} (g : Nat → f88_j15_T R) (k : Nat) : Lr D R := ldoor [.ptr 0 0, .ptr 65600 0, .own 137439014912, .bool, .ptr 393344 0, .ptr 524432 0, .bool, .bool] [some (.box [.list (.int .u8), .int .i64, .int .i64, .own 137439014913, .int .i64, .int .i64]), some (.row (.named 1) true), some (.box [.int .i64, .int .i64, .bool, .bool, .int .i64]), some (.row (.named 2) true), some (.box [.int .i64, .int .i64, .int .i64, .bool]), some (.box [.int .i64, .str, .int .i64, .bool, .bool])] (f88_j15_g g k)
noncomputable def f88_j15_lrc {R : Type} (_g_f25 : Nat → f25_T R) (_g_f56_2 : Nat → f56_2_T R) (_g_f87_2 : Nat → f87_2_T R) (_g_f99_2 : Nat → f99_2_T R) (_g_f100 : Nat → f100_T R) (_g_f68 : Nat → f68_T R) (_g_f101_3 : Nat → f101_3_T R) (_g_f88_j12 : Nat → f88_j12_T R) (g_f88_j17 : Nat → f88_j17_T R) (g_f88_j18 : Nat → f88_j18_T R) (k : Nat) : Lrc D R := (lrcAdd 1000018 (f88_j18_d g_f88_j18 k) (lrcAdd 1000017 (f88_j17_d g_f88_j17 k) noLrc))
theorem f88_j15_e {R : Type} (g_f25 : Nat → f25_T R) (g_f56_2 : Nat → f56_2_T R) (g_f87_2 : Nat → f87_2_T R) (g_f99_2 : Nat → f99_2_T R) (g_f100 : Nat → f100_T R) (g_f68 : Nat → f68_T R) (g_f101_3 : Nat → f101_3_T R) (g_f88_j12 : Nat → f88_j12_T R) (g_f88_j17 : Nat → f88_j17_T R) (g_f88_j18 : Nat → f88_j18_T R) (k : Nat) (x : f88_j15_X) (y : f88_j15_Y) (K : KX R) : f88_j15_g (f88_j15 g_f25 g_f56_2 g_f87_2 g_f99_2 g_f100 g_f68 g_f101_3 g_f88_j12 g_f88_j17 g_f88_j18) k x y K = tailR cx (f88_o g_f25 g_f56_2 g_f87_2 g_f99_2 g_f100 g_f68 g_f101_3 k) (f88_j15_lrc g_f25 g_f56_2 g_f87_2 g_f99_2 g_f100 g_f68 g_f101_3 g_f88_j12 g_f88_j17 g_f88_j18 k) f88_ann kp 167 1 f88_j15_a f88_j15_b (gives (D := D) [.ptr 0 0, .ptr 65600 0, .own 137439014912, .bool, .ptr 393344 0, .ptr 524432 0, .bool, .bool] x) (giveGs (D := D) [some (.box [.list (.int .u8), .int .i64, .int .i64, .own 137439014913, .int .i64, .int .i64]), some (.row (.named 1) true), some (.box [.int .i64, .int .i64, .bool, .bool, .int .i64]), some (.row (.named 2) true), some (.box [.int .i64, .int .i64, .int .i64, .bool]), some (.box [.int .i64, .str, .int .i64, .bool, .bool])] y) K := by kernel_rfl
theorem f88_j15_d_ok {R : Type} (k : Nat) : JoinOk Try.prog cx 167 1 f88_ann (f88_j15_d (R := R) (f88_j15_c (R := R)) k) f88_j15_b :=
  join_ok (keep := kp) (lrc := f88_j15_lrc (R := R) (f25 (R := R)) (f56_2 (R := R)) (f87_2 (R := R)) (f99_2 (R := R)) (f100 (R := R)) (f68 (R := R)) (f101_3 (R := R)) (f88_j12_c (R := R)) (f88_j17_c (R := R)) (f88_j18_c (R := R)) k) cxOk mixed (f88_o_ok k) (show f88_ann (Am.keyOf f88_j15_b + 1000000) = some f88_j15_a by kernel_rfl) (L := []) (by kernel_rfl) trivial (J := [f88_j17_b, f88_j18_b]) (by kernel_rfl) (⟨(f88_j17_d_ok k).use (by kernel_rfl), (f88_j18_d_ok k).use (by kernel_rfl), trivial⟩) ((LrcNat.add (f88_j18_d_ok k).2 (LrcNat.add (f88_j17_d_ok k).2 LrcNat.no))) (fun x y K => f88_j15_e (f25 (R := R)) (f56_2 (R := R)) (f87_2 (R := R)) (f99_2 (R := R)) (f100 (R := R)) (f68 (R := R)) (f101_3 (R := R)) (f88_j12_c (R := R)) (f88_j17_c (R := R)) (f88_j18_c (R := R)) k x y K)
noncomputable def f88_j13_b : Code := joinAt f88_ann f88_b 4
noncomputable def f88_j13_g {R : Type} (g : Nat → f88_j13_T R) (k : Nat) (x : f88_j13_X) (y : f88_j13_Y) (K : KX R) : Option R := g k x.2.2.2.1 x.2.2.2.2.2.2.1 x.2.2.2.2.2.2.2.1 x.2.2.2.2.2.2.2.2.1 y.1.1 y.1.2.1 y.1.2.2.1 y.1.2.2.2.2.1 y.1.2.2.2.2.2.1 y.2.1 y.2.2.1.1 y.2.2.1.2.1 y.2.2.1.2.2.1 y.2.2.1.2.2.2.1 y.2.2.1.2.2.2.2.1 y.2.2.2.1 y.2.2.2.2.1.1 y.2.2.2.2.1.2.1 y.2.2.2.2.1.2.2.1 y.2.2.2.2.1.2.2.2.1 y.2.2.2.2.2.1.1 y.2.2.2.2.2.1.2.1 y.2.2.2.2.2.1.2.2.1 y.2.2.2.2.2.1.2.2.2.1 y.2.2.2.2.2.1.2.2.2.2.1 (fun z0 z1 z2 z3 z4 z5 z6 z7 z8 z9 z10 z11 z12 z13 z14 z15 z16 z17 z18 z19 z20 z21 => K (.normal) [.ptr 0 0, .ptr 65600 0, .own 137439007744, .ptr 393344 0, .ptr 524432 0, .bool z0] [some (.box [.list (.int .u8) z1, .int .i64 z2, .int .i64 z3, .own 137439007745, .int .i64 z4, .int .i64 z5]), some (.row (.named 1) z6 true), some (.box [.int .i64 z7, .int .i64 z8, .bool z9, .bool z10, .int .i64 z11]), some (.row (.named 2) z12 true), some (.box [.int .i64 z13, .int .i64 z14, .int .i64 z15, .bool z16]), some (.box [.int .i64 z17, .str z18, .int .i64 z19, .bool z20, .bool z21])])
noncomputable def f88_j13_d {R : Type} (g : Nat → f88_j13_T R) (k : Nat) : Lr D R := ldoor [.ptr 0 0, .ptr 65600 0, .own 137439006720, .bool, .ptr 393344 0, .ptr 524432 0, .bool, .int .i64, .bool] [some (.box [.list (.int .u8), .int .i64, .int .i64, .own 137439006721, .int .i64, .int .i64]), some (.row (.named 1) true), some (.box [.int .i64, .int .i64, .bool, .bool, .int .i64]), some (.row (.named 2) true), some (.box [.int .i64, .int .i64, .int .i64, .bool]), some (.box [.int .i64, .str, .int .i64, .bool, .bool])] (f88_j13_g g k)
noncomputable def f88_j13_lrc {R : Type} (_g_f25 : Nat → f25_T R) (_g_f56_2 : Nat → f56_2_T R) (_g_f87_2 : Nat → f87_2_T R) (_g_f99_2 : Nat → f99_2_T R) (_g_f100 : Nat → f100_T R) (_g_f68 : Nat → f68_T R) (_g_f101_3 : Nat → f101_3_T R) (_g_f88_j12 : Nat → f88_j12_T R) (g_f88_j17 : Nat → f88_j17_T R) (g_f88_j18 : Nat → f88_j18_T R) (g_f88_j15 : Nat → f88_j15_T R) (k : Nat) : Lrc D R := (lrcAdd 1000018 (f88_j18_d g_f88_j18 k) (lrcAdd 1000017 (f88_j17_d g_f88_j17 k) (lrcAdd 1000015 (f88_j15_d g_f88_j15 k) noLrc)))
theorem f88_j13_e {R : Type} (g_f25 : Nat → f25_T R) (g_f56_2 : Nat → f56_2_T R) (g_f87_2 : Nat → f87_2_T R) (g_f99_2 : Nat → f99_2_T R) (g_f100 : Nat → f100_T R) (g_f68 : Nat → f68_T R) (g_f101_3 : Nat → f101_3_T R) (g_f88_j12 : Nat → f88_j12_T R) (g_f88_j17 : Nat → f88_j17_T R) (g_f88_j18 : Nat → f88_j18_T R) (g_f88_j15 : Nat → f88_j15_T R) (k : Nat) (x : f88_j13_X) (y : f88_j13_Y) (K : KX R) : f88_j13_g (f88_j13 g_f25 g_f56_2 g_f87_2 g_f99_2 g_f100 g_f68 g_f101_3 g_f88_j12 g_f88_j17 g_f88_j18 g_f88_j15) k x y K = tailR cx (f88_o g_f25 g_f56_2 g_f87_2 g_f99_2 g_f100 g_f68 g_f101_3 k) (f88_j13_lrc g_f25 g_f56_2 g_f87_2 g_f99_2 g_f100 g_f68 g_f101_3 g_f88_j12 g_f88_j17 g_f88_j18 g_f88_j15 k) f88_ann kp 167 1 f88_j13_a f88_j13_b (gives (D := D) [.ptr 0 0, .ptr 65600 0, .own 137439006720, .bool, .ptr 393344 0, .ptr 524432 0, .bool, .int .i64, .bool] x) (giveGs (D := D) [some (.box [.list (.int .u8), .int .i64, .int .i64, .own 137439006721, .int .i64, .int .i64]), some (.row (.named 1) true), some (.box [.int .i64, .int .i64, .bool, .bool, .int .i64]), some (.row (.named 2) true), some (.box [.int .i64, .int .i64, .int .i64, .bool]), some (.box [.int .i64, .str, .int .i64, .bool, .bool])] y) K := by kernel_rfl
theorem f88_j13_d_ok {R : Type} (k : Nat) : JoinOk Try.prog cx 167 1 f88_ann (f88_j13_d (R := R) (f88_j13_c (R := R)) k) f88_j13_b :=
  join_ok (keep := kp) (lrc := f88_j13_lrc (R := R) (f25 (R := R)) (f56_2 (R := R)) (f87_2 (R := R)) (f99_2 (R := R)) (f100 (R := R)) (f68 (R := R)) (f101_3 (R := R)) (f88_j12_c (R := R)) (f88_j17_c (R := R)) (f88_j18_c (R := R)) (f88_j15_c (R := R)) k) cxOk mixed (f88_o_ok k) (show f88_ann (Am.keyOf f88_j13_b + 1000000) = some f88_j13_a by kernel_rfl) (L := []) (by kernel_rfl) trivial (J := [f88_j15_b, f88_j17_b, f88_j18_b]) (by kernel_rfl) (⟨(f88_j15_d_ok k).use (by kernel_rfl), (f88_j17_d_ok k).use (by kernel_rfl), (f88_j18_d_ok k).use (by kernel_rfl), trivial⟩) ((LrcNat.add (f88_j18_d_ok k).2 (LrcNat.add (f88_j17_d_ok k).2 (LrcNat.add (f88_j15_d_ok k).2 LrcNat.no)))) (fun x y K => f88_j13_e (f25 (R := R)) (f56_2 (R := R)) (f87_2 (R := R)) (f99_2 (R := R)) (f100 (R := R)) (f68 (R := R)) (f101_3 (R := R)) (f88_j12_c (R := R)) (f88_j17_c (R := R)) (f88_j18_c (R := R)) (f88_j15_c (R := R)) k x y K)
noncomputable def f88_j23_b : Code := joinAt f88_ann f88_b 8
noncomputable def f88_j23_g {R : Type} (g : Nat → f88_j23_T R) (k : Nat) (x : f88_j23_X) (y : f88_j23_Y) (K : KX R) : Option R := g k x.2.2.2.2.2.1 y.1.1 y.1.2.1 y.1.2.2.1 y.1.2.2.2.2.1 y.1.2.2.2.2.2.1 y.2.1 y.2.2.1.1 y.2.2.1.2.1 y.2.2.1.2.2.1 y.2.2.1.2.2.2.1 y.2.2.1.2.2.2.2.1 y.2.2.2.1 y.2.2.2.2.1.1 y.2.2.2.2.1.2.1 y.2.2.2.2.1.2.2.1 y.2.2.2.2.1.2.2.2.1 y.2.2.2.2.2.1.1 y.2.2.2.2.2.1.2.1 y.2.2.2.2.2.1.2.2.1 y.2.2.2.2.2.1.2.2.2.1 y.2.2.2.2.2.1.2.2.2.2.1 (fun z0 z1 z2 z3 z4 z5 z6 => K (.exit 0) [.own 137439048704] [some (.row (.named 2) z0 true), some (.box [.list (.int .u8) z1, .int .i64 z2, .int .i64 z3, .own 137439048705, .int .i64 z4, .int .i64 z5]), some (.row (.named 1) z6 true)]) (fun z0 z1 z2 z3 z4 z5 z6 z7 z8 z9 z10 z11 => K (.normal) [.ptr 0 0, .ptr 65600 0, .own 137439049728] [some (.box [.list (.int .u8) z0, .int .i64 z1, .int .i64 z2, .own 1640946, .int .i64 z3, .int .i64 z4]), some (.row (.named 1) z5 true), some (.box [.int .i64 z6, .int .i64 z7, .bool z8, .bool z9, .int .i64 z10]), some (.row (.named 2) z11 true)])
noncomputable def f88_j23_d {R : Type} (g : Nat → f88_j23_T R) (k : Nat) : Lr D R := ldoor [.ptr 0 0, .ptr 65600 0, .own 137439047680, .ptr 393344 0, .ptr 524432 0, .bool] [some (.box [.list (.int .u8), .int .i64, .int .i64, .own 137439047681, .int .i64, .int .i64]), some (.row (.named 1) true), some (.box [.int .i64, .int .i64, .bool, .bool, .int .i64]), some (.row (.named 2) true), some (.box [.int .i64, .int .i64, .int .i64, .bool]), some (.box [.int .i64, .str, .int .i64, .bool, .bool])] (f88_j23_g g k)
noncomputable def f88_j23_lrc {R : Type} (_g_f25 : Nat → f25_T R) (_g_f56_2 : Nat → f56_2_T R) (_g_f87_2 : Nat → f87_2_T R) (_g_f99_2 : Nat → f99_2_T R) (_g_f100 : Nat → f100_T R) (_g_f68 : Nat → f68_T R) (_g_f101_3 : Nat → f101_3_T R) (_g_f88_j12 : Nat → f88_j12_T R) (_g_f88_j17 : Nat → f88_j17_T R) (_g_f88_j18 : Nat → f88_j18_T R) (_g_f88_j15 : Nat → f88_j15_T R) (_g_f88_j13 : Nat → f88_j13_T R) (_k : Nat) : Lrc D R := noLrc
theorem f88_j23_e {R : Type} (g_f25 : Nat → f25_T R) (g_f56_2 : Nat → f56_2_T R) (g_f87_2 : Nat → f87_2_T R) (g_f99_2 : Nat → f99_2_T R) (g_f100 : Nat → f100_T R) (g_f68 : Nat → f68_T R) (g_f101_3 : Nat → f101_3_T R) (g_f88_j12 : Nat → f88_j12_T R) (g_f88_j17 : Nat → f88_j17_T R) (g_f88_j18 : Nat → f88_j18_T R) (g_f88_j15 : Nat → f88_j15_T R) (g_f88_j13 : Nat → f88_j13_T R) (k : Nat) (x : f88_j23_X) (y : f88_j23_Y) (K : KX R) : f88_j23_g (f88_j23 g_f25 g_f56_2 g_f87_2 g_f99_2 g_f100 g_f68 g_f101_3 g_f88_j12 g_f88_j17 g_f88_j18 g_f88_j15 g_f88_j13) k x y K = tailR cx (f88_o g_f25 g_f56_2 g_f87_2 g_f99_2 g_f100 g_f68 g_f101_3 k) (f88_j23_lrc g_f25 g_f56_2 g_f87_2 g_f99_2 g_f100 g_f68 g_f101_3 g_f88_j12 g_f88_j17 g_f88_j18 g_f88_j15 g_f88_j13 k) f88_ann kp 167 1 f88_j23_a f88_j23_b (gives (D := D) [.ptr 0 0, .ptr 65600 0, .own 137439047680, .ptr 393344 0, .ptr 524432 0, .bool] x) (giveGs (D := D) [some (.box [.list (.int .u8), .int .i64, .int .i64, .own 137439047681, .int .i64, .int .i64]), some (.row (.named 1) true), some (.box [.int .i64, .int .i64, .bool, .bool, .int .i64]), some (.row (.named 2) true), some (.box [.int .i64, .int .i64, .int .i64, .bool]), some (.box [.int .i64, .str, .int .i64, .bool, .bool])] y) K := by kernel_rfl
theorem f88_j23_d_ok {R : Type} (k : Nat) : JoinOk Try.prog cx 167 1 f88_ann (f88_j23_d (R := R) (f88_j23_c (R := R)) k) f88_j23_b :=
  join_ok (keep := kp) (lrc := f88_j23_lrc (R := R) (f25 (R := R)) (f56_2 (R := R)) (f87_2 (R := R)) (f99_2 (R := R)) (f100 (R := R)) (f68 (R := R)) (f101_3 (R := R)) (f88_j12_c (R := R)) (f88_j17_c (R := R)) (f88_j18_c (R := R)) (f88_j15_c (R := R)) (f88_j13_c (R := R)) k) cxOk mixed (f88_o_ok k) (show f88_ann (Am.keyOf f88_j23_b + 1000000) = some f88_j23_a by kernel_rfl) (L := []) (by kernel_rfl) trivial (J := []) (by kernel_rfl) trivial (LrcNat.no) (fun x y K => f88_j23_e (f25 (R := R)) (f56_2 (R := R)) (f87_2 (R := R)) (f99_2 (R := R)) (f100 (R := R)) (f68 (R := R)) (f101_3 (R := R)) (f88_j12_c (R := R)) (f88_j17_c (R := R)) (f88_j18_c (R := R)) (f88_j15_c (R := R)) (f88_j13_c (R := R)) k x y K)
noncomputable def f88_j10_b : Code := joinAt f88_ann f88_b 2
noncomputable def f88_j10_g {R : Type} (g : Nat → f88_j10_T R) (k : Nat) (x : f88_j10_X) (y : f88_j10_Y) (K : KX R) : Option R := g k x.2.2.2.1 x.2.2.2.2.2.2.1 y.1.1 y.1.2.1 y.1.2.2.1 y.1.2.2.2.2.1 y.1.2.2.2.2.2.1 y.2.1 y.2.2.1.1 y.2.2.1.2.1 y.2.2.1.2.2.1 y.2.2.1.2.2.2.1 y.2.2.1.2.2.2.2.1 y.2.2.2.1 y.2.2.2.2.1.1 y.2.2.2.2.1.2.1 y.2.2.2.2.1.2.2.1 y.2.2.2.2.1.2.2.2.1 y.2.2.2.2.2.1.1 y.2.2.2.2.2.1.2.1 y.2.2.2.2.2.1.2.2.1 y.2.2.2.2.2.1.2.2.2.1 y.2.2.2.2.2.1.2.2.2.2.1 (fun z0 z1 z2 z3 z4 z5 z6 => K (.exit 0) [.own 137438995456] [some (.row (.named 2) z0 true), some (.box [.list (.int .u8) z1, .int .i64 z2, .int .i64 z3, .own 137438995457, .int .i64 z4, .int .i64 z5]), some (.row (.named 1) z6 true)]) (fun z0 z1 z2 z3 z4 z5 z6 z7 z8 z9 z10 z11 => K (.normal) [.ptr 0 0, .ptr 65600 0, .own 137439049728] [some (.box [.list (.int .u8) z0, .int .i64 z1, .int .i64 z2, .own 1640946, .int .i64 z3, .int .i64 z4]), some (.row (.named 1) z5 true), some (.box [.int .i64 z6, .int .i64 z7, .bool z8, .bool z9, .int .i64 z10]), some (.row (.named 2) z11 true)])
noncomputable def f88_j10_d {R : Type} (g : Nat → f88_j10_T R) (k : Nat) : Lr D R := ldoor [.ptr 0 0, .ptr 65600 0, .own 137438994432, .bool, .ptr 393344 0, .ptr 524432 0, .bool] [some (.box [.list (.int .u8), .int .i64, .int .i64, .own 137438994433, .int .i64, .int .i64]), some (.row (.named 1) true), some (.box [.int .i64, .int .i64, .bool, .bool, .int .i64]), some (.row (.named 2) true), some (.box [.int .i64, .int .i64, .int .i64, .bool]), some (.box [.int .i64, .str, .int .i64, .bool, .bool])] (f88_j10_g g k)
noncomputable def f88_j10_lrc {R : Type} (_g_f25 : Nat → f25_T R) (_g_f56_2 : Nat → f56_2_T R) (_g_f87_2 : Nat → f87_2_T R) (_g_f99_2 : Nat → f99_2_T R) (_g_f100 : Nat → f100_T R) (_g_f68 : Nat → f68_T R) (_g_f101_3 : Nat → f101_3_T R) (g_f88_j12 : Nat → f88_j12_T R) (g_f88_j17 : Nat → f88_j17_T R) (g_f88_j18 : Nat → f88_j18_T R) (g_f88_j15 : Nat → f88_j15_T R) (g_f88_j13 : Nat → f88_j13_T R) (g_f88_j23 : Nat → f88_j23_T R) (k : Nat) : Lrc D R := (lrcAdd 1000023 (f88_j23_d g_f88_j23 k) (lrcAdd 1000018 (f88_j18_d g_f88_j18 k) (lrcAdd 1000017 (f88_j17_d g_f88_j17 k) (lrcAdd 1000015 (f88_j15_d g_f88_j15 k) (lrcAdd 1000013 (f88_j13_d g_f88_j13 k) (lrcAdd 1000012 (f88_j12_d g_f88_j12 k) noLrc))))))
theorem f88_j10_e {R : Type} (g_f25 : Nat → f25_T R) (g_f56_2 : Nat → f56_2_T R) (g_f87_2 : Nat → f87_2_T R) (g_f99_2 : Nat → f99_2_T R) (g_f100 : Nat → f100_T R) (g_f68 : Nat → f68_T R) (g_f101_3 : Nat → f101_3_T R) (g_f88_j12 : Nat → f88_j12_T R) (g_f88_j17 : Nat → f88_j17_T R) (g_f88_j18 : Nat → f88_j18_T R) (g_f88_j15 : Nat → f88_j15_T R) (g_f88_j13 : Nat → f88_j13_T R) (g_f88_j23 : Nat → f88_j23_T R) (k : Nat) (x : f88_j10_X) (y : f88_j10_Y) (K : KX R) : f88_j10_g (f88_j10 g_f25 g_f56_2 g_f87_2 g_f99_2 g_f100 g_f68 g_f101_3 g_f88_j12 g_f88_j17 g_f88_j18 g_f88_j15 g_f88_j13 g_f88_j23) k x y K = tailR cx (f88_o g_f25 g_f56_2 g_f87_2 g_f99_2 g_f100 g_f68 g_f101_3 k) (f88_j10_lrc g_f25 g_f56_2 g_f87_2 g_f99_2 g_f100 g_f68 g_f101_3 g_f88_j12 g_f88_j17 g_f88_j18 g_f88_j15 g_f88_j13 g_f88_j23 k) f88_ann kp 167 1 f88_j10_a f88_j10_b (gives (D := D) [.ptr 0 0, .ptr 65600 0, .own 137438994432, .bool, .ptr 393344 0, .ptr 524432 0, .bool] x) (giveGs (D := D) [some (.box [.list (.int .u8), .int .i64, .int .i64, .own 137438994433, .int .i64, .int .i64]), some (.row (.named 1) true), some (.box [.int .i64, .int .i64, .bool, .bool, .int .i64]), some (.row (.named 2) true), some (.box [.int .i64, .int .i64, .int .i64, .bool]), some (.box [.int .i64, .str, .int .i64, .bool, .bool])] y) K := by kernel_rfl
theorem f88_j10_d_ok {R : Type} (k : Nat) : JoinOk Try.prog cx 167 1 f88_ann (f88_j10_d (R := R) (f88_j10_c (R := R)) k) f88_j10_b :=
  join_ok (keep := kp) (lrc := f88_j10_lrc (R := R) (f25 (R := R)) (f56_2 (R := R)) (f87_2 (R := R)) (f99_2 (R := R)) (f100 (R := R)) (f68 (R := R)) (f101_3 (R := R)) (f88_j12_c (R := R)) (f88_j17_c (R := R)) (f88_j18_c (R := R)) (f88_j15_c (R := R)) (f88_j13_c (R := R)) (f88_j23_c (R := R)) k) cxOk mixed (f88_o_ok k) (show f88_ann (Am.keyOf f88_j10_b + 1000000) = some f88_j10_a by kernel_rfl) (L := []) (by kernel_rfl) trivial (J := [f88_j12_b, f88_j13_b, f88_j15_b, f88_j17_b, f88_j18_b, f88_j23_b]) (by kernel_rfl) (⟨(f88_j12_d_ok k).use (by kernel_rfl), (f88_j13_d_ok k).use (by kernel_rfl), (f88_j15_d_ok k).use (by kernel_rfl), (f88_j17_d_ok k).use (by kernel_rfl), (f88_j18_d_ok k).use (by kernel_rfl), (f88_j23_d_ok k).use (by kernel_rfl), trivial⟩) ((LrcNat.add (f88_j23_d_ok k).2 (LrcNat.add (f88_j18_d_ok k).2 (LrcNat.add (f88_j17_d_ok k).2 (LrcNat.add (f88_j15_d_ok k).2 (LrcNat.add (f88_j13_d_ok k).2 (LrcNat.add (f88_j12_d_ok k).2 LrcNat.no))))))) (fun x y K => f88_j10_e (f25 (R := R)) (f56_2 (R := R)) (f87_2 (R := R)) (f99_2 (R := R)) (f100 (R := R)) (f68 (R := R)) (f101_3 (R := R)) (f88_j12_c (R := R)) (f88_j17_c (R := R)) (f88_j18_c (R := R)) (f88_j15_c (R := R)) (f88_j13_c (R := R)) (f88_j23_c (R := R)) k x y K)
noncomputable def f88_j9_b : Code := joinAt f88_ann f88_b 1
noncomputable def f88_j9_g {R : Type} (g : Nat → f88_j9_T R) (k : Nat) (x : f88_j9_X) (y : f88_j9_Y) (K : KX R) : Option R := g k x.2.2.2.1 x.2.2.2.2.2.2.1 y.1.1 y.1.2.1 y.1.2.2.1 y.1.2.2.2.2.1 y.1.2.2.2.2.2.1 y.2.1 y.2.2.1.1 y.2.2.1.2.1 y.2.2.1.2.2.1 y.2.2.1.2.2.2.1 y.2.2.1.2.2.2.2.1 y.2.2.2.1 y.2.2.2.2.1.1 y.2.2.2.2.1.2.1 y.2.2.2.2.1.2.2.1 y.2.2.2.2.1.2.2.2.1 y.2.2.2.2.2.1.1 y.2.2.2.2.2.1.2.1 y.2.2.2.2.2.1.2.2.1 y.2.2.2.2.2.1.2.2.2.1 y.2.2.2.2.2.1.2.2.2.2.1 (fun z0 z1 z2 z3 z4 z5 z6 => K (.exit 0) [.own 137438991360] [some (.row (.named 2) z0 true), some (.box [.list (.int .u8) z1, .int .i64 z2, .int .i64 z3, .own 137438991361, .int .i64 z4, .int .i64 z5]), some (.row (.named 1) z6 true)]) (fun z0 z1 z2 z3 z4 z5 z6 z7 z8 z9 z10 z11 => K (.normal) [.ptr 0 0, .ptr 65600 0, .own 137439049728] [some (.box [.list (.int .u8) z0, .int .i64 z1, .int .i64 z2, .own 1640946, .int .i64 z3, .int .i64 z4]), some (.row (.named 1) z5 true), some (.box [.int .i64 z6, .int .i64 z7, .bool z8, .bool z9, .int .i64 z10]), some (.row (.named 2) z11 true)])
noncomputable def f88_j9_d {R : Type} (g : Nat → f88_j9_T R) (k : Nat) : Lr D R := ldoor [.ptr 0 0, .ptr 65600 0, .own 137438990336, .bool, .ptr 393344 0, .ptr 524432 0, .bool] [some (.box [.list (.int .u8), .int .i64, .int .i64, .own 137438990337, .int .i64, .int .i64]), some (.row (.named 1) true), some (.box [.int .i64, .int .i64, .bool, .bool, .int .i64]), some (.row (.named 2) true), some (.box [.int .i64, .int .i64, .int .i64, .bool]), some (.box [.int .i64, .str, .int .i64, .bool, .bool])] (f88_j9_g g k)
noncomputable def f88_j9_lrc {R : Type} (_g_f25 : Nat → f25_T R) (_g_f56_2 : Nat → f56_2_T R) (_g_f87_2 : Nat → f87_2_T R) (_g_f99_2 : Nat → f99_2_T R) (_g_f100 : Nat → f100_T R) (_g_f68 : Nat → f68_T R) (_g_f101_3 : Nat → f101_3_T R) (g_f88_j12 : Nat → f88_j12_T R) (g_f88_j17 : Nat → f88_j17_T R) (g_f88_j18 : Nat → f88_j18_T R) (g_f88_j15 : Nat → f88_j15_T R) (g_f88_j13 : Nat → f88_j13_T R) (g_f88_j23 : Nat → f88_j23_T R) (g_f88_j10 : Nat → f88_j10_T R) (k : Nat) : Lrc D R := (lrcAdd 1000023 (f88_j23_d g_f88_j23 k) (lrcAdd 1000018 (f88_j18_d g_f88_j18 k) (lrcAdd 1000017 (f88_j17_d g_f88_j17 k) (lrcAdd 1000015 (f88_j15_d g_f88_j15 k) (lrcAdd 1000013 (f88_j13_d g_f88_j13 k) (lrcAdd 1000012 (f88_j12_d g_f88_j12 k) (lrcAdd 1000010 (f88_j10_d g_f88_j10 k) noLrc)))))))
theorem f88_j9_e {R : Type} (g_f25 : Nat → f25_T R) (g_f56_2 : Nat → f56_2_T R) (g_f87_2 : Nat → f87_2_T R) (g_f99_2 : Nat → f99_2_T R) (g_f100 : Nat → f100_T R) (g_f68 : Nat → f68_T R) (g_f101_3 : Nat → f101_3_T R) (g_f88_j12 : Nat → f88_j12_T R) (g_f88_j17 : Nat → f88_j17_T R) (g_f88_j18 : Nat → f88_j18_T R) (g_f88_j15 : Nat → f88_j15_T R) (g_f88_j13 : Nat → f88_j13_T R) (g_f88_j23 : Nat → f88_j23_T R) (g_f88_j10 : Nat → f88_j10_T R) (k : Nat) (x : f88_j9_X) (y : f88_j9_Y) (K : KX R) : f88_j9_g (f88_j9 g_f25 g_f56_2 g_f87_2 g_f99_2 g_f100 g_f68 g_f101_3 g_f88_j12 g_f88_j17 g_f88_j18 g_f88_j15 g_f88_j13 g_f88_j23 g_f88_j10) k x y K = tailR cx (f88_o g_f25 g_f56_2 g_f87_2 g_f99_2 g_f100 g_f68 g_f101_3 k) (f88_j9_lrc g_f25 g_f56_2 g_f87_2 g_f99_2 g_f100 g_f68 g_f101_3 g_f88_j12 g_f88_j17 g_f88_j18 g_f88_j15 g_f88_j13 g_f88_j23 g_f88_j10 k) f88_ann kp 167 1 f88_j9_a f88_j9_b (gives (D := D) [.ptr 0 0, .ptr 65600 0, .own 137438990336, .bool, .ptr 393344 0, .ptr 524432 0, .bool] x) (giveGs (D := D) [some (.box [.list (.int .u8), .int .i64, .int .i64, .own 137438990337, .int .i64, .int .i64]), some (.row (.named 1) true), some (.box [.int .i64, .int .i64, .bool, .bool, .int .i64]), some (.row (.named 2) true), some (.box [.int .i64, .int .i64, .int .i64, .bool]), some (.box [.int .i64, .str, .int .i64, .bool, .bool])] y) K := by kernel_rfl
theorem f88_j9_d_ok {R : Type} (k : Nat) : JoinOk Try.prog cx 167 1 f88_ann (f88_j9_d (R := R) (f88_j9_c (R := R)) k) f88_j9_b :=
  join_ok (keep := kp) (lrc := f88_j9_lrc (R := R) (f25 (R := R)) (f56_2 (R := R)) (f87_2 (R := R)) (f99_2 (R := R)) (f100 (R := R)) (f68 (R := R)) (f101_3 (R := R)) (f88_j12_c (R := R)) (f88_j17_c (R := R)) (f88_j18_c (R := R)) (f88_j15_c (R := R)) (f88_j13_c (R := R)) (f88_j23_c (R := R)) (f88_j10_c (R := R)) k) cxOk mixed (f88_o_ok k) (show f88_ann (Am.keyOf f88_j9_b + 1000000) = some f88_j9_a by kernel_rfl) (L := []) (by kernel_rfl) trivial (J := [f88_j10_b, f88_j12_b, f88_j13_b, f88_j15_b, f88_j17_b, f88_j18_b, f88_j23_b]) (by kernel_rfl) (⟨(f88_j10_d_ok k).use (by kernel_rfl), (f88_j12_d_ok k).use (by kernel_rfl), (f88_j13_d_ok k).use (by kernel_rfl), (f88_j15_d_ok k).use (by kernel_rfl), (f88_j17_d_ok k).use (by kernel_rfl), (f88_j18_d_ok k).use (by kernel_rfl), (f88_j23_d_ok k).use (by kernel_rfl), trivial⟩) ((LrcNat.add (f88_j23_d_ok k).2 (LrcNat.add (f88_j18_d_ok k).2 (LrcNat.add (f88_j17_d_ok k).2 (LrcNat.add (f88_j15_d_ok k).2 (LrcNat.add (f88_j13_d_ok k).2 (LrcNat.add (f88_j12_d_ok k).2 (LrcNat.add (f88_j10_d_ok k).2 LrcNat.no)))))))) (fun x y K => f88_j9_e (f25 (R := R)) (f56_2 (R := R)) (f87_2 (R := R)) (f99_2 (R := R)) (f100 (R := R)) (f68 (R := R)) (f101_3 (R := R)) (f88_j12_c (R := R)) (f88_j17_c (R := R)) (f88_j18_c (R := R)) (f88_j15_c (R := R)) (f88_j13_c (R := R)) (f88_j23_c (R := R)) (f88_j10_c (R := R)) k x y K)
noncomputable def f88_j5_b : Code := joinAt f88_ann f88_b 0
noncomputable def f88_j5_g {R : Type} (g : Nat → f88_j5_T R) (k : Nat) (x : f88_j5_X) (y : f88_j5_Y) (K : KX R) : Option R := g k x.2.2.2.1 y.1.1 y.1.2.1 y.1.2.2.1 y.1.2.2.2.2.1 y.1.2.2.2.2.2.1 y.2.1 y.2.2.1.1 y.2.2.1.2.1 y.2.2.1.2.2.1 y.2.2.1.2.2.2.1 y.2.2.1.2.2.2.2.1 y.2.2.2.1 (fun z0 z1 z2 z3 z4 z5 z6 => K (.exit 0) [.own 137438974976] [some (.row (.named 2) z0 true), some (.box [.list (.int .u8) z1, .int .i64 z2, .int .i64 z3, .own 137438974977, .int .i64 z4, .int .i64 z5]), some (.row (.named 1) z6 true)]) (fun z0 z1 z2 z3 z4 z5 z6 z7 z8 z9 z10 z11 z12 => K (.normal) [.ptr 0 0, .ptr 65600 0, .own 137439049728, .bool z0] [some (.box [.list (.int .u8) z1, .int .i64 z2, .int .i64 z3, .own 1640946, .int .i64 z4, .int .i64 z5]), some (.row (.named 1) z6 true), some (.box [.int .i64 z7, .int .i64 z8, .bool z9, .bool z10, .int .i64 z11]), some (.row (.named 2) z12 true)])
noncomputable def f88_j5_d {R : Type} (g : Nat → f88_j5_T R) (k : Nat) : Lr D R := ldoor [.ptr 0 0, .ptr 65600 0, .own 137438973952, .bool] [some (.box [.list (.int .u8), .int .i64, .int .i64, .own 137438973953, .int .i64, .int .i64]), some (.row (.named 1) true), some (.box [.int .i64, .int .i64, .bool, .bool, .int .i64]), some (.row (.named 2) true)] (f88_j5_g g k)
noncomputable def f88_j5_lrc {R : Type} (_g_f25 : Nat → f25_T R) (_g_f56_2 : Nat → f56_2_T R) (_g_f87_2 : Nat → f87_2_T R) (_g_f99_2 : Nat → f99_2_T R) (_g_f100 : Nat → f100_T R) (_g_f68 : Nat → f68_T R) (_g_f101_3 : Nat → f101_3_T R) (g_f88_j12 : Nat → f88_j12_T R) (g_f88_j17 : Nat → f88_j17_T R) (g_f88_j18 : Nat → f88_j18_T R) (g_f88_j15 : Nat → f88_j15_T R) (g_f88_j13 : Nat → f88_j13_T R) (g_f88_j23 : Nat → f88_j23_T R) (g_f88_j10 : Nat → f88_j10_T R) (g_f88_j9 : Nat → f88_j9_T R) (k : Nat) : Lrc D R := (lrcAdd 1000023 (f88_j23_d g_f88_j23 k) (lrcAdd 1000018 (f88_j18_d g_f88_j18 k) (lrcAdd 1000017 (f88_j17_d g_f88_j17 k) (lrcAdd 1000015 (f88_j15_d g_f88_j15 k) (lrcAdd 1000013 (f88_j13_d g_f88_j13 k) (lrcAdd 1000012 (f88_j12_d g_f88_j12 k) (lrcAdd 1000010 (f88_j10_d g_f88_j10 k) (lrcAdd 1000009 (f88_j9_d g_f88_j9 k) noLrc))))))))
theorem f88_j5_e {R : Type} (g_f25 : Nat → f25_T R) (g_f56_2 : Nat → f56_2_T R) (g_f87_2 : Nat → f87_2_T R) (g_f99_2 : Nat → f99_2_T R) (g_f100 : Nat → f100_T R) (g_f68 : Nat → f68_T R) (g_f101_3 : Nat → f101_3_T R) (g_f88_j12 : Nat → f88_j12_T R) (g_f88_j17 : Nat → f88_j17_T R) (g_f88_j18 : Nat → f88_j18_T R) (g_f88_j15 : Nat → f88_j15_T R) (g_f88_j13 : Nat → f88_j13_T R) (g_f88_j23 : Nat → f88_j23_T R) (g_f88_j10 : Nat → f88_j10_T R) (g_f88_j9 : Nat → f88_j9_T R) (k : Nat) (x : f88_j5_X) (y : f88_j5_Y) (K : KX R) : f88_j5_g (f88_j5 g_f25 g_f56_2 g_f87_2 g_f99_2 g_f100 g_f68 g_f101_3 g_f88_j12 g_f88_j17 g_f88_j18 g_f88_j15 g_f88_j13 g_f88_j23 g_f88_j10 g_f88_j9) k x y K = tailR cx (f88_o g_f25 g_f56_2 g_f87_2 g_f99_2 g_f100 g_f68 g_f101_3 k) (f88_j5_lrc g_f25 g_f56_2 g_f87_2 g_f99_2 g_f100 g_f68 g_f101_3 g_f88_j12 g_f88_j17 g_f88_j18 g_f88_j15 g_f88_j13 g_f88_j23 g_f88_j10 g_f88_j9 k) f88_ann kp 167 1 f88_j5_a f88_j5_b (gives (D := D) [.ptr 0 0, .ptr 65600 0, .own 137438973952, .bool] x) (giveGs (D := D) [some (.box [.list (.int .u8), .int .i64, .int .i64, .own 137438973953, .int .i64, .int .i64]), some (.row (.named 1) true), some (.box [.int .i64, .int .i64, .bool, .bool, .int .i64]), some (.row (.named 2) true)] y) K := by kernel_rfl
theorem f88_j5_d_ok {R : Type} (k : Nat) : JoinOk Try.prog cx 167 1 f88_ann (f88_j5_d (R := R) (f88_j5_c (R := R)) k) f88_j5_b :=
  join_ok (keep := kp) (lrc := f88_j5_lrc (R := R) (f25 (R := R)) (f56_2 (R := R)) (f87_2 (R := R)) (f99_2 (R := R)) (f100 (R := R)) (f68 (R := R)) (f101_3 (R := R)) (f88_j12_c (R := R)) (f88_j17_c (R := R)) (f88_j18_c (R := R)) (f88_j15_c (R := R)) (f88_j13_c (R := R)) (f88_j23_c (R := R)) (f88_j10_c (R := R)) (f88_j9_c (R := R)) k) cxOk mixed (f88_o_ok k) (show f88_ann (Am.keyOf f88_j5_b + 1000000) = some f88_j5_a by kernel_rfl) (L := []) (by kernel_rfl) trivial (J := [f88_j9_b, f88_j10_b, f88_j12_b, f88_j13_b, f88_j15_b, f88_j17_b, f88_j18_b, f88_j23_b]) (by kernel_rfl) (⟨(f88_j9_d_ok k).use (by kernel_rfl), (f88_j10_d_ok k).use (by kernel_rfl), (f88_j12_d_ok k).use (by kernel_rfl), (f88_j13_d_ok k).use (by kernel_rfl), (f88_j15_d_ok k).use (by kernel_rfl), (f88_j17_d_ok k).use (by kernel_rfl), (f88_j18_d_ok k).use (by kernel_rfl), (f88_j23_d_ok k).use (by kernel_rfl), trivial⟩) ((LrcNat.add (f88_j23_d_ok k).2 (LrcNat.add (f88_j18_d_ok k).2 (LrcNat.add (f88_j17_d_ok k).2 (LrcNat.add (f88_j15_d_ok k).2 (LrcNat.add (f88_j13_d_ok k).2 (LrcNat.add (f88_j12_d_ok k).2 (LrcNat.add (f88_j10_d_ok k).2 (LrcNat.add (f88_j9_d_ok k).2 LrcNat.no))))))))) (fun x y K => f88_j5_e (f25 (R := R)) (f56_2 (R := R)) (f87_2 (R := R)) (f99_2 (R := R)) (f100 (R := R)) (f68 (R := R)) (f101_3 (R := R)) (f88_j12_c (R := R)) (f88_j17_c (R := R)) (f88_j18_c (R := R)) (f88_j15_c (R := R)) (f88_j13_c (R := R)) (f88_j23_c (R := R)) (f88_j10_c (R := R)) (f88_j9_c (R := R)) k x y K)
noncomputable def f88_l3_b : Code := loopAt f88_b 0
noncomputable def f88_l3_g {R : Type} (g_f25 : Nat → f25_T R) (g_f56_2 : Nat → f56_2_T R) (g_f87_2 : Nat → f87_2_T R) (g_f99_2 : Nat → f99_2_T R) (g_f100 : Nat → f100_T R) (g_f68 : Nat → f68_T R) (g_f101_3 : Nat → f101_3_T R) (g_f88_j12 : Nat → f88_j12_T R) (g_f88_j17 : Nat → f88_j17_T R) (g_f88_j18 : Nat → f88_j18_T R) (g_f88_j15 : Nat → f88_j15_T R) (g_f88_j13 : Nat → f88_j13_T R) (g_f88_j23 : Nat → f88_j23_T R) (g_f88_j10 : Nat → f88_j10_T R) (g_f88_j9 : Nat → f88_j9_T R) (g_f88_j5 : Nat → f88_j5_T R) (k : Nat) (x : f88_l3_X) (y : f88_l3_Y) (K : KX R) : Option R := f88_l3 g_f25 g_f56_2 g_f87_2 g_f99_2 g_f100 g_f68 g_f101_3 g_f88_j12 g_f88_j17 g_f88_j18 g_f88_j15 g_f88_j13 g_f88_j23 g_f88_j10 g_f88_j9 g_f88_j5 k x.2.2.2.1 y.1.1 y.1.2.1 y.1.2.2.1 y.1.2.2.2.2.1 y.1.2.2.2.2.2.1 y.2.1 y.2.2.1.1 y.2.2.1.2.1 y.2.2.1.2.2.1 y.2.2.1.2.2.2.1 y.2.2.1.2.2.2.2.1 y.2.2.2.1 (fun z0 z1 z2 z3 z4 z5 z6 => K (.exit 0) [.own 68719490048] [some (.row (.named 2) z0 true), some (.box [.list (.int .u8) z1, .int .i64 z2, .int .i64 z3, .own 68719490049, .int .i64 z4, .int .i64 z5]), some (.row (.named 1) z6 true)])
noncomputable def f88_l3_d {R : Type} (g_f25 : Nat → f25_T R) (g_f56_2 : Nat → f56_2_T R) (g_f87_2 : Nat → f87_2_T R) (g_f99_2 : Nat → f99_2_T R) (g_f100 : Nat → f100_T R) (g_f68 : Nat → f68_T R) (g_f101_3 : Nat → f101_3_T R) (g_f88_j12 : Nat → f88_j12_T R) (g_f88_j17 : Nat → f88_j17_T R) (g_f88_j18 : Nat → f88_j18_T R) (g_f88_j15 : Nat → f88_j15_T R) (g_f88_j13 : Nat → f88_j13_T R) (g_f88_j23 : Nat → f88_j23_T R) (g_f88_j10 : Nat → f88_j10_T R) (g_f88_j9 : Nat → f88_j9_T R) (g_f88_j5 : Nat → f88_j5_T R) (k : Nat) : Lr D R := ldoor [.ptr 0 0, .ptr 65600 0, .own 68719489024, .bool] [some (.box [.list (.int .u8), .int .i64, .int .i64, .own 68719489025, .int .i64, .int .i64]), some (.row (.named 1) true), some (.box [.int .i64, .int .i64, .bool, .bool, .int .i64]), some (.row (.named 2) true)] (f88_l3_g g_f25 g_f56_2 g_f87_2 g_f99_2 g_f100 g_f68 g_f101_3 g_f88_j12 g_f88_j17 g_f88_j18 g_f88_j15 g_f88_j13 g_f88_j23 g_f88_j10 g_f88_j9 g_f88_j5 k)
noncomputable def f88_l3_lrc {R : Type} (_g_f25 : Nat → f25_T R) (_g_f56_2 : Nat → f56_2_T R) (_g_f87_2 : Nat → f87_2_T R) (_g_f99_2 : Nat → f99_2_T R) (_g_f100 : Nat → f100_T R) (_g_f68 : Nat → f68_T R) (_g_f101_3 : Nat → f101_3_T R) (g_f88_j12 : Nat → f88_j12_T R) (g_f88_j17 : Nat → f88_j17_T R) (g_f88_j18 : Nat → f88_j18_T R) (g_f88_j15 : Nat → f88_j15_T R) (g_f88_j13 : Nat → f88_j13_T R) (g_f88_j23 : Nat → f88_j23_T R) (g_f88_j10 : Nat → f88_j10_T R) (g_f88_j9 : Nat → f88_j9_T R) (g_f88_j5 : Nat → f88_j5_T R) (k : Nat) : Lrc D R := (lrcAdd 1000023 (f88_j23_d g_f88_j23 k) (lrcAdd 1000018 (f88_j18_d g_f88_j18 k) (lrcAdd 1000017 (f88_j17_d g_f88_j17 k) (lrcAdd 1000015 (f88_j15_d g_f88_j15 k) (lrcAdd 1000013 (f88_j13_d g_f88_j13 k) (lrcAdd 1000012 (f88_j12_d g_f88_j12 k) (lrcAdd 1000010 (f88_j10_d g_f88_j10 k) (lrcAdd 1000009 (f88_j9_d g_f88_j9 k) (lrcAdd 1000005 (f88_j5_d g_f88_j5 k) noLrc)))))))))
theorem f88_l3_e {R : Type} (g_f25 : Nat → f25_T R) (g_f56_2 : Nat → f56_2_T R) (g_f87_2 : Nat → f87_2_T R) (g_f99_2 : Nat → f99_2_T R) (g_f100 : Nat → f100_T R) (g_f68 : Nat → f68_T R) (g_f101_3 : Nat → f101_3_T R) (g_f88_j12 : Nat → f88_j12_T R) (g_f88_j17 : Nat → f88_j17_T R) (g_f88_j18 : Nat → f88_j18_T R) (g_f88_j15 : Nat → f88_j15_T R) (g_f88_j13 : Nat → f88_j13_T R) (g_f88_j23 : Nat → f88_j23_T R) (g_f88_j10 : Nat → f88_j10_T R) (g_f88_j9 : Nat → f88_j9_T R) (g_f88_j5 : Nat → f88_j5_T R) (k : Nat) (x : f88_l3_X) (y : f88_l3_Y) (K : KX R) : f88_l3_g g_f25 g_f56_2 g_f87_2 g_f99_2 g_f100 g_f68 g_f101_3 g_f88_j12 g_f88_j17 g_f88_j18 g_f88_j15 g_f88_j13 g_f88_j23 g_f88_j10 g_f88_j9 g_f88_j5 (k + 1) x y K = round cx (f88_o g_f25 g_f56_2 g_f87_2 g_f99_2 g_f100 g_f68 g_f101_3 k) (f88_l3_lrc g_f25 g_f56_2 g_f87_2 g_f99_2 g_f100 g_f68 g_f101_3 g_f88_j12 g_f88_j17 g_f88_j18 g_f88_j15 g_f88_j13 g_f88_j23 g_f88_j10 g_f88_j9 g_f88_j5 k) f88_ann kp 167 1 f88_l3_a f88_l3_b (gives (D := D) [.ptr 0 0, .ptr 65600 0, .own 68719489024, .bool] x) (giveGs (D := D) [some (.box [.list (.int .u8), .int .i64, .int .i64, .own 68719489025, .int .i64, .int .i64]), some (.row (.named 1) true), some (.box [.int .i64, .int .i64, .bool, .bool, .int .i64]), some (.row (.named 2) true)] y) (fun vs os => f88_l3_d g_f25 g_f56_2 g_f87_2 g_f99_2 g_f100 g_f68 g_f101_3 g_f88_j12 g_f88_j17 g_f88_j18 g_f88_j15 g_f88_j13 g_f88_j23 g_f88_j10 g_f88_j9 g_f88_j5 k vs os K) K := by kernel_rfl
theorem f88_l3_d_ok {R : Type} : ∀ k, LoopOk Try.prog cx 167 1 f88_ann (f88_l3_d (R := R) (f25 (R := R)) (f56_2 (R := R)) (f87_2 (R := R)) (f99_2 (R := R)) (f100 (R := R)) (f68 (R := R)) (f101_3 (R := R)) (f88_j12_c (R := R)) (f88_j17_c (R := R)) (f88_j18_c (R := R)) (f88_j15_c (R := R)) (f88_j13_c (R := R)) (f88_j23_c (R := R)) (f88_j10_c (R := R)) (f88_j9_c (R := R)) (f88_j5_c (R := R)) k) f88_l3_b :=
  loop_ok (keep := kp) (lrc := f88_l3_lrc (R := R) (f25 (R := R)) (f56_2 (R := R)) (f87_2 (R := R)) (f99_2 (R := R)) (f100 (R := R)) (f68 (R := R)) (f101_3 (R := R)) (f88_j12_c (R := R)) (f88_j17_c (R := R)) (f88_j18_c (R := R)) (f88_j15_c (R := R)) (f88_j13_c (R := R)) (f88_j23_c (R := R)) (f88_j10_c (R := R)) (f88_j9_c (R := R)) (f88_j5_c (R := R))) cxOk mixed (f88_o_ok) (show f88_ann (Am.keyOf f88_l3_b) = some f88_l3_a by kernel_rfl) (L := []) (by kernel_rfl) (fun _k => trivial) (J := [f88_j5_b, f88_j9_b, f88_j10_b, f88_j12_b, f88_j13_b, f88_j15_b, f88_j17_b, f88_j18_b, f88_j23_b]) (by kernel_rfl) (fun k => ⟨(f88_j5_d_ok k).use (by kernel_rfl), (f88_j9_d_ok k).use (by kernel_rfl), (f88_j10_d_ok k).use (by kernel_rfl), (f88_j12_d_ok k).use (by kernel_rfl), (f88_j13_d_ok k).use (by kernel_rfl), (f88_j15_d_ok k).use (by kernel_rfl), (f88_j17_d_ok k).use (by kernel_rfl), (f88_j18_d_ok k).use (by kernel_rfl), (f88_j23_d_ok k).use (by kernel_rfl), trivial⟩) (fun k => (LrcNat.add (f88_j23_d_ok k).2 (LrcNat.add (f88_j18_d_ok k).2 (LrcNat.add (f88_j17_d_ok k).2 (LrcNat.add (f88_j15_d_ok k).2 (LrcNat.add (f88_j13_d_ok k).2 (LrcNat.add (f88_j12_d_ok k).2 (LrcNat.add (f88_j10_d_ok k).2 (LrcNat.add (f88_j9_d_ok k).2 (LrcNat.add (f88_j5_d_ok k).2 LrcNat.no)))))))))) (fun _x _y _K => by kernel_rfl) (f88_l3_e (f25 (R := R)) (f56_2 (R := R)) (f87_2 (R := R)) (f99_2 (R := R)) (f100 (R := R)) (f68 (R := R)) (f101_3 (R := R)) (f88_j12_c (R := R)) (f88_j17_c (R := R)) (f88_j18_c (R := R)) (f88_j15_c (R := R)) (f88_j13_c (R := R)) (f88_j23_c (R := R)) (f88_j10_c (R := R)) (f88_j9_c (R := R)) (f88_j5_c (R := R)))
noncomputable def f88_lrc {R : Type} (g_f25 : Nat → f25_T R) (g_f56_2 : Nat → f56_2_T R) (g_f87_2 : Nat → f87_2_T R) (g_f99_2 : Nat → f99_2_T R) (g_f100 : Nat → f100_T R) (g_f68 : Nat → f68_T R) (g_f101_3 : Nat → f101_3_T R) (g_f88_j12 : Nat → f88_j12_T R) (g_f88_j17 : Nat → f88_j17_T R) (g_f88_j18 : Nat → f88_j18_T R) (g_f88_j15 : Nat → f88_j15_T R) (g_f88_j13 : Nat → f88_j13_T R) (g_f88_j23 : Nat → f88_j23_T R) (g_f88_j10 : Nat → f88_j10_T R) (g_f88_j9 : Nat → f88_j9_T R) (g_f88_j5 : Nat → f88_j5_T R) (k : Nat) : Lrc D R := (lrcAdd 1000023 (f88_j23_d g_f88_j23 k) (lrcAdd 1000018 (f88_j18_d g_f88_j18 k) (lrcAdd 1000017 (f88_j17_d g_f88_j17 k) (lrcAdd 1000015 (f88_j15_d g_f88_j15 k) (lrcAdd 1000013 (f88_j13_d g_f88_j13 k) (lrcAdd 1000012 (f88_j12_d g_f88_j12 k) (lrcAdd 1000010 (f88_j10_d g_f88_j10 k) (lrcAdd 1000009 (f88_j9_d g_f88_j9 k) (lrcAdd 1000005 (f88_j5_d g_f88_j5 k) (lrcAdd 3 (f88_l3_d g_f25 g_f56_2 g_f87_2 g_f99_2 g_f100 g_f68 g_f101_3 g_f88_j12 g_f88_j17 g_f88_j18 g_f88_j15 g_f88_j13 g_f88_j23 g_f88_j10 g_f88_j9 g_f88_j5 k) noLrc))))))))))
theorem f88_e {R : Type} (g_f25 : Nat → f25_T R) (g_f56_2 : Nat → f56_2_T R) (g_f87_2 : Nat → f87_2_T R) (g_f99_2 : Nat → f99_2_T R) (g_f100 : Nat → f100_T R) (g_f68 : Nat → f68_T R) (g_f101_3 : Nat → f101_3_T R) (g_f88_j12 : Nat → f88_j12_T R) (g_f88_j17 : Nat → f88_j17_T R) (g_f88_j18 : Nat → f88_j18_T R) (g_f88_j15 : Nat → f88_j15_T R) (g_f88_j13 : Nat → f88_j13_T R) (g_f88_j23 : Nat → f88_j23_T R) (g_f88_j10 : Nat → f88_j10_T R) (g_f88_j9 : Nat → f88_j9_T R) (g_f88_j5 : Nat → f88_j5_T R) (k : Nat) (x : f88_X) (y : f88_Y) (K : KR R) : f88_s g_f25 g_f56_2 g_f87_2 g_f99_2 g_f100 g_f68 g_f101_3 g_f88_j12 g_f88_j17 g_f88_j18 g_f88_j15 g_f88_j13 g_f88_j23 g_f88_j10 g_f88_j9 g_f88_j5 k x.2.1.1 x.2.1.2.1 x.2.1.2.2.1 x.2.1.2.2.2.1 x.2.1.2.2.2.2.1 y.1.1 y.1.2.1 y.1.2.2.1 y.1.2.2.2.2.1 y.1.2.2.2.2.2.1 (fun z0 z1 z2 z3 z4 z5 z6 => K ⟨.own 1, [some (.box [.list (.int .u8) z0, .int .i64 z1, .int .i64 z2, .own 2, .int .i64 z3, .int .i64 z4]), some (.row (.named 2) z5 true), some (.row (.named 1) z6 true)]⟩) = exec cx (f88_o g_f25 g_f56_2 g_f87_2 g_f99_2 g_f100 g_f68 g_f101_3 k) (f88_lrc g_f25 g_f56_2 g_f87_2 g_f99_2 g_f100 g_f68 g_f101_3 g_f88_j12 g_f88_j17 g_f88_j18 g_f88_j15 g_f88_j13 g_f88_j23 g_f88_j10 g_f88_j9 g_f88_j5 k) f88_ann kp 167 1 f88_b (entry (gives (D := D) [.ptr 0 0, .agg [.int .i64, .int .i64, .bool, .bool, .int .i64]] x) (giveOs (D := D) [.box [.list (.int .u8), .int .i64, .int .i64, .nil, .int .i64, .int .i64]] y)) (fin cx Try.f88.results.toList [] 1 K) := by kernel_rfl
noncomputable def f88 {R : Type} (k : Nat) (a0 : Int) (a1 : Int) (a2 : Bool) (a3 : Bool) (a4 : Int) (a5 : List Int) (a6 : Int) (a7 : Int) (a8 : Int) (a9 : Int) (K : List Int → Int → Int → Int → Int → List D2 → List D1 → Option R) : Option R := f88_s (f25 (R := R)) (f56_2 (R := R)) (f87_2 (R := R)) (f99_2 (R := R)) (f100 (R := R)) (f68 (R := R)) (f101_3 (R := R)) (f88_j12_c (R := R)) (f88_j17_c (R := R)) (f88_j18_c (R := R)) (f88_j15_c (R := R)) (f88_j13_c (R := R)) (f88_j23_c (R := R)) (f88_j10_c (R := R)) (f88_j9_c (R := R)) (f88_j5_c (R := R)) k a0 a1 a2 a3 a4 a5 a6 a7 a8 a9 K
theorem f88_ok {R : Type} (k : Nat) {e : Dr D R} (he : FnOk Try.prog cx 88 e) : FnOk Try.prog cx 88 (f88_d (f88 k) e) :=
  he.door fun x y => body_ok (keep := kp) (ann := f88_ann) (lrc := f88_lrc (R := R) (f25 (R := R)) (f56_2 (R := R)) (f87_2 (R := R)) (f99_2 (R := R)) (f100 (R := R)) (f68 (R := R)) (f101_3 (R := R)) (f88_j12_c (R := R)) (f88_j17_c (R := R)) (f88_j18_c (R := R)) (f88_j15_c (R := R)) (f88_j13_c (R := R)) (f88_j23_c (R := R)) (f88_j10_c (R := R)) (f88_j9_c (R := R)) (f88_j5_c (R := R)) k) (N := 167) (n0 := 1) (c := []) cxOk mixed (f88_o_ok k) (body := f88_b) (by kernel_rfl : Try.prog.funcs[88]? = some Try.f88) (by kernel_rfl) (by kernel_rfl) (by kernel_rfl) (by kernel_rfl) (of_decide_eq_true (by kernel_rfl)) (L := [f88_l3_b]) (by kernel_rfl) (⟨(f88_l3_d_ok k).use (by kernel_rfl), trivial⟩) (J := [f88_j5_b, f88_j9_b, f88_j10_b, f88_j12_b, f88_j13_b, f88_j15_b, f88_j17_b, f88_j18_b, f88_j23_b]) (by kernel_rfl) (⟨(f88_j5_d_ok k).use (by kernel_rfl), (f88_j9_d_ok k).use (by kernel_rfl), (f88_j10_d_ok k).use (by kernel_rfl), (f88_j12_d_ok k).use (by kernel_rfl), (f88_j13_d_ok k).use (by kernel_rfl), (f88_j15_d_ok k).use (by kernel_rfl), (f88_j17_d_ok k).use (by kernel_rfl), (f88_j18_d_ok k).use (by kernel_rfl), (f88_j23_d_ok k).use (by kernel_rfl), trivial⟩) ((LrcNat.add (f88_j23_d_ok k).2 (LrcNat.add (f88_j18_d_ok k).2 (LrcNat.add (f88_j17_d_ok k).2 (LrcNat.add (f88_j15_d_ok k).2 (LrcNat.add (f88_j13_d_ok k).2 (LrcNat.add (f88_j12_d_ok k).2 (LrcNat.add (f88_j10_d_ok k).2 (LrcNat.add (f88_j9_d_ok k).2 (LrcNat.add (f88_j5_d_ok k).2 (LrcNat.add (f88_l3_d_ok k).2 LrcNat.no))))))))))) (fun K => f88_e (f25 (R := R)) (f56_2 (R := R)) (f87_2 (R := R)) (f99_2 (R := R)) (f100 (R := R)) (f68 (R := R)) (f101_3 (R := R)) (f88_j12_c (R := R)) (f88_j17_c (R := R)) (f88_j18_c (R := R)) (f88_j15_c (R := R)) (f88_j13_c (R := R)) (f88_j23_c (R := R)) (f88_j10_c (R := R)) (f88_j9_c (R := R)) (f88_j5_c (R := R)) k x y K)


end Go.Proofs.Ytklhjegfkpmdoaa

/-! What the functions do, as plain functions; and that they do. -/
namespace Go.Proofs.Ytklhjegfkpmdoaa
open Go Go.Am
abbrev f55_T (R : Type) : Type := List Int → (List Int → Int → Int → Int → Int → List D1 → List D2 → Option R) → Option R
abbrev f55_X : Type := (List Int × Unit)
abbrev f55_Y : Type := (Unit)
/-! ## 55: diorama/element.read -/
noncomputable def f55_s {R : Type} (g_f87 : Nat → f87_T R) (g_f88 : Nat → f88_T R) (k : Nat) (a0 : List Int) (K : List Int → Int → Int → Int → Int → List D1 → List D2 → Option R) : Option R :=
  bif decide ((a0.length : Int) > 1048576) then
    g_f87 k 2 a0 0 0 0 0 (fun v1 v2 v3 v4 v5 =>
      K v1 v2 v3 v4 v5 ([] : List D1) ([] : List D2))
  else
    g_f88 k 0 (a0.length : Int) false false 1 a0 0 0 0 0 (fun v6 v7 v8 v9 v10 v11 v12 =>
      K v6 v7 v8 v9 v10 v12 v11)
noncomputable def f55_d {R : Type} (g : f55_T R) (e : Dr D R) : Dr D R := door [.list (.int .u8)] [] (fun (x : f55_X) (_y : f55_Y) K => g x.1 (fun z0 z1 z2 z3 z4 z5 z6 => K ⟨.tup [.ptr 0 0, .own 2], [some (.box [.list (.int .u8) z0, .int .i64 z1, .int .i64 z2, .own 1, .int .i64 z3, .int .i64 z4]), some (.row (.named 1) z5 true), some (.row (.named 2) z6 true)]⟩)) e
noncomputable def f55_o {R : Type} (g_f87 : Nat → f87_T R) (g_f88 : Nat → f88_T R) (k : Nat) : Orc D R := (orcAdd 88 (f88_d (g_f88 k) noDr) (orcAdd 87 (f87_d (g_f87 k) noDr) noOrc))
theorem f55_o_ok {R : Type} (k : Nat) : OrcOk Try.prog cx (f55_o (R := R) (f87 (R := R)) (f88 (R := R)) k) := (OrcOk.add (f88_ok k FnOk.no) (OrcOk.add (f87_ok k FnOk.no) OrcOk.no))
noncomputable def f55_b : Code := bodyOf Try.f55
noncomputable def f55_ann : Nat → Option LAnn := fun _key => none
noncomputable def f55_lrc {R : Type} (_g_f87 : Nat → f87_T R) (_g_f88 : Nat → f88_T R) (_k : Nat) : Lrc D R := noLrc
theorem f55_e {R : Type} (g_f87 : Nat → f87_T R) (g_f88 : Nat → f88_T R) (k : Nat) (x : f55_X) (y : f55_Y) (K : KR R) : f55_s g_f87 g_f88 k x.1 (fun z0 z1 z2 z3 z4 z5 z6 => K ⟨.tup [.ptr 0 0, .own 2], [some (.box [.list (.int .u8) z0, .int .i64 z1, .int .i64 z2, .own 1, .int .i64 z3, .int .i64 z4]), some (.row (.named 1) z5 true), some (.row (.named 2) z6 true)]⟩) = exec cx (f55_o g_f87 g_f88 k) (f55_lrc g_f87 g_f88 k) f55_ann kp 20 0 f55_b (entry (gives (D := D) [.list (.int .u8)] x) (giveOs (D := D) [] y)) (fin cx Try.f55.results.toList [(.tmp 3, .own 1099511627776 (.named 2)), (.cell 131200 3, .own 1099511627777 (.named 1))] 0 K) := by kernel_rfl
noncomputable def f55 {R : Type} (k : Nat) (a0 : List Int) (K : List Int → Int → Int → Int → Int → List D1 → List D2 → Option R) : Option R := f55_s (f87 (R := R)) (f88 (R := R)) k a0 K
theorem f55_ok {R : Type} (k : Nat) {e : Dr D R} (he : FnOk Try.prog cx 55 e) : FnOk Try.prog cx 55 (f55_d (f55 k) e) :=
  he.door fun x y => body_ok (keep := kp) (ann := f55_ann) (lrc := f55_lrc (R := R) (f87 (R := R)) (f88 (R := R)) k) (N := 20) (n0 := 0) (c := [(.tmp 3, .own 1099511627776 (.named 2)), (.cell 131200 3, .own 1099511627777 (.named 1))]) cxOk mixed (f55_o_ok k) (body := f55_b) (by kernel_rfl : Try.prog.funcs[55]? = some Try.f55) (by kernel_rfl) (by kernel_rfl) (by kernel_rfl) (by kernel_rfl) (of_decide_eq_true (by kernel_rfl)) (L := []) (by kernel_rfl) trivial (J := []) (by kernel_rfl) trivial (LrcNat.no) (fun K => f55_e (f87 (R := R)) (f88 (R := R)) k x y K)

abbrev f19_T (R : Type) : Type := List Int → (Int → Int → List D2 → Option R) → Option R
abbrev f19_X : Type := (List Int × Unit)
abbrev f19_Y : Type := (Unit)
/-! ## 19: diorama/element.Parse -/
noncomputable def f19_s {R : Type} (g_f56_2 : Nat → f56_2_T R) (g_f55 : Nat → f55_T R) (k : Nat) (a0 : List Int) (K : Int → Int → List D2 → Option R) : Option R :=
  g_f55 k a0 (fun v1 v2 v3 v4 v5 v6 v7 =>
    g_f56_2 k v1 v2 v3 v4 v5 v6 (fun v8 _v9 _v10 _v11 v12 v13 _v14 =>
      bif (!v8) then
        K v13 v12 ([] : List D2)
      else
        K 0 0 v7))
noncomputable def f19_d {R : Type} (g : f19_T R) (e : Dr D R) : Dr D R := door [.list (.int .u8)] [] (fun (x : f19_X) (_y : f19_Y) K => g x.1 (fun z0 z1 z2 => K ⟨.tup [.own 0, .int .i64 z0, .int .i64 z1], [some (.row (.named 2) z2 true)]⟩)) e
noncomputable def f19_o {R : Type} (g_f56_2 : Nat → f56_2_T R) (g_f55 : Nat → f55_T R) (k : Nat) : Orc D R := (orcAdd 55 (f55_d (g_f55 k) noDr) (orcAdd 56 (f56_2_d (g_f56_2 k) noDr) noOrc))
theorem f19_o_ok {R : Type} (k : Nat) : OrcOk Try.prog cx (f19_o (R := R) (f56_2 (R := R)) (f55 (R := R)) k) := (OrcOk.add (f55_ok k FnOk.no) (OrcOk.add (f56_2_ok k FnOk.no) OrcOk.no))
noncomputable def f19_b : Code := bodyOf Try.f19
noncomputable def f19_ann : Nat → Option LAnn := fun _key => none
noncomputable def f19_lrc {R : Type} (_g_f56_2 : Nat → f56_2_T R) (_g_f55 : Nat → f55_T R) (_k : Nat) : Lrc D R := noLrc
theorem f19_e {R : Type} (g_f56_2 : Nat → f56_2_T R) (g_f55 : Nat → f55_T R) (k : Nat) (x : f19_X) (y : f19_Y) (K : KR R) : f19_s g_f56_2 g_f55 k x.1 (fun z0 z1 z2 => K ⟨.tup [.own 0, .int .i64 z0, .int .i64 z1], [some (.row (.named 2) z2 true)]⟩) = exec cx (f19_o g_f56_2 g_f55 k) (f19_lrc g_f56_2 g_f55 k) f19_ann kp 26 0 f19_b (entry (gives (D := D) [.list (.int .u8)] x) (giveOs (D := D) [] y)) (fin cx Try.f19.results.toList [(.tmp 2, .own 1099511627776 (.named 2))] 0 K) := by kernel_rfl
noncomputable def f19 {R : Type} (k : Nat) (a0 : List Int) (K : Int → Int → List D2 → Option R) : Option R := f19_s (f56_2 (R := R)) (f55 (R := R)) k a0 K
theorem f19_ok {R : Type} (k : Nat) {e : Dr D R} (he : FnOk Try.prog cx 19 e) : FnOk Try.prog cx 19 (f19_d (f19 k) e) :=
  he.door fun x y => body_ok (keep := kp) (ann := f19_ann) (lrc := f19_lrc (R := R) (f56_2 (R := R)) (f55 (R := R)) k) (N := 26) (n0 := 0) (c := [(.tmp 2, .own 1099511627776 (.named 2))]) cxOk mixed (f19_o_ok k) (body := f19_b) (by kernel_rfl : Try.prog.funcs[19]? = some Try.f19) (by kernel_rfl) (by kernel_rfl) (by kernel_rfl) (by kernel_rfl) (of_decide_eq_true (by kernel_rfl)) (L := []) (by kernel_rfl) trivial (J := []) (by kernel_rfl) trivial (LrcNat.no) (fun K => f19_e (f56_2 (R := R)) (f55 (R := R)) k x y K)

abbrev f18_T (R : Type) : Type := (Bool → Option R) → Option R
abbrev f18_X : Type := (Unit)
abbrev f18_Y : Type := (Unit)
/-! ## 18: diorama/dioramalaw04.awake -/
noncomputable def f18_s {R : Type} (g_f15 : Nat → f15_T R) (g_f19 : Nat → f19_T R) (k : Nat) (K : Bool → Option R) : Option R :=
  g_f19 k ([28, 1, 17, 173, 134, 162, 129, 1, 236, 129, 0]) (fun _v1 v2 v3 =>
    g_f15 k 3 (fun v4 v5 =>
      bif (v2 == 0) then
        bif ((v3.length : Int) == 1) then
          bif inb 0 v3.length then
            bif (((D2.c2 (v3.getD 0 zero2)).length : Int) == 1) then
              bif inb 0 v3.length then
                bif inb 0 ((D2.c2 (v3.getD 0 zero2)).length) then
                  bif ((D2.c0 ((D2.c2 (v3.getD 0 zero2)).getD 0 zero2)) == 162) then
                    bif (v4 == 0) then
                      bif ((v5.length : Int) == 3) then
                        bif inb 0 v5.length then
                          K ((v5.getD 0 0) == 236)
                        else
                          none
                      else
                        K false
                    else
                      K false
                  else
                    K false
                else
                  none
              else
                none
            else
              K false
          else
            none
        else
          K false
      else
        K false))
noncomputable def f18_d {R : Type} (g : f18_T R) (e : Dr D R) : Dr D R := door [] [] (fun (_x : f18_X) (_y : f18_Y) K => g (fun z0 => K ⟨.bool z0, []⟩)) e
noncomputable def f18_o {R : Type} (g_f15 : Nat → f15_T R) (g_f19 : Nat → f19_T R) (k : Nat) : Orc D R := (orcAdd 19 (f19_d (g_f19 k) noDr) (orcAdd 15 (f15_d (g_f15 k) noDr) noOrc))
theorem f18_o_ok {R : Type} (k : Nat) : OrcOk Try.prog cx (f18_o (R := R) (f15 (R := R)) (f19 (R := R)) k) := (OrcOk.add (f19_ok k FnOk.no) (OrcOk.add (f15_ok k FnOk.no) OrcOk.no))
noncomputable def f18_b : Code := bodyOf Try.f18
noncomputable def f18_ann : Nat → Option LAnn := fun _key => none
noncomputable def f18_lrc {R : Type} (_g_f15 : Nat → f15_T R) (_g_f19 : Nat → f19_T R) (_k : Nat) : Lrc D R := noLrc
theorem f18_e {R : Type} (g_f15 : Nat → f15_T R) (g_f19 : Nat → f19_T R) (k : Nat) (x : f18_X) (y : f18_Y) (K : KR R) : f18_s g_f15 g_f19 k  (fun z0 => K ⟨.bool z0, []⟩) = exec cx (f18_o g_f15 g_f19 k) (f18_lrc g_f15 g_f19 k) f18_ann kp 56 0 f18_b (entry (gives (D := D) [] x) (giveOs (D := D) [] y)) (fin cx Try.f18.results.toList [] 0 K) := by kernel_rfl
noncomputable def f18 {R : Type} (k : Nat) (K : Bool → Option R) : Option R := f18_s (f15 (R := R)) (f19 (R := R)) k K
theorem f18_ok {R : Type} (k : Nat) {e : Dr D R} (he : FnOk Try.prog cx 18 e) : FnOk Try.prog cx 18 (f18_d (f18 k) e) :=
  he.door fun x y => body_ok (keep := kp) (ann := f18_ann) (lrc := f18_lrc (R := R) (f15 (R := R)) (f19 (R := R)) k) (N := 56) (n0 := 0) (c := []) cxOk mixed (f18_o_ok k) (body := f18_b) (by kernel_rfl : Try.prog.funcs[18]? = some Try.f18) (by kernel_rfl) (by kernel_rfl) (by kernel_rfl) (by kernel_rfl) (of_decide_eq_true (by kernel_rfl)) (L := []) (by kernel_rfl) trivial (J := []) (by kernel_rfl) trivial (LrcNat.no) (fun K => f18_e (f15 (R := R)) (f19 (R := R)) k x y K)

abbrev f3_T (R : Type) : Type := Int → (Bool → Option R) → Option R
abbrev f3_X : Type := (Int × Unit)
abbrev f3_Y : Type := (Unit)
/-! ## 3: diorama/dioramalaw04.ElementPads -/
noncomputable def f3_s {R : Type} (g_f15 : Nat → f15_T R) (g_f16 : Nat → f16_T R) (g_f17 : Nat → f17_T R) (g_f18 : Nat → f18_T R) (k : Nat) (a0 : Int) (K : Bool → Option R) : Option R :=
  g_f15 k a0 (fun v1 v2 =>
    g_f16 k a0 (fun v3 v4 =>
      g_f17 k v2 v4 (fun v5 =>
        bif v5 then
          bif (v1 == v3) then
            bif (v1 != 0) then
              g_f18 k (fun v6 =>
                K v6)
            else
              bif ((v2.length : Int) == a0) then
                g_f18 k (fun v7 =>
                  K v7)
              else
                K false
          else
            K false
        else
          K false)))
noncomputable def f3_d {R : Type} (g : f3_T R) (e : Dr D R) : Dr D R := door [.int .i64] [] (fun (x : f3_X) (_y : f3_Y) K => g x.1 (fun z0 => K ⟨.bool z0, []⟩)) e
noncomputable def f3_o {R : Type} (g_f15 : Nat → f15_T R) (g_f16 : Nat → f16_T R) (g_f17 : Nat → f17_T R) (g_f18 : Nat → f18_T R) (k : Nat) : Orc D R := (orcAdd 18 (f18_d (g_f18 k) noDr) (orcAdd 17 (f17_d (g_f17 k) noDr) (orcAdd 16 (f16_d (g_f16 k) noDr) (orcAdd 15 (f15_d (g_f15 k) noDr) noOrc))))
theorem f3_o_ok {R : Type} (k : Nat) : OrcOk Try.prog cx (f3_o (R := R) (f15 (R := R)) (f16 (R := R)) (f17 (R := R)) (f18 (R := R)) k) := (OrcOk.add (f18_ok k FnOk.no) (OrcOk.add (f17_ok k FnOk.no) (OrcOk.add (f16_ok k FnOk.no) (OrcOk.add (f15_ok k FnOk.no) OrcOk.no))))
noncomputable def f3_b : Code := bodyOf Try.f3
noncomputable def f3_ann : Nat → Option LAnn := fun _key => none
noncomputable def f3_lrc {R : Type} (_g_f15 : Nat → f15_T R) (_g_f16 : Nat → f16_T R) (_g_f17 : Nat → f17_T R) (_g_f18 : Nat → f18_T R) (_k : Nat) : Lrc D R := noLrc
theorem f3_e {R : Type} (g_f15 : Nat → f15_T R) (g_f16 : Nat → f16_T R) (g_f17 : Nat → f17_T R) (g_f18 : Nat → f18_T R) (k : Nat) (x : f3_X) (y : f3_Y) (K : KR R) : f3_s g_f15 g_f16 g_f17 g_f18 k x.1 (fun z0 => K ⟨.bool z0, []⟩) = exec cx (f3_o g_f15 g_f16 g_f17 g_f18 k) (f3_lrc g_f15 g_f16 g_f17 g_f18 k) f3_ann kp 38 0 f3_b (entry (gives (D := D) [.int .i64] x) (giveOs (D := D) [] y)) (fin cx Try.f3.results.toList [] 0 K) := by kernel_rfl
noncomputable def f3 {R : Type} (k : Nat) (a0 : Int) (K : Bool → Option R) : Option R := f3_s (f15 (R := R)) (f16 (R := R)) (f17 (R := R)) (f18 (R := R)) k a0 K
theorem f3_ok {R : Type} (k : Nat) {e : Dr D R} (he : FnOk Try.prog cx 3 e) : FnOk Try.prog cx 3 (f3_d (f3 k) e) :=
  he.door fun x y => body_ok (keep := kp) (ann := f3_ann) (lrc := f3_lrc (R := R) (f15 (R := R)) (f16 (R := R)) (f17 (R := R)) (f18 (R := R)) k) (N := 38) (n0 := 0) (c := []) cxOk mixed (f3_o_ok k) (body := f3_b) (by kernel_rfl : Try.prog.funcs[3]? = some Try.f3) (by kernel_rfl) (by kernel_rfl) (by kernel_rfl) (by kernel_rfl) (of_decide_eq_true (by kernel_rfl)) (L := []) (by kernel_rfl) trivial (J := []) (by kernel_rfl) trivial (LrcNat.no) (fun K => f3_e (f15 (R := R)) (f16 (R := R)) (f17 (R := R)) (f18 (R := R)) k x y K)

abbrev f65_T (R : Type) : Type := Int → (Int → Option R) → Option R
abbrev f65_X : Type := (Int × Unit)
abbrev f65_Y : Type := (Unit)
/-! ## 65: diorama/dioramaref04.length -/
abbrev f65_l2_X : Type := (Int × Int × Int × Unit)
abbrev f65_l2_Y : Type := (Unit)
noncomputable def f65_l2 {R : Type} : Nat → Int → Int → Int → (Int → Option R) → Option R
  | 0, _, _, _, _ => none
  | k + 1, v1, v2, v3, X0 =>
    bif decide (v2 ≤ 4) then
      bif decide ((IntKind.i64.wrap (v1)) < v3) then
        f65_l2 k v1 (IntKind.i64.wrap (v2 + 1)) (IntKind.i64.wrap (v3.tdiv 2)) X0
      else
        X0 v2
    else
      X0 v2
noncomputable def f65_s {R : Type} (k : Nat) (a0 : Int) (K : Int → Option R) : Option R :=
  f65_l2 k a0 1 128 (fun v4 =>
    bif decide (v4 > 4) then
      K 0
    else
      K v4)
noncomputable def f65_d {R : Type} (g : f65_T R) (e : Dr D R) : Dr D R := door [.int .u8] [] (fun (x : f65_X) (_y : f65_Y) K => g x.1 (fun z0 => K ⟨.int .i64 z0, []⟩)) e
noncomputable def f65_o {R : Type} (_k : Nat) : Orc D R := noOrc
theorem f65_o_ok {R : Type} (k : Nat) : OrcOk Try.prog cx (f65_o (R := R) k) := OrcOk.no
noncomputable def f65_b : Code := bodyOf Try.f65
noncomputable def f65_l2_a : LAnn := ⟨⟨[], [0, 3, 4], []⟩, exOf (none) [(0, ⟨[], [3], []⟩)]⟩
noncomputable def f65_ann : Nat → Option LAnn := fun key => bif Nat.beq key 2 then some f65_l2_a else none
noncomputable def f65_l2_b : Code := loopAt f65_b 0
noncomputable def f65_l2_g {R : Type} (k : Nat) (x : f65_l2_X) (_y : f65_l2_Y) (K : KX R) : Option R := f65_l2 k x.1 x.2.1 x.2.2.1 (fun z0 => K (.exit 0) [.int .i64 z0] [])
noncomputable def f65_l2_d {R : Type} (k : Nat) : Lr D R := ldoor [.int .u8, .int .i64, .int .i64] [] (f65_l2_g k)
noncomputable def f65_l2_lrc {R : Type} (_k : Nat) : Lrc D R := noLrc
theorem f65_l2_e {R : Type} (k : Nat) (x : f65_l2_X) (y : f65_l2_Y) (K : KX R) : f65_l2_g (k + 1) x y K = round cx (f65_o k) (f65_l2_lrc k) f65_ann kp 20 0 f65_l2_a f65_l2_b (gives (D := D) [.int .u8, .int .i64, .int .i64] x) (giveGs (D := D) [] y) (fun vs os => f65_l2_d k vs os K) K := by kernel_rfl
theorem f65_l2_d_ok {R : Type} : ∀ k, LoopOk Try.prog cx 20 0 f65_ann (f65_l2_d (R := R) k) f65_l2_b :=
  loop_ok (keep := kp) (lrc := f65_l2_lrc (R := R)) cxOk mixed (f65_o_ok) (show f65_ann (Am.keyOf f65_l2_b) = some f65_l2_a by kernel_rfl) (L := []) (by kernel_rfl) (fun _k => trivial) (J := []) (by kernel_rfl) (fun _k => trivial) (fun _k => LrcNat.no) (fun _x _y _K => by kernel_rfl) (f65_l2_e)
noncomputable def f65_lrc {R : Type} (k : Nat) : Lrc D R := (lrcAdd 2 (f65_l2_d k) noLrc)
theorem f65_e {R : Type} (k : Nat) (x : f65_X) (y : f65_Y) (K : KR R) : f65_s k x.1 (fun z0 => K ⟨.int .i64 z0, []⟩) = exec cx (f65_o k) (f65_lrc k) f65_ann kp 20 0 f65_b (entry (gives (D := D) [.int .u8] x) (giveOs (D := D) [] y)) (fin cx Try.f65.results.toList [] 0 K) := by kernel_rfl
noncomputable def f65 {R : Type} (k : Nat) (a0 : Int) (K : Int → Option R) : Option R := f65_s k a0 K
theorem f65_ok {R : Type} (k : Nat) {e : Dr D R} (he : FnOk Try.prog cx 65 e) : FnOk Try.prog cx 65 (f65_d (f65 k) e) :=
  he.door fun x y => body_ok (keep := kp) (ann := f65_ann) (lrc := f65_lrc (R := R) k) (N := 20) (n0 := 0) (c := []) cxOk mixed (f65_o_ok k) (body := f65_b) (by kernel_rfl : Try.prog.funcs[65]? = some Try.f65) (by kernel_rfl) (by kernel_rfl) (by kernel_rfl) (by kernel_rfl) (of_decide_eq_true (by kernel_rfl)) (L := [f65_l2_b]) (by kernel_rfl) (⟨(f65_l2_d_ok k).use (by kernel_rfl), trivial⟩) (J := []) (by kernel_rfl) trivial ((LrcNat.add (f65_l2_d_ok k).2 LrcNat.no)) (fun K => f65_e k x y K)

abbrev f62_T (R : Type) : Type := Int → Int → (Bool → Option R) → Option R
abbrev f62_X : Type := (Int × Int × Unit)
abbrev f62_Y : Type := (Unit)
/-! ## 62: diorama/dioramaref04.isId -/
abbrev f62_l3_X : Type := (Int × Int × Int × Int × Unit)
abbrev f62_l3_Y : Type := (Unit)
noncomputable def f62_l3 {R : Type} : Nat → Int → Int → Int → Int → (Int → Int → Option R) → Option R
  | 0, _, _, _, _, _ => none
  | k + 1, v1, v2, v3, v4, X0 =>
    bif decide (v4 < v2) then
      f62_l3 k v1 v2 (IntKind.i64.wrap (v3 * 128)) (IntKind.i64.wrap (v4 + 1)) X0
    else
      X0 v1 v3
noncomputable def f62_s {R : Type} (k : Nat) (a0 : Int) (a1 : Int) (K : Bool → Option R) : Option R :=
  f62_l3 k a0 a1 1 0 (fun v5 v6 =>
    bif decide (v5 > v6) then
      K (decide (v5 < (IntKind.i64.wrap ((IntKind.i64.wrap (2 * v6)) - 1))))
    else
      K false)
noncomputable def f62_d {R : Type} (g : f62_T R) (e : Dr D R) : Dr D R := door [.int .i64, .int .i64] [] (fun (x : f62_X) (_y : f62_Y) K => g x.1 x.2.1 (fun z0 => K ⟨.bool z0, []⟩)) e
noncomputable def f62_o {R : Type} (_k : Nat) : Orc D R := noOrc
theorem f62_o_ok {R : Type} (k : Nat) : OrcOk Try.prog cx (f62_o (R := R) k) := OrcOk.no
noncomputable def f62_b : Code := bodyOf Try.f62
noncomputable def f62_l3_a : LAnn := ⟨⟨[], [0, 1, 5, 6], []⟩, exOf (none) [(0, ⟨[], [0, 5], []⟩)]⟩
noncomputable def f62_ann : Nat → Option LAnn := fun key => bif Nat.beq key 3 then some f62_l3_a else none
noncomputable def f62_l3_b : Code := loopAt f62_b 0
noncomputable def f62_l3_g {R : Type} (k : Nat) (x : f62_l3_X) (_y : f62_l3_Y) (K : KX R) : Option R := f62_l3 k x.1 x.2.1 x.2.2.1 x.2.2.2.1 (fun z0 z1 => K (.exit 0) [.int .i64 z0, .int .i64 z1] [])
noncomputable def f62_l3_d {R : Type} (k : Nat) : Lr D R := ldoor [.int .i64, .int .i64, .int .i64, .int .i64] [] (f62_l3_g k)
noncomputable def f62_l3_lrc {R : Type} (_k : Nat) : Lrc D R := noLrc
theorem f62_l3_e {R : Type} (k : Nat) (x : f62_l3_X) (y : f62_l3_Y) (K : KX R) : f62_l3_g (k + 1) x y K = round cx (f62_o k) (f62_l3_lrc k) f62_ann kp 24 0 f62_l3_a f62_l3_b (gives (D := D) [.int .i64, .int .i64, .int .i64, .int .i64] x) (giveGs (D := D) [] y) (fun vs os => f62_l3_d k vs os K) K := by kernel_rfl
theorem f62_l3_d_ok {R : Type} : ∀ k, LoopOk Try.prog cx 24 0 f62_ann (f62_l3_d (R := R) k) f62_l3_b :=
  loop_ok (keep := kp) (lrc := f62_l3_lrc (R := R)) cxOk mixed (f62_o_ok) (show f62_ann (Am.keyOf f62_l3_b) = some f62_l3_a by kernel_rfl) (L := []) (by kernel_rfl) (fun _k => trivial) (J := []) (by kernel_rfl) (fun _k => trivial) (fun _k => LrcNat.no) (fun _x _y _K => by kernel_rfl) (f62_l3_e)
noncomputable def f62_lrc {R : Type} (k : Nat) : Lrc D R := (lrcAdd 3 (f62_l3_d k) noLrc)
theorem f62_e {R : Type} (k : Nat) (x : f62_X) (y : f62_Y) (K : KR R) : f62_s k x.1 x.2.1 (fun z0 => K ⟨.bool z0, []⟩) = exec cx (f62_o k) (f62_lrc k) f62_ann kp 24 0 f62_b (entry (gives (D := D) [.int .i64, .int .i64] x) (giveOs (D := D) [] y)) (fin cx Try.f62.results.toList [] 0 K) := by kernel_rfl
noncomputable def f62 {R : Type} (k : Nat) (a0 : Int) (a1 : Int) (K : Bool → Option R) : Option R := f62_s k a0 a1 K
theorem f62_ok {R : Type} (k : Nat) {e : Dr D R} (he : FnOk Try.prog cx 62 e) : FnOk Try.prog cx 62 (f62_d (f62 k) e) :=
  he.door fun x y => body_ok (keep := kp) (ann := f62_ann) (lrc := f62_lrc (R := R) k) (N := 24) (n0 := 0) (c := []) cxOk mixed (f62_o_ok k) (body := f62_b) (by kernel_rfl : Try.prog.funcs[62]? = some Try.f62) (by kernel_rfl) (by kernel_rfl) (by kernel_rfl) (by kernel_rfl) (of_decide_eq_true (by kernel_rfl)) (L := [f62_l3_b]) (by kernel_rfl) (⟨(f62_l3_d_ok k).use (by kernel_rfl), trivial⟩) (J := []) (by kernel_rfl) trivial ((LrcNat.add (f62_l3_d_ok k).2 LrcNat.no)) (fun K => f62_e k x y K)

abbrev f30_T (R : Type) : Type := List Int → Int → (Int → Int → Int → Option R) → Option R
abbrev f30_X : Type := (List Int × Int × Unit)
abbrev f30_Y : Type := (Unit)
/-! ## 30: diorama/dioramaref04.Id -/
abbrev f30_l12_X : Type := (List Int × Int × Int × Int × Int × Unit)
abbrev f30_l12_Y : Type := (Unit)
noncomputable def f30_l12 {R : Type} (g_f65 : Nat → f65_T R) (g_f62 : Nat → f62_T R) : Nat → List Int → Int → Int → Int → Int → (Int → Int → Option R) → Option R
  | 0, _, _, _, _, _, _ => none
  | k + 1, v2, v3, v4, v5, v6, X0 =>
    bif decide (v6 < v4) then
      bif inb (IntKind.i64.wrap (v3 + v6)) v2.length then
        f30_l12 g_f65 g_f62 k v2 v3 v4 (IntKind.i64.wrap ((IntKind.i64.wrap (v5 * 256)) + (IntKind.i64.wrap ((v2.getD ((IntKind.i64.wrap (v3 + v6)).toNat) 0))))) (IntKind.i64.wrap (v6 + 1)) X0
      else
        none
    else
      X0 v4 v5
noncomputable def f30_s {R : Type} (g_f65 : Nat → f65_T R) (g_f62 : Nat → f62_T R) (k : Nat) (a0 : List Int) (a1 : Int) (K : Int → Int → Int → Option R) : Option R :=
  bif decide (a1 < 0) then
    K 0 0 1
  else
    bif decide (a1 ≥ (a0.length : Int)) then
      K 0 0 3
    else
      bif inb a1 a0.length then
        g_f65 k (a0.getD a1.toNat 0) (fun v1 =>
          bif (v1 == 0) then
            K 0 0 40
          else
            bif decide (v1 > (IntKind.i64.wrap ((a0.length : Int) - a1))) then
              K 0 0 3
            else
              f30_l12 g_f65 g_f62 k a0 a1 v1 0 0 (fun v7 v8 =>
                g_f62 k v8 v7 (fun v9 =>
                  bif (!v9) then
                    K 0 0 40
                  else
                    K v8 v7 0)))
      else
        none
noncomputable def f30_d {R : Type} (g : f30_T R) (e : Dr D R) : Dr D R := door [.list (.int .u8), .int .i64] [] (fun (x : f30_X) (_y : f30_Y) K => g x.1 x.2.1 (fun z0 z1 z2 => K ⟨.tup [.int .i64 z0, .int .i64 z1, .int .i64 z2], []⟩)) e
noncomputable def f30_o {R : Type} (g_f65 : Nat → f65_T R) (g_f62 : Nat → f62_T R) (k : Nat) : Orc D R := (orcAdd 62 (f62_d (g_f62 k) noDr) (orcAdd 65 (f65_d (g_f65 k) noDr) noOrc))
theorem f30_o_ok {R : Type} (k : Nat) : OrcOk Try.prog cx (f30_o (R := R) (f65 (R := R)) (f62 (R := R)) k) := (OrcOk.add (f62_ok k FnOk.no) (OrcOk.add (f65_ok k FnOk.no) OrcOk.no))
noncomputable def f30_b : Code := bodyOf Try.f30
noncomputable def f30_l12_a : LAnn := ⟨⟨[], [0, 1, 7, 8, 9], []⟩, exOf (none) [(0, ⟨[], [7, 8], []⟩)]⟩
noncomputable def f30_ann : Nat → Option LAnn := fun key => bif Nat.beq key 12 then some f30_l12_a else none
noncomputable def f30_l12_b : Code := loopAt f30_b 0
noncomputable def f30_l12_g {R : Type} (g_f65 : Nat → f65_T R) (g_f62 : Nat → f62_T R) (k : Nat) (x : f30_l12_X) (_y : f30_l12_Y) (K : KX R) : Option R := f30_l12 g_f65 g_f62 k x.1 x.2.1 x.2.2.1 x.2.2.2.1 x.2.2.2.2.1 (fun z0 z1 => K (.exit 0) [.int .i64 z0, .int .i64 z1] [])
noncomputable def f30_l12_d {R : Type} (g_f65 : Nat → f65_T R) (g_f62 : Nat → f62_T R) (k : Nat) : Lr D R := ldoor [.list (.int .u8), .int .i64, .int .i64, .int .i64, .int .i64] [] (f30_l12_g g_f65 g_f62 k)
noncomputable def f30_l12_lrc {R : Type} (_g_f65 : Nat → f65_T R) (_g_f62 : Nat → f62_T R) (_k : Nat) : Lrc D R := noLrc
theorem f30_l12_e {R : Type} (g_f65 : Nat → f65_T R) (g_f62 : Nat → f62_T R) (k : Nat) (x : f30_l12_X) (y : f30_l12_Y) (K : KX R) : f30_l12_g g_f65 g_f62 (k + 1) x y K = round cx (f30_o g_f65 g_f62 k) (f30_l12_lrc g_f65 g_f62 k) f30_ann kp 50 0 f30_l12_a f30_l12_b (gives (D := D) [.list (.int .u8), .int .i64, .int .i64, .int .i64, .int .i64] x) (giveGs (D := D) [] y) (fun vs os => f30_l12_d g_f65 g_f62 k vs os K) K := by kernel_rfl
theorem f30_l12_d_ok {R : Type} : ∀ k, LoopOk Try.prog cx 50 0 f30_ann (f30_l12_d (R := R) (f65 (R := R)) (f62 (R := R)) k) f30_l12_b :=
  loop_ok (keep := kp) (lrc := f30_l12_lrc (R := R) (f65 (R := R)) (f62 (R := R))) cxOk mixed (f30_o_ok) (show f30_ann (Am.keyOf f30_l12_b) = some f30_l12_a by kernel_rfl) (L := []) (by kernel_rfl) (fun _k => trivial) (J := []) (by kernel_rfl) (fun _k => trivial) (fun _k => LrcNat.no) (fun _x _y _K => by kernel_rfl) (f30_l12_e (f65 (R := R)) (f62 (R := R)))
noncomputable def f30_lrc {R : Type} (g_f65 : Nat → f65_T R) (g_f62 : Nat → f62_T R) (k : Nat) : Lrc D R := (lrcAdd 12 (f30_l12_d g_f65 g_f62 k) noLrc)
theorem f30_e {R : Type} (g_f65 : Nat → f65_T R) (g_f62 : Nat → f62_T R) (k : Nat) (x : f30_X) (y : f30_Y) (K : KR R) : f30_s g_f65 g_f62 k x.1 x.2.1 (fun z0 z1 z2 => K ⟨.tup [.int .i64 z0, .int .i64 z1, .int .i64 z2], []⟩) = exec cx (f30_o g_f65 g_f62 k) (f30_lrc g_f65 g_f62 k) f30_ann kp 50 0 f30_b (entry (gives (D := D) [.list (.int .u8), .int .i64] x) (giveOs (D := D) [] y)) (fin cx Try.f30.results.toList [] 0 K) := by kernel_rfl
noncomputable def f30 {R : Type} (k : Nat) (a0 : List Int) (a1 : Int) (K : Int → Int → Int → Option R) : Option R := f30_s (f65 (R := R)) (f62 (R := R)) k a0 a1 K
theorem f30_ok {R : Type} (k : Nat) {e : Dr D R} (he : FnOk Try.prog cx 30 e) : FnOk Try.prog cx 30 (f30_d (f30 k) e) :=
  he.door fun x y => body_ok (keep := kp) (ann := f30_ann) (lrc := f30_lrc (R := R) (f65 (R := R)) (f62 (R := R)) k) (N := 50) (n0 := 0) (c := []) cxOk mixed (f30_o_ok k) (body := f30_b) (by kernel_rfl : Try.prog.funcs[30]? = some Try.f30) (by kernel_rfl) (by kernel_rfl) (by kernel_rfl) (by kernel_rfl) (of_decide_eq_true (by kernel_rfl)) (L := [f30_l12_b]) (by kernel_rfl) (⟨(f30_l12_d_ok k).use (by kernel_rfl), trivial⟩) (J := []) (by kernel_rfl) trivial ((LrcNat.add (f30_l12_d_ok k).2 LrcNat.no)) (fun K => f30_e (f65 (R := R)) (f62 (R := R)) k x y K)

abbrev f29_T (R : Type) : Type := List Int → Int → (Int → Int → Int → Option R) → Option R
abbrev f29_X : Type := (List Int × Int × Unit)
abbrev f29_Y : Type := (Unit)
/-! ## 29: diorama/element.Id -/
noncomputable def f29_s {R : Type} (g_f63 : Nat → f63_T R) (g_f64 : Nat → f64_T R) (g_f60 : Nat → f60_T R) (k : Nat) (a0 : List Int) (a1 : Int) (K : Int → Int → Int → Option R) : Option R :=
  bif decide (a1 < 0) then
    K 0 0 1
  else
    bif decide (a1 ≥ (a0.length : Int)) then
      K 0 0 3
    else
      bif inb a1 a0.length then
        g_f63 k (a0.getD a1.toNat 0) (fun v1 =>
          bif (v1 == 0) then
            K 0 0 40
          else
            g_f64 k a0 a1 v1 (fun v2 v3 =>
              bif (v3 != 0) then
                K 0 0 3
              else
                g_f60 k v2 v1 (fun v4 =>
                  bif (!v4) then
                    K 0 0 40
                  else
                    K v2 v1 0)))
      else
        none
noncomputable def f29_d {R : Type} (g : f29_T R) (e : Dr D R) : Dr D R := door [.list (.int .u8), .int .i64] [] (fun (x : f29_X) (_y : f29_Y) K => g x.1 x.2.1 (fun z0 z1 z2 => K ⟨.tup [.int .i64 z0, .int .i64 z1, .int .i64 z2], []⟩)) e
noncomputable def f29_o {R : Type} (g_f63 : Nat → f63_T R) (g_f64 : Nat → f64_T R) (g_f60 : Nat → f60_T R) (k : Nat) : Orc D R := (orcAdd 60 (f60_d (g_f60 k) noDr) (orcAdd 64 (f64_d (g_f64 k) noDr) (orcAdd 63 (f63_d (g_f63 k) noDr) noOrc)))
theorem f29_o_ok {R : Type} (k : Nat) : OrcOk Try.prog cx (f29_o (R := R) (f63 (R := R)) (f64 (R := R)) (f60 (R := R)) k) := (OrcOk.add (f60_ok k FnOk.no) (OrcOk.add (f64_ok k FnOk.no) (OrcOk.add (f63_ok k FnOk.no) OrcOk.no)))
noncomputable def f29_b : Code := bodyOf Try.f29
noncomputable def f29_ann : Nat → Option LAnn := fun _key => none
noncomputable def f29_lrc {R : Type} (_g_f63 : Nat → f63_T R) (_g_f64 : Nat → f64_T R) (_g_f60 : Nat → f60_T R) (_k : Nat) : Lrc D R := noLrc
theorem f29_e {R : Type} (g_f63 : Nat → f63_T R) (g_f64 : Nat → f64_T R) (g_f60 : Nat → f60_T R) (k : Nat) (x : f29_X) (y : f29_Y) (K : KR R) : f29_s g_f63 g_f64 g_f60 k x.1 x.2.1 (fun z0 z1 z2 => K ⟨.tup [.int .i64 z0, .int .i64 z1, .int .i64 z2], []⟩) = exec cx (f29_o g_f63 g_f64 g_f60 k) (f29_lrc g_f63 g_f64 g_f60 k) f29_ann kp 38 0 f29_b (entry (gives (D := D) [.list (.int .u8), .int .i64] x) (giveOs (D := D) [] y)) (fin cx Try.f29.results.toList [] 0 K) := by kernel_rfl
noncomputable def f29 {R : Type} (k : Nat) (a0 : List Int) (a1 : Int) (K : Int → Int → Int → Option R) : Option R := f29_s (f63 (R := R)) (f64 (R := R)) (f60 (R := R)) k a0 a1 K
theorem f29_ok {R : Type} (k : Nat) {e : Dr D R} (he : FnOk Try.prog cx 29 e) : FnOk Try.prog cx 29 (f29_d (f29 k) e) :=
  he.door fun x y => body_ok (keep := kp) (ann := f29_ann) (lrc := f29_lrc (R := R) (f63 (R := R)) (f64 (R := R)) (f60 (R := R)) k) (N := 38) (n0 := 0) (c := []) cxOk mixed (f29_o_ok k) (body := f29_b) (by kernel_rfl : Try.prog.funcs[29]? = some Try.f29) (by kernel_rfl) (by kernel_rfl) (by kernel_rfl) (by kernel_rfl) (of_decide_eq_true (by kernel_rfl)) (L := []) (by kernel_rfl) trivial (J := []) (by kernel_rfl) trivial (LrcNat.no) (fun K => f29_e (f63 (R := R)) (f64 (R := R)) (f60 (R := R)) k x y K)

abbrev f7_T (R : Type) : Type := List Int → Int → (Bool → Option R) → Option R
abbrev f7_X : Type := (List Int × Int × Unit)
abbrev f7_Y : Type := (Unit)
/-! ## 7: diorama/dioramalaw04.ElementIds -/
noncomputable def f7_s {R : Type} (g_f18 : Nat → f18_T R) (g_f30 : Nat → f30_T R) (g_f29 : Nat → f29_T R) (k : Nat) (a0 : List Int) (a1 : Int) (K : Bool → Option R) : Option R :=
  g_f29 k a0 a1 (fun v1 v2 v3 =>
    g_f30 k a0 a1 (fun v4 v5 v6 =>
      bif (v1 == v4) then
        bif (v2 == v5) then
          bif (v3 == v6) then
            g_f18 k (fun v7 =>
              K v7)
          else
            K false
        else
          K false
      else
        K false))
noncomputable def f7_d {R : Type} (g : f7_T R) (e : Dr D R) : Dr D R := door [.list (.int .u8), .int .i64] [] (fun (x : f7_X) (_y : f7_Y) K => g x.1 x.2.1 (fun z0 => K ⟨.bool z0, []⟩)) e
noncomputable def f7_o {R : Type} (g_f18 : Nat → f18_T R) (g_f30 : Nat → f30_T R) (g_f29 : Nat → f29_T R) (k : Nat) : Orc D R := (orcAdd 29 (f29_d (g_f29 k) noDr) (orcAdd 30 (f30_d (g_f30 k) noDr) (orcAdd 18 (f18_d (g_f18 k) noDr) noOrc)))
theorem f7_o_ok {R : Type} (k : Nat) : OrcOk Try.prog cx (f7_o (R := R) (f18 (R := R)) (f30 (R := R)) (f29 (R := R)) k) := (OrcOk.add (f29_ok k FnOk.no) (OrcOk.add (f30_ok k FnOk.no) (OrcOk.add (f18_ok k FnOk.no) OrcOk.no)))
noncomputable def f7_b : Code := bodyOf Try.f7
noncomputable def f7_ann : Nat → Option LAnn := fun _key => none
noncomputable def f7_lrc {R : Type} (_g_f18 : Nat → f18_T R) (_g_f30 : Nat → f30_T R) (_g_f29 : Nat → f29_T R) (_k : Nat) : Lrc D R := noLrc
theorem f7_e {R : Type} (g_f18 : Nat → f18_T R) (g_f30 : Nat → f30_T R) (g_f29 : Nat → f29_T R) (k : Nat) (x : f7_X) (y : f7_Y) (K : KR R) : f7_s g_f18 g_f30 g_f29 k x.1 x.2.1 (fun z0 => K ⟨.bool z0, []⟩) = exec cx (f7_o g_f18 g_f30 g_f29 k) (f7_lrc g_f18 g_f30 g_f29 k) f7_ann kp 41 0 f7_b (entry (gives (D := D) [.list (.int .u8), .int .i64] x) (giveOs (D := D) [] y)) (fin cx Try.f7.results.toList [] 0 K) := by kernel_rfl
noncomputable def f7 {R : Type} (k : Nat) (a0 : List Int) (a1 : Int) (K : Bool → Option R) : Option R := f7_s (f18 (R := R)) (f30 (R := R)) (f29 (R := R)) k a0 a1 K
theorem f7_ok {R : Type} (k : Nat) {e : Dr D R} (he : FnOk Try.prog cx 7 e) : FnOk Try.prog cx 7 (f7_d (f7 k) e) :=
  he.door fun x y => body_ok (keep := kp) (ann := f7_ann) (lrc := f7_lrc (R := R) (f18 (R := R)) (f30 (R := R)) (f29 (R := R)) k) (N := 41) (n0 := 0) (c := []) cxOk mixed (f7_o_ok k) (body := f7_b) (by kernel_rfl : Try.prog.funcs[7]? = some Try.f7) (by kernel_rfl) (by kernel_rfl) (by kernel_rfl) (by kernel_rfl) (of_decide_eq_true (by kernel_rfl)) (L := []) (by kernel_rfl) trivial (J := []) (by kernel_rfl) trivial (LrcNat.no) (fun K => f7_e (f18 (R := R)) (f30 (R := R)) (f29 (R := R)) k x y K)


end Go.Proofs.Ytklhjegfkpmdoaa
