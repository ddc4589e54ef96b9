/- The walk of arboretumlaw18.LogPlays, part 2: what is left of it is the first part of front2. -/
import Derived.Test.YtmdidmllaldbaaaGreatLogPlaysW1
namespace Go.Proofs.YtmdidmllaldbaaaGreat
open Go.RowKit
set_option linter.unusedVariables false
set_option linter.unusedSimpArgs false
set_option maxRecDepth 100000 in
set_option maxHeartbeats 32000000 in
noncomputable def front2 : Σ' R : Prop, Later R → front1.1 := by
  apply PSigma.mk
  case snd =>
    intro hR
    intros w base term ao1 n1 c1 zero ao2 n2 c2 l1 l2 hb1 ht1 HE HO hnn hmm za1 w1 h120 HLt h60 hd60 hd60' w2 za2 HSm hd0 hd1 hll hbig htig v1 g1 d1 HL1 HV1 HG1 v2 q HV2 v3 rq f0 HQ HV3 HRQ HV23 no hno1 hno2 v4 HV4 HV34 wc u45 u46 u47 u48 u49 u50 u51 u52 u53 u54 u55 u56 u57 u58 u59 u60 u61 u62 u63 u64 u65 u66 u67 u68 u69 u70 u71 u72 u73 u74 u75 u76 u77 u78 u79 u80 u81 u82 u83 u84 u85 u86 u87 u88 u89 u90 u91 u92 u93 u94 u95 u96 u97 u98 u99 u100 u101 u102 u103 u104 u105 u106 u107 u108 u109 u110 u111 u112 u113 u114 u115 u116 u117 u118 u119 u120 u121 u122 u123 u124 u125 u126 u127 u128 u129 u132 u133 u134 u135 u136 u137 u138 u139 u140 u141 u142 u143 u144 u145 u146 u147 u148 u149 u151 u152 u153 u154 u155 u156 u157 u158 u159 u160 u161 u162 u163 u164 u165 u166 u167 u168 u169 u170 u171 u172 u173 u174 u175 u176 u177 u178 u179 u180 u181 u182 u183 u184 u185 u186 u187 u188 u189 u190 u191 u192 u193 u194 u196 u197 u198 u199 u200 u201 u202 u203 u204 u205 u207 u208 u209 u210 u211 u212 u213 u214 u215 u216 u217 u218 u219 u220 u221 u222 u223 u224 u225 u226 u227 u228 u229 u230 u231 u232 u233 u234 u235 u236 u237 u238 u239 u240 u241 u242 u243 u244 u245 u246 u247 u248 u249 u250 u251 u252 u253 u254 u255 u256 u257 u258 u259 u260 u261 u262 u263 u264 u265 u266 u267 u268 u269 u270 u271 u272 u273 u274 u275 u276 u277 u278 u279 u280 u281 u282 u283 u284 u285 u286 u287 u288 u289 u290 u291 u292 u293 u294 u295 u296 u297 u298 u299 u300 u301 u302 u303 u304 u305 u306 u307 u308 u309 u310 u311 u312 u313 u314 u315 u316 u317 u318 u319 u320 u321 u322 u323 u324 u325 u326 u327 u328 u329 u330 u331 u332 u333 u334 u335 u336 u337 u338 u339 u340 u341 u342 u343 u344 u345 u346 u347 u348 u349 u350 u351 u352 u353 u354 u355 u356 u357 u358 u359 u360 u361 u362 u363 u364 u365 u366 u367 u368 u369 u370 u371 u372 u373 u374 u375 u376 u377 u378 u379 u380 u381 u382 u383 u384 u385 u386 u387 u388 u389 u390 u391 u392 u393 u394 u395 u396 u397 u398 u399 HVx b rb x0 HLg HBd cs0 HCs hd1n zb1 zb2
    go_loopw [16] (fun i wr => ∃ (k : Nat) (cs : Array Value), k ≤ n1 ∧ i = .int .i64 k ∧ Hid (wr.heap[g1]? = some (.cells cs 51 (0, 0)) ∧ n1 * 4 ≤ cs.size) ∧ Hid (wc.grownBy wr (some g1))) (fun i _ => n1 - (intOf i).toNat)
    case atStart => exact ⟨0, cs0, Nat.zero_le _, rfl, HCs, Lib.hid (grown_refl _ _)⟩
    case round =>
      obtain ⟨k, cs, hk, rfl, HC, HGr⟩ := hrel
      by_cases hkn : k < n1
      · clear hR
        as_aux_lemma =>
          have hd2 : decide (k < n1) = true := by simpa using hkn
          have hd2' : decide ((k : Int) < (n1 : Int)) = true := by simp; omega
          obtain ⟨u, hu⟩ : ∃ u, cs[k * 4]? = some u := ⟨_, Array.getElem?_eq_getElem (by have := HC.out.2; omega)⟩
          have c0 : wr.cell? ⟨g1, k * 4, none⟩ = some u := by rw [blk_cell HC.out.1]; exact hu
          have f0 := blk_frozen HC.out.1 (k * 4)
          have hx1 : (0 : Int) ≤ k := by omega
          have hx2 : (k : Int) < n1 := by omega
          clear hu
          go_wp2_with fail
          go_roundw
          case rel => exact ⟨k + 1, cs.setIfInBounds (k * 4) (.int .i64 (-77)), by omega, by go_num, Lib.hid ⟨blk_set HC.out.1 _ _, by simp; exact HC.out.2⟩, Lib.hid (HGr.out.trans (grown_set _ _ _ _))⟩
          case measure => simp [intOf] <;> omega
      · obtain rfl : k = n1 := by omega
        have hd2 : decide (k < k) = false := by simp
        have hd2' : decide ((k : Int) < (k : Int)) = false := by simp
        obtain ⟨hbw, o0, hP0⟩ := HLg.out.play (w := w) HGr.out HG1.out.2 HG1.out.1 HV1.out.size (HV1.out.trans (HVx.out.mono HV1.out.size))
        have HP0 := Lib.hid hP0
        clear hbw hP0 HCs HC HGr
        rename World => wA
        have HBd := Lib.hid (HBd.out.wide (K' := 1152921504606847037) (M' := 300) (by omega) (by omega))
        go_wp2_with fail
        rename_i zc1 zc2 zc3 zc4 zc5 zc6 zc7 zc8 zc9 zc10 zc11 zc12 zc13 zc14 zc15 zc16
        revert w base term ao1 c1 zero ao2 n2 c2 l1 l2 hb1 ht1 HO hmm za1 w1 h120 HLt w2 HSm hd0 hd1 hbig htig v1 g1 d1 HV1 HG1 v2 q HV2 v3 rq f0 HQ HV3 HRQ HV23 no hno1 hno2 v4 HV4 HV34 wc u45 u46 u47 u48 u49 u50 u51 u52 u53 u54 u55 u56 u57 u58 u59 u60 u61 u62 u63 u64 u65 u66 u67 u68 u69 u70 u71 u72 u73 u74 u75 u76 u77 u78 u79 u80 u81 u82 u83 u84 u85 u86 u87 u88 u89 u90 u91 u92 u93 u94 u95 u96 u97 u98 u99 u100 u101 u102 u103 u104 u105 u106 zc1 zc2 zc3 zc4 zc5 zc6 zc7 zc8 zc9 zc10 u117 u118 u119 u120 u121 u122 u123 u124 u125 u126 u127 u128 u129 u132 u133 u134 u135 u136 u137 u138 u139 u140 u141 u142 u143 u144 u145 u146 u147 u148 u149 u151 u152 u153 u154 u155 u156 u157 u158 u159 u160 u161 u162 u163 u164 u165 u166 u167 u168 u169 u170 u171 u172 u173 u174 u175 u176 u177 u178 u179 u180 u181 u182 u183 u184 u185 u186 u187 u188 u189 u190 u191 u192 u193 u194 u196 u197 u198 u199 u200 u201 u202 u203 u204 u205 u207 u208 u209 u210 u211 u212 u213 u214 u215 u216 u217 u218 u219 u220 u221 u222 u223 u224 u225 u226 u227 u228 u229 u230 u231 u232 u233 u234 u235 u236 u237 u238 u239 u240 u241 u242 u243 u244 u245 u246 u247 u248 u249 u250 u251 u252 u253 u254 u255 u256 u257 u258 u259 u260 u261 u262 u263 u264 u265 u266 u267 u268 u269 u270 u271 u272 u273 u274 u275 u276 u277 u278 u279 u280 u281 u282 u283 u284 u285 u286 u287 u288 u289 u290 u291 u292 u293 u294 u295 u296 u297 u298 u299 u300 u301 u302 u303 u304 u305 u306 u307 u308 u309 u310 u311 u312 u313 u314 u315 u316 u317 u318 u319 u320 u321 u322 u323 u324 u325 u326 u327 u328 u329 u330 u331 u332 u333 u334 u335 u336 u337 u338 u339 u340 u341 u342 u343 u344 u345 u346 u347 u348 u349 u350 u351 u352 u353 u354 u355 u356 u357 u358 u359 u360 u361 u362 u363 u364 u365 u366 u367 u368 u369 u370 u371 u372 u373 u374 u375 u376 u377 u378 u379 u380 u381 u382 u383 u384 u385 u386 u387 u388 u389 u390 u391 u392 u393 u394 u395 u396 u397 u398 u399 HVx b rb x0 HLg zc11 cs0 zb1 wA u107 u108 u109 u110 u111 u112 u113 u114 u115 u116 k cs HE hnn h60 hd60 hd60' za2 hll HL1 hd1n hk hkn hd2 hd2' o0 HP0 HBd zc12 zc13 zc14 zc15 zc16
        exact hR.out
end Go.Proofs.YtmdidmllaldbaaaGreat
