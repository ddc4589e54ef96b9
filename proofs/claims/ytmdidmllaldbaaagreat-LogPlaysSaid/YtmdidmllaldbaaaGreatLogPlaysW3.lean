/- The walk of arboretumlaw18.LogPlays, part 3: what is left of it is the first part of front3. -/
import Derived.Test.YtmdidmllaldbaaaGreatLogPlaysW2
namespace Go.Proofs.YtmdidmllaldbaaaGreat
open Go.RowKit
set_option linter.unusedVariables false
set_option linter.unusedSimpArgs false
set_option maxRecDepth 100000 in
set_option maxHeartbeats 32000000 in
noncomputable def front3 : Σ' R : Prop, Later R → front2.1 := by
  apply PSigma.mk
  case snd =>
    intro hR
    intros w base term ao1 c1 zero ao2 n2 c2 l1 l2 hb1 ht1 HO hmm za1 w1 h120 HLt w2 HSm hd0 hd1 hbig htig v1 g1 d1 HV1 HG1 v2 q HV2 v3 rq f0 HQ HV3 HRQ HV23 no hno1 hno2 v4 HV4 HV34 wc u45 u46 u47 u48 u49 u50 u51 u52 u53 u54 u55 u56 u57 u58 u59 u60 u61 u62 u63 u64 u65 u66 u67 u68 u69 u70 u71 u72 u73 u74 u75 u76 u77 u78 u79 u80 u81 u82 u83 u84 u85 u86 u87 u88 u89 u90 u91 u92 u93 u94 u95 u96 u97 u98 u99 u100 u101 u102 u103 u104 u105 u106 zc1 zc2 zc3 zc4 zc5 zc6 zc7 zc8 zc9 zc10 u117 u118 u119 u120 u121 u122 u123 u124 u125 u126 u127 u128 u129 u132 u133 u134 u135 u136 u137 u138 u139 u140 u141 u142 u143 u144 u145 u146 u147 u148 u149 u151 u152 u153 u154 u155 u156 u157 u158 u159 u160 u161 u162 u163 u164 u165 u166 u167 u168 u169 u170 u171 u172 u173 u174 u175 u176 u177 u178 u179 u180 u181 u182 u183 u184 u185 u186 u187 u188 u189 u190 u191 u192 u193 u194 u196 u197 u198 u199 u200 u201 u202 u203 u204 u205 u207 u208 u209 u210 u211 u212 u213 u214 u215 u216 u217 u218 u219 u220 u221 u222 u223 u224 u225 u226 u227 u228 u229 u230 u231 u232 u233 u234 u235 u236 u237 u238 u239 u240 u241 u242 u243 u244 u245 u246 u247 u248 u249 u250 u251 u252 u253 u254 u255 u256 u257 u258 u259 u260 u261 u262 u263 u264 u265 u266 u267 u268 u269 u270 u271 u272 u273 u274 u275 u276 u277 u278 u279 u280 u281 u282 u283 u284 u285 u286 u287 u288 u289 u290 u291 u292 u293 u294 u295 u296 u297 u298 u299 u300 u301 u302 u303 u304 u305 u306 u307 u308 u309 u310 u311 u312 u313 u314 u315 u316 u317 u318 u319 u320 u321 u322 u323 u324 u325 u326 u327 u328 u329 u330 u331 u332 u333 u334 u335 u336 u337 u338 u339 u340 u341 u342 u343 u344 u345 u346 u347 u348 u349 u350 u351 u352 u353 u354 u355 u356 u357 u358 u359 u360 u361 u362 u363 u364 u365 u366 u367 u368 u369 u370 u371 u372 u373 u374 u375 u376 u377 u378 u379 u380 u381 u382 u383 u384 u385 u386 u387 u388 u389 u390 u391 u392 u393 u394 u395 u396 u397 u398 u399 HVx b rb x0 HLg zc11 cs0 zb1 wA u107 u108 u109 u110 u111 u112 u113 u114 u115 u116 k cs HE hnn h60 hd60 hd60' za2 hll HL1 hd1n hk hkn hd2 hd2' o0 HP0 HBd zc12 zc13 zc14 zc15 zc16
    go_loopw [14, 18] (fun r i wr => ∃ (k rb2 : Nat) (o : Nat → Tag) (x : LogV), k ≤ n2 ∧ i = .int .i64 k ∧ r = .pointer (some ⟨rb2, 0, none⟩) ∧ Hid (Play w wr b rb2 wA.heap.size o x x) ∧ Hid (Bnd x (1152921504606847037 + 60 * k) 300)) (fun _ i _ => n2 - (intOf i).toNat)
    case atStart => exact ⟨0, rb, o0, x0, Nat.zero_le _, rfl, rfl, HP0, HBd⟩
    case round =>
      obtain ⟨k, rb2, o, x, hk, rfl, rfl, HP, HB⟩ := hrel
      have HBW : Hid (Below w.heap.size w wr) := Lib.hid HP.out.bs.bel
      by_cases hkn : k < n2
      · have hd2 : decide (k < n2) = true := by simpa using hkn
        have hd2' : decide ((k : Int) < (n2 : Int)) = true := by simp; omega
        obtain ⟨ob, oo, e, rfl, hobB, hek, ⟨q0, q1, q2, q3, q4, q5⟩, -⟩ := (HO.out.keep HBW.out).get hkn
        have HLi : Hid (Light18 e) := Lib.hid (HLt.out e (List.mem_of_getElem? hek))
        have HOk : Hid (OpOk w e) := Lib.hid (HO.out.ok e (List.mem_of_getElem? hek))
        have hx1 : (0 : Int) ≤ k := by omega
        have hx2 : (k : Int) < n2 := by omega
        have HP0 : Hid (Play w (wr.alloc (.cells #[.int .i64 e.kd, .int .i64 e.a, .int .i64 e.b, .int .i64 e.c, .string e.s, .slice e.ao e.n e.cp] 98)) b rb2 wA.heap.size (retag o wr.heap.size (89, 0, 0)) x x) := Lib.hid ((HP.out.agree (retag_agree _ _ _)).calm ((Below.refl _ _).alloc (Nat.le_refl _) _))
        have HQ0 : Hid (OpAt (wr.alloc (.cells #[.int .i64 e.kd, .int .i64 e.a, .int .i64 e.b, .int .i64 e.c, .string e.s, .slice e.ao e.n e.cp] 98)) wr.heap.size e) := Lib.hid (heap_alloc_new wr _)
        have HT0 : Hid (∀ g, wr.heap.size ≤ g → retag o wr.heap.size (89, 0, 0) g = (89, 0, 0)) := Lib.hid (fun g hg => by unfold retag; rw [if_neg (by omega)])
        clear hek HP
        go_upto_block 4 with fail
        clear q0 q1 q2 q3 q4 q5 HBW
        generalize wr.alloc (.cells #[.int .i64 e.kd, .int .i64 e.a, .int .i64 e.b, .int .i64 e.c, .string e.s, .slice e.ao e.n e.cp] 98) = W0 at HP0 HQ0 ⊢
        generalize retag o wr.heap.size (89, 0, 0) = o0 at HP0 HT0
        generalize wr.heap.size = q at HQ0 HT0 ⊢
        have HQT : Hid (o0 q = (89, 0, 0)) := Lib.hid (HT0.out q (Nat.le_refl _))
        rename_i zd1 zd2 zd3 zd4 zd5 zd6 zd7 zd8 zd9 zd10 zd11 zd12 zd13 zd14 zd15 zd16 zd17 zd18 zd19 zd20 zd21 zd22 zd23 zd24 zd25 zd26 zd27 zd28 zd29 zd30 zd31 zd32 zd33 zd34 zd35 zd36 zd37 zd38 zd39 zd40 zd41 zd42 zd43 zd44 zd45 zd46 zd47 zd48 zd49 zd50 zd51 zd52 zd53 zd54 zd55 zd56 zd57 zd58 zd59 zd60 zd61 zd62 zd63 zd64 zd65 zd66 zd67 zd68 zd69 zd70 zd71 zd72 zd73 zd74 zd75 zd76 zd77 zd78 zd79 zd80 zd81 zd82 zd83 zd84 zd85 zd86 zd87 zd88 zd89 zd90 zd91 zd92 zd93 zd94 zd95 zd96 zd97 zd98 zd99 zd100 zd101 zd102 zd103 zd104 zd105 zd106 zd107 zd108 zd109 zd110 zd111 zd112 zd113 zd114 zd115 zd116 zd117 zd118 zd119 zd120 zd121 zd122 zd123 zd124 zd125 zd126 zd127 zd128 zd129 zd130 zd131 zd132 zd133 zd134 zd135 zd136 zd137 zd138 zd139 zd140 zd141 zd142 zd143 zd144 zd145 zd146 zd147 zd148 zd149 zd150 zd151 zd152 zd153 zd154 zd155 zd156 zd157 zd158 zd159 zd160 zd161 zd162 zd163 zd164 zd165 zd166 zd167 zd168 zd169 zd170 zd171 zd172 zd173 zd174 zd175 zd176 zd177 zd178 zd179 zd180 zd181 zd182 zd183 zd184 zd185 zd186 zd187 zd188 zd189 zd190 zd191 zd192 zd193 zd194 zd195 zd196 zd197 zd198 zd199 zd200 zd201 zd202 zd203 zd204 zd205 zd206 zd207 zd208 zd209 zd210 zd211 zd212 zd213 zd214 zd215 zd216 zd217 zd218 zd219 zd220 zd221 zd222 zd223 zd224 zd225 zd226 zd227 zd228 zd229 zd230 zd231 zd232 zd233 zd234 zd235 zd236 zd237 zd238 zd239 zd240 zd241 zd242 zd243 zd244 zd245 zd246 zd247 zd248 zd249 zd250 zd251 zd252 zd253 zd254 zd255 zd256 zd257 zd258 zd259 zd260 zd261 zd262 zd263 zd264 zd265 zd266 zd267 zd268 zd269 zd270 zd271 zd272 zd273 zd274 zd275 zd276 zd277 zd278 zd279 zd280 zd281 zd282 zd283 zd284
        revert w base term ao1 c1 zero n2 c2 l1 l2 hb1 ht1 hmm za1 w1 h120 HLt w2 HSm hd0 hd1 hbig htig v1 g1 d1 HV1 HG1 v2 zd1 HV2 v3 rq f0 HQ HV3 HRQ HV23 no hno1 hno2 v4 HV4 HV34 wc u45 u46 u47 u48 u49 u50 u51 u52 u53 u54 u55 u56 u57 u58 u59 u60 u61 u62 u63 u64 u65 u66 u67 u68 u69 u70 u71 u72 u73 u74 u75 u76 u77 u78 u79 u80 u81 u82 u83 u84 u85 u86 u87 u88 u89 u90 u91 u92 u93 u94 u95 u96 u97 u98 u99 u100 u101 u102 u103 u104 u105 u106 zc1 zc2 zc3 zc4 zc5 zc6 zc7 zc8 zc9 zc10 u117 u118 zd2 zd3 zd4 zd5 zd6 zd7 zd8 zd9 zd10 zd11 zd12 zd13 zd14 zd15 zd16 zd17 zd18 zd19 zd20 zd21 zd22 zd23 zd24 zd25 zd26 zd27 zd28 zd29 zd30 zd31 zd32 zd33 zd34 zd35 zd36 zd37 zd38 zd39 zd40 zd41 zd42 zd43 zd44 zd45 zd46 zd47 zd48 zd49 zd50 zd51 zd52 zd53 zd54 zd55 zd56 zd57 zd58 zd59 zd60 zd61 zd62 zd63 zd64 zd65 zd66 zd67 zd68 zd69 zd70 zd71 zd72 zd73 zd74 zd75 zd76 zd77 zd78 zd79 zd80 zd81 zd82 zd83 zd84 zd85 zd86 zd87 zd88 zd89 zd90 zd91 zd92 zd93 zd94 zd95 zd96 zd97 zd98 zd99 zd100 zd101 zd102 zd103 zd104 zd105 zd106 zd107 zd108 zd109 zd110 zd111 zd112 zd113 zd114 zd115 zd116 zd117 zd118 zd119 zd120 zd121 zd122 zd123 zd124 zd125 zd126 zd127 zd128 zd129 zd130 zd131 zd132 zd133 zd134 zd135 zd136 zd137 zd138 zd139 zd140 zd141 zd142 zd143 zd144 zd145 zd146 zd147 zd148 zd149 zd150 zd151 zd152 zd153 zd154 zd155 zd156 zd157 zd158 zd159 zd160 zd161 zd162 zd163 zd164 zd165 zd166 zd167 zd168 zd169 zd170 zd171 zd172 zd173 zd174 zd175 zd176 zd177 zd178 zd179 zd180 zd181 zd182 zd183 zd184 zd185 zd186 zd187 zd188 zd189 zd190 zd191 zd192 zd193 zd194 zd195 zd196 zd197 zd198 zd199 zd200 zd201 zd202 zd203 zd204 zd205 zd206 zd207 zd208 zd209 zd210 zd211 zd212 zd213 zd214 zd215 zd216 zd217 zd218 zd219 zd220 zd221 zd222 zd223 zd224 zd225 zd226 zd227 zd228 zd229 zd230 zd231 zd232 zd233 zd234 zd235 zd236 zd237 zd238 zd239 zd240 zd241 zd242 zd243 zd244 zd245 zd246 zd247 zd248 zd249 zd250 zd251 zd252 zd253 zd254 zd255 zd256 zd257 zd258 zd259 zd260 zd261 zd262 zd263 zd264 zd265 zd266 zd267 zd268 zd269 zd270 zd271 zd272 u395 u396 u397 u398 u399 HVx b rb x0 HLg zc11 cs0 zb1 wA u107 u108 u109 u110 u111 u112 u113 u114 u115 u116 zd273 cs HE hnn h60 hd60 hd60' za2 hll HL1 hd1n zd274 zd275 zd276 zd277 zd278 zd279 HBd zc13 zc15 zc16 wr u10 u19 u20 u21 u22 u23 u24 u25 u26 u27 u28 u29 u30 u31 u32 u33 u34 u35 u36 u37 u38 u39 u40 u41 u42 u43 u44 u119 u120 u121 u122 u123 u124 u125 u126 u127 u128 u129 u130 u131 u132 u133 u134 u135 u136 u137 u138 u139 u140 u141 u142 u143 u144 u145 u146 u147 u148 u149 u150 u151 u152 u153 u154 u155 u156 u157 u158 u159 u160 u161 u162 u163 u164 u165 u166 u167 u168 u169 u170 u171 u172 u173 u174 u175 u176 u177 u178 u179 u180 u181 u182 u183 u184 u185 u186 u187 u188 u189 u190 u191 u192 u193 u194 u195 u196 u197 u198 u199 u200 u201 u202 u203 u204 u205 u206 u207 u208 u209 u210 u211 u212 u213 u214 u215 u216 u217 u218 u219 u220 u221 u222 u223 u224 u225 u226 u227 u228 u229 u230 u231 u232 u233 u234 u235 u236 u237 u238 u239 u240 u241 u242 u243 u244 u245 u246 u247 u248 u249 u250 u251 u252 u253 u254 u255 u256 u257 u258 u259 u260 u261 u262 u263 u264 u265 u266 u267 u268 u269 u270 u271 u272 u273 u274 u275 u276 u277 u278 u279 u280 u281 u282 u283 u284 u285 u286 u287 u288 u289 u290 u291 u292 u293 u294 u295 u296 u297 u298 u299 u300 u301 u302 u303 u304 u305 u306 u307 u308 u309 u310 u311 u312 u313 u314 u315 u316 u317 u318 u319 u320 u321 u322 u323 u324 u325 u326 u327 u328 u329 u330 u331 u332 u333 u334 u335 u336 u337 u338 u339 u340 u341 u342 u343 u344 u345 u346 u347 u348 u349 u350 u351 u352 u353 u354 u355 u356 u357 u358 u359 u360 u361 u362 u363 u364 u365 u366 u367 u368 u369 u370 u371 u372 u373 u374 u375 u376 u377 u378 u379 u380 u381 u382 u383 u384 u385 u386 u387 u388 u389 u390 u391 u392 u393 u394 k rb2 o x hk HB hkn hd2 hd2' ob oo e HO zc12 zc14 hobB HLi HOk hx1 hx2 zd280 zd281 zd282 zd283 zd284 W0 o0 HP0 q HQ0 HT0 HQT
        exact hR.out
      · clear hR
        as_aux_lemma =>
          obtain rfl : k = n2 := by omega
          have hd2 : decide (k < k) = false := by simp
          have hd2' : decide ((k : Int) < (k : Int)) = false := by simp
          go_wp2_with fail
          refine (alive_any _).mono ?_
          rintro e w9 ⟨rfl, hb9⟩
          have HAp := Lib.hid (HP.out.bs.below hb9).apart
          clear hb9
          go_wp2_with fail
          refine HAp.out.mono ?_
          rintro e w10 ⟨rfl, hb10⟩
          go_wp2_with fail
          go_ret
          exact ⟨rfl, hb10⟩
end Go.Proofs.YtmdidmllaldbaaaGreat
