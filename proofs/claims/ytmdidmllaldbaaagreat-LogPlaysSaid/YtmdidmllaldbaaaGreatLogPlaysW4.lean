/- The walk of arboretumlaw18.LogPlays: a step's switch. What is left is the first part of front4. -/
import Derived.Test.YtmdidmllaldbaaaGreatLogPlaysW3
namespace Go.Proofs.YtmdidmllaldbaaaGreat
open Go.RowKit
set_option linter.unusedVariables false
set_option linter.unusedSimpArgs false
set_option maxRecDepth 100000 in
set_option maxHeartbeats 32000000 in
noncomputable def front4 : Σ' R : Prop, Later R → front3.1 := by
  apply PSigma.mk
  case snd =>
    intro hR
    intros w base term ao1 c1 zero n2 c2 l1 l2 hb1 ht1 hmm za1 w1 h120 HLt w2 HSm hd0 hd1 hbig htig v1 g1 d1 HV1 HG1 v2 zd1 HV2 v3 rq f0 HQ HV3 HRQ HV23 no hno1 hno2 v4 HV4 HV34 wc u45 u46 u47 u48 u49 u50 u51 u52 u53 u54 u55 u56 u57 u58 u59 u60 u61 u62 u63 u64 u65 u66 u67 u68 u69 u70 u71 u72 u73 u74 u75 u76 u77 u78 u79 u80 u81 u82 u83 u84 u85 u86 u87 u88 u89 u90 u91 u92 u93 u94 u95 u96 u97 u98 u99 u100 u101 u102 u103 u104 u105 u106 zc1 zc2 zc3 zc4 zc5 zc6 zc7 zc8 zc9 zc10 u117 u118 zd2 zd3 zd4 zd5 zd6 zd7 zd8 zd9 zd10 zd11 zd12 zd13 zd14 zd15 zd16 zd17 zd18 zd19 zd20 zd21 zd22 zd23 zd24 zd25 zd26 zd27 zd28 zd29 zd30 zd31 zd32 zd33 zd34 zd35 zd36 zd37 zd38 zd39 zd40 zd41 zd42 zd43 zd44 zd45 zd46 zd47 zd48 zd49 zd50 zd51 zd52 zd53 zd54 zd55 zd56 zd57 zd58 zd59 zd60 zd61 zd62 zd63 zd64 zd65 zd66 zd67 zd68 zd69 zd70 zd71 zd72 zd73 zd74 zd75 zd76 zd77 zd78 zd79 zd80 zd81 zd82 zd83 zd84 zd85 zd86 zd87 zd88 zd89 zd90 zd91 zd92 zd93 zd94 zd95 zd96 zd97 zd98 zd99 zd100 zd101 zd102 zd103 zd104 zd105 zd106 zd107 zd108 zd109 zd110 zd111 zd112 zd113 zd114 zd115 zd116 zd117 zd118 zd119 zd120 zd121 zd122 zd123 zd124 zd125 zd126 zd127 zd128 zd129 zd130 zd131 zd132 zd133 zd134 zd135 zd136 zd137 zd138 zd139 zd140 zd141 zd142 zd143 zd144 zd145 zd146 zd147 zd148 zd149 zd150 zd151 zd152 zd153 zd154 zd155 zd156 zd157 zd158 zd159 zd160 zd161 zd162 zd163 zd164 zd165 zd166 zd167 zd168 zd169 zd170 zd171 zd172 zd173 zd174 zd175 zd176 zd177 zd178 zd179 zd180 zd181 zd182 zd183 zd184 zd185 zd186 zd187 zd188 zd189 zd190 zd191 zd192 zd193 zd194 zd195 zd196 zd197 zd198 zd199 zd200 zd201 zd202 zd203 zd204 zd205 zd206 zd207 zd208 zd209 zd210 zd211 zd212 zd213 zd214 zd215 zd216 zd217 zd218 zd219 zd220 zd221 zd222 zd223 zd224 zd225 zd226 zd227 zd228 zd229 zd230 zd231 zd232 zd233 zd234 zd235 zd236 zd237 zd238 zd239 zd240 zd241 zd242 zd243 zd244 zd245 zd246 zd247 zd248 zd249 zd250 zd251 zd252 zd253 zd254 zd255 zd256 zd257 zd258 zd259 zd260 zd261 zd262 zd263 zd264 zd265 zd266 zd267 zd268 zd269 zd270 zd271 zd272 u395 u396 u397 u398 u399 HVx b rb x0 HLg zc11 cs0 zb1 wA u107 u108 u109 u110 u111 u112 u113 u114 u115 u116 zd273 cs HE hnn h60 hd60 hd60' za2 hll HL1 hd1n zd274 zd275 zd276 zd277 zd278 zd279 HBd zc13 zc15 zc16 wr u10 u19 u20 u21 u22 u23 u24 u25 u26 u27 u28 u29 u30 u31 u32 u33 u34 u35 u36 u37 u38 u39 u40 u41 u42 u43 u44 u119 u120 u121 u122 u123 u124 u125 u126 u127 u128 u129 u130 u131 u132 u133 u134 u135 u136 u137 u138 u139 u140 u141 u142 u143 u144 u145 u146 u147 u148 u149 u150 u151 u152 u153 u154 u155 u156 u157 u158 u159 u160 u161 u162 u163 u164 u165 u166 u167 u168 u169 u170 u171 u172 u173 u174 u175 u176 u177 u178 u179 u180 u181 u182 u183 u184 u185 u186 u187 u188 u189 u190 u191 u192 u193 u194 u195 u196 u197 u198 u199 u200 u201 u202 u203 u204 u205 u206 u207 u208 u209 u210 u211 u212 u213 u214 u215 u216 u217 u218 u219 u220 u221 u222 u223 u224 u225 u226 u227 u228 u229 u230 u231 u232 u233 u234 u235 u236 u237 u238 u239 u240 u241 u242 u243 u244 u245 u246 u247 u248 u249 u250 u251 u252 u253 u254 u255 u256 u257 u258 u259 u260 u261 u262 u263 u264 u265 u266 u267 u268 u269 u270 u271 u272 u273 u274 u275 u276 u277 u278 u279 u280 u281 u282 u283 u284 u285 u286 u287 u288 u289 u290 u291 u292 u293 u294 u295 u296 u297 u298 u299 u300 u301 u302 u303 u304 u305 u306 u307 u308 u309 u310 u311 u312 u313 u314 u315 u316 u317 u318 u319 u320 u321 u322 u323 u324 u325 u326 u327 u328 u329 u330 u331 u332 u333 u334 u335 u336 u337 u338 u339 u340 u341 u342 u343 u344 u345 u346 u347 u348 u349 u350 u351 u352 u353 u354 u355 u356 u357 u358 u359 u360 u361 u362 u363 u364 u365 u366 u367 u368 u369 u370 u371 u372 u373 u374 u375 u376 u377 u378 u379 u380 u381 u382 u383 u384 u385 u386 u387 u388 u389 u390 u391 u392 u393 u394 k rb2 o x hk HB hkn hd2 hd2' ob oo e HO zc12 zc14 hobB HLi HOk hx1 hx2 zd280 zd281 zd282 zd283 zd284 W0 o0 HP0 q HQ0 HT0 HQT
    go_cut [14, 20, 21, 22, 23, 24] from 119 to 394 (fun r _ _ _ _ _ wx => ∃ (rb3 : Nat) (o3 : Nat → Tag) (x3 : LogV), r = .pointer (some ⟨rb3, 0, none⟩) ∧ Hid (Did w b rb3 wA.heap.size q e x3 x3 wx o3) ∧ Hid (Bnd x3 (1152921504606847037 + 60 * ((k + 1 : Nat) : Int)) 360))
    case first =>
      clear hR
      as_aux_lemma =>
        by_cases e1 : e.kd = 1
        · as_aux_lemma =>
            have t1 : (e.kd == 1) = true := by simpa using e1
            obtain ⟨a1, ha1⟩ : ∃ a1, (lastV x).1 + 1 = a1 := ⟨_, rfl⟩
            have HA1 := Lib.hid ha1
            have HBn : Hid (Bnd (⟨x.base, x.term, x.l ++ [⟨a1, e.a, e.b, e.s⟩]⟩ : LogV) (1152921504606847037 + 60 * ((k + 1 : Nat) : Int)) 360) := Lib.hid (by rw [← ha1]; exact (HB.out.add e.a e.b e.s (by have := HLi.out.2.2; omega)).wide (by omega) (by omega))
            have HD0 : Hid (Did w b rb2 wA.heap.size q e x x W0 o0) := Lib.hid ⟨HP0.out, HQ0.out, HQT.out⟩
            have q00 := HQ0.out.cells.1
            clear ha1 HP0
            go_wp2_with fail
            clear q00
            go_region_held3 (fun W => W.cell? ⟨q, 1, none⟩ = some (.int .i64 e.a) ∧ W.cell? ⟨q, 2, none⟩ = some (.int .i64 e.b) ∧ W.cell? ⟨q, 4, none⟩ = some (.string e.s))
              ((first | exact HD6.out.op.add | exact HD5.out.op.add | exact HD0.out.op.add))
              (first
                | (go_at_call 57; ((refine (HD0.out.add HB.out (by omega) (by omega) (by have := HLi.out.2.2; omega) HA1.out (by repeat (with_reducible (first | exact Below.refl _ _ | refine Below.drew ?_)))).mono ?_); rintro ε5 w5 ⟨rfl, o5, hd5⟩; have HD5 := Lib.hid hd5; clear hd5))
                | (go_at_call 58; ((refine (HD5.out.radd HB.out (by omega) (by omega) HA1.out (by repeat (with_reducible (first | exact Below.refl _ _ | refine Below.drew ?_)))).mono ?_); rintro ε6 w6 ⟨rfl, o6, hd6⟩; have HD6 := Lib.hid hd6; clear hd6)))
            all_goals (
              go_wp2_with fail
              go_meet
              exact ⟨rb2, o6, _, rfl, Lib.hid (HD6.out.calm (by repeat (with_reducible (first | exact Below.refl _ _ | refine Below.drew ?_)))), HBn⟩)
        by_cases e2 : e.kd = 2
        · as_aux_lemma =>
            have t1 : (e.kd == 1) = false := by simpa using e1
            have t2 : (e.kd == 2) = true := by simpa using e2
            obtain ⟨x3, a1, u1, hm⟩ : ∃ x3 a1 u1, mergeV x e.a e.b e.c e.es = (x3, a1, u1) := ⟨_, _, _, rfl⟩
            have HM := Lib.hid hm
            have HEs : Hid (∀ W, Below w.heap.size w W → EntsIn W e.ao e.n e.cp e.es) := Lib.hid (fun W hb => HOk.out.2.2.2.2.carry hb)
            have hen : e.n ≤ 60 := HLi.out.1
            have hel : e.es.length = e.n := HOk.out.2.2.2.2.ents.1
            have hecp : (e.n : Int) ≤ e.cp := by have := HOk.out.2.2.2.2.le; omega
            have hea : e.a ≤ 9223372036854775807 := HOk.out.1.2
            have HBn : Hid (Bnd x3 (1152921504606847037 + 60 * ((k + 1 : Nat) : Int)) 360) := Lib.hid (by
              have h := HB.out.merge (by omega) (l := e.es) (by omega) (fun z hz => by
                have h8 : z.dt.size ≤ (e.es.map (·.dt.size)).sum := le_sum _ _ (List.mem_map.2 ⟨z, hz, rfl⟩)
                have h9 : (e.es.map (·.dt.size)).sum ≤ 12000 := HLi.out.2.1
                omega) e.a e.b e.c
              rw [hm] at h
              exact h.wide (by omega) (by omega))
            have HD0 : Hid (Did w b rb2 wA.heap.size q e x x W0 o0) := Lib.hid ⟨HP0.out, HQ0.out, HQT.out⟩
            obtain ⟨q00, q01, q02, q03, q04, q05⟩ := HQ0.out.cells
            clear hm HP0 hel
            go_wp2_with fail
            refine (lentE_any (HEs.out W0 HD0.out.pl.bs.bel) (by omega)).mono ?_
            rintro ε v5 ⟨gm, dm, rfl, hL5, hb5⟩
            have hgq : o0 gm = (89, 0, 0) := HT0.out gm (by have := hL5.2.1; have := HQ0.out.lt; omega)
            have HGQ := Lib.hid hgq
            have HL5 := Lib.hid hL5
            have HD1 := Lib.hid (HD0.out.calm hb5)
            have hdm : (e.n : Int) ≤ dm := by have := hL5.1; omega
            obtain ⟨q10, q11, q12, q13, q14, q15⟩ := HD1.out.op.cells
            clear q00 q01 q02 q03 q04 q05 hL5 hb5 hgq
            go_wp2_with fail
            refine (HD1.out.merge HB.out (by omega) (by omega) HL5.out HGQ.out (HEs.out _ HD1.out.pl.bs.bel) hen hea HM.out).mono ?_
            rintro ε v6 ⟨rfl, o6, hd6, hL6, hg6⟩
            have HD6 := Lib.hid hd6
            have HL6 := Lib.hid hL6
            have HG6 := Lib.hid hg6
            obtain ⟨q20, q21, q22, q23, q24, q25⟩ := hd6.op.cells
            clear q10 q11 q12 q13 q14 q15 hd6 hL6 hg6
            go_wp2_with fail
            refine (HD6.out.rmerge HB.out (by omega) (by omega) HL6.out HG6.out (HEs.out _ HD6.out.pl.bs.bel) hen HM.out).mono ?_
            rintro ε v7 ⟨rfl, o7, hd7, hL7⟩
            have HD7 := Lib.hid hd7
            have HL7 := Lib.hid hL7
            obtain ⟨q30, q31, q32, q33, q34, q35⟩ := hd7.op.cells
            have HSt := Lib.hid (staysE_any (d := e.cp) HL7.out (HEs.out _ HD7.out.pl.bs.bel).ents (by omega))
            clear q20 q21 q22 q23 q24 q25 hd7 hL7
            go_wp2_with fail
            refine HSt.out.mono ?_
            rintro ε v8 ⟨rfl, hb8⟩
            have HD8 := Lib.hid (HD7.out.calm hb8)
            clear hb8 q30 q31 q32 q33 q34 q35
            go_wp2_with fail
            go_meet
            exact ⟨rb2, o7, x3, rfl, HD8, HBn⟩
        by_cases e3 : e.kd = 3
        · as_aux_lemma =>
            have t1 : (e.kd == 1) = false := by simpa using e1
            have t2 : (e.kd == 2) = false := by simpa using e2
            have t3 : (e.kd == 3) = true := by simpa using e3
            obtain ⟨x3, u1, hm⟩ : ∃ x3 u1, compactV x e.a = (x3, u1) := ⟨_, _, rfl⟩
            have HM := Lib.hid hm
            have hea : e.a ≤ 9223372036854775807 := HOk.out.1.2
            have HBn : Hid (Bnd x3 (1152921504606847037 + 60 * ((k + 1 : Nat) : Int)) 360) := Lib.hid (by have h := HB.out.compact e.a; rw [hm] at h; exact h.wide (by omega) (by omega))
            have HD0 : Hid (Did w b rb2 wA.heap.size q e x x W0 o0) := Lib.hid ⟨HP0.out, HQ0.out, HQT.out⟩
            have q00 := HQ0.out.cells.1
            clear hm HP0
            go_wp2_with fail
            clear q00
            go_region_held3 (fun W => W.cell? ⟨q, 1, none⟩ = some (.int .i64 e.a))
              ((first | exact HD6.out.op.cells.2.1 | exact HD5.out.op.cells.2.1 | exact HD0.out.op.cells.2.1))
              (first
                | (go_at_call 61; ((refine (HD0.out.compact HB.out (by omega) (by omega) hea HM.out (by repeat (with_reducible (first | exact Below.refl _ _ | refine Below.drew ?_)))).mono ?_); rintro ε5 w5 ⟨rfl, o5, hd5⟩; have HD5 := Lib.hid hd5; clear hd5))
                | (go_at_call 62; ((refine (HD5.out.rcompact HB.out (by omega) (by omega) HM.out (by repeat (with_reducible (first | exact Below.refl _ _ | refine Below.drew ?_)))).mono ?_); rintro ε6 w6 ⟨rfl, o6, hd6⟩; have HD6 := Lib.hid hd6; clear hd6)))
            all_goals (
              go_wp2_with fail
              go_meet
              exact ⟨rb2, o6, x3, rfl, Lib.hid (HD6.out.calm (by repeat (with_reducible (first | exact Below.refl _ _ | refine Below.drew ?_)))), HBn⟩)
        by_cases e4 : e.kd = 4
        · as_aux_lemma =>
            have t1 : (e.kd == 1) = false := by simpa using e1
            have t2 : (e.kd == 2) = false := by simpa using e2
            have t3 : (e.kd == 3) = false := by simpa using e3
            have t4 : (e.kd == 4) = true := by simpa using e4
            have HD0 : Hid (Did w b rb2 wA.heap.size q e x x W0 o0) := Lib.hid ⟨HP0.out, HQ0.out, HQT.out⟩
            obtain ⟨q00, q01, q02, -, -, -⟩ := HQ0.out.cells
            clear HP0
            by_cases h0 : e.a < 0
            · have hd5 : decide (e.a < 0) = true := by simpa using h0
              go_wp2_with fail
              go_ret
              exact ⟨rfl, HD0.out.pl.bs.bel⟩
            have hd5 : decide (e.a < 0) = false := by simpa using h0
            by_cases h9 : 1152921504606846976 < e.a
            · have hd6 : decide (1152921504606846976 < e.a) = true := by simpa using h9
              go_wp2_with fail
              go_ret
              exact ⟨rfl, HD0.out.pl.bs.bel⟩
            have hd6 : decide (1152921504606846976 < e.a) = false := by simpa using h9
            have HBn : Hid (Bnd (⟨e.a, e.b, []⟩ : LogV) (1152921504606847037 + 60 * ((k + 1 : Nat) : Int)) 360) := Lib.hid (Bnd.reset (by omega) (by omega))
            go_wp2_with fail
            refine HD0.out.reset.mono ?_
            rintro ε v5 ⟨rfl, o5, hd5'⟩
            have HD5 := Lib.hid hd5'
            obtain ⟨q10, q11, q12, -, -, -⟩ := HD5.out.op.cells
            clear q00 q01 q02 hd5'
            go_wp2_with fail
            go_meet
            obtain ⟨o6, hd6'⟩ := HD5.out.fresh
            exact ⟨_, o6, _, rfl, Lib.hid hd6', HBn⟩
        · have t1 : (e.kd == 1) = false := by simpa using e1
          have t2 : (e.kd == 2) = false := by simpa using e2
          have t3 : (e.kd == 3) = false := by simpa using e3
          have t4 : (e.kd == 4) = false := by simpa using e4
          go_wp2_with fail
          go_meet
          exact ⟨rb2, o0, x, rfl, Lib.hid ⟨HP0.out, HQ0.out, HQT.out⟩, Lib.hid (HB.out.wide (by omega) (by omega))⟩
    case rest =>
      rename_i ze1 ze2 ze3 ze4 ze5 ze6 ze7 ze8 ze9 ze10 ze11 ze12 ze13 ze14 ze15 ze16 ze17 ze18 ze19 ze20 ze21 ze22 ze23 ze24 ze25 ze26 ze27 ze28 ze29 ze30 ze31 ze32 ze33 ze34 ze35 ze36 ze37 ze38 ze39 ze40 ze41 ze42 ze43 ze44 ze45 ze46 ze47 ze48 ze49 ze50 ze51 ze52 ze53 ze54 ze55 ze56 ze57 ze58 ze59 ze60 ze61 ze62 ze63 ze64 ze65 ze66 ze67 ze68 ze69 ze70 ze71 ze72 ze73 ze74 ze75 ze76 ze77 ze78 ze79 ze80 ze81 ze82 ze83 ze84 ze85 ze86 ze87 ze88 ze89 ze90 ze91 ze92 ze93 ze94 ze95 ze96 ze97 ze98 ze99 ze100 ze101 ze102 ze103 ze104 ze105 ze106 ze107 ze108 ze109 ze110 ze111 ze112 ze113 ze114 ze115 ze116 ze117 ze118 ze119 ze120 ze121 ze122 ze123 ze124 ze125 ze126 ze127 ze128 ze129 ze130 ze131 ze132 ze133 ze134 ze135 ze136 ze137 ze138 ze139 ze140 ze141 ze142 ze143 ze144 ze145 ze146 ze147 ze148 ze149 ze150 ze151 ze152 ze153 ze154 ze155 ze156 ze157 ze158 ze159 ze160 ze161 ze162 ze163 ze164 ze165 ze166 ze167 ze168 ze169 ze170 ze171 ze172 ze173 ze174 ze175 ze176 ze177 ze178 ze179 ze180 ze181 ze182 ze183 ze184 ze185 ze186 ze187 ze188 ze189 ze190 ze191 ze192 ze193 ze194 ze195 ze196 ze197 ze198 ze199 ze200 ze201 ze202 ze203 ze204 ze205 ze206 ze207 ze208 ze209 ze210 ze211 ze212 ze213 ze214 ze215 ze216 ze217 ze218 ze219 ze220 ze221 ze222 ze223 ze224 ze225 ze226 ze227 ze228 ze229 ze230 ze231 ze232 ze233 ze234 ze235 ze236 ze237 ze238 ze239 ze240 ze241 ze242 ze243 ze244 ze245 ze246 ze247 ze248 ze249 ze250 ze251 ze252 ze253 ze254 ze255 ze256 ze257 ze258 ze259 ze260 ze261 ze262 ze263 ze264 ze265 ze266 ze267 ze268 ze269 ze270 ze271 ze272 ze273 ze274 ze275 ze276 ze277 ze278 ze279 ze280 ze281 ze282 ze283
      revert w base term ao1 c1 zero n2 c2 l1 l2 hb1 ht1 hmm za1 w1 h120 HLt w2 HSm hd0 hd1 hbig htig v1 g1 d1 HV1 HG1 v2 zd1 HV2 v3 rq f0 HQ HV3 HRQ HV23 no hno1 hno2 v4 HV4 HV34 ze1 u45 u46 u47 u48 u49 u50 u51 u52 u53 u54 u55 u56 u57 u58 u59 u60 u61 u62 u63 u64 u65 u66 u67 u68 u69 u70 u71 u72 u73 u74 u75 u76 u77 u78 u79 u80 u81 u82 u83 u84 u85 u86 u87 u88 u89 u90 u91 u92 u93 u94 u95 u96 u97 u98 u99 u100 u101 u102 u103 u104 u105 u106 zc1 zc2 zc3 zc4 zc5 zc6 zc7 zc8 zc9 zc10 u117 u118 zd2 zd3 zd4 zd5 zd6 zd7 zd8 zd9 zd10 zd11 zd12 zd13 zd14 zd15 zd16 zd17 zd18 zd19 zd20 zd21 zd22 zd23 zd24 zd25 zd26 zd27 zd28 zd29 zd30 zd31 zd32 zd33 zd34 zd35 zd36 zd37 zd38 zd39 zd40 zd41 zd42 zd43 zd44 zd45 zd46 zd47 zd48 zd49 zd50 zd51 zd52 zd53 zd54 zd55 zd56 zd57 zd58 zd59 zd60 zd61 zd62 zd63 zd64 zd65 zd66 zd67 zd68 zd69 zd70 zd71 zd72 zd73 zd74 zd75 zd76 zd77 zd78 zd79 zd80 zd81 zd82 zd83 zd84 zd85 zd86 zd87 zd88 zd89 zd90 zd91 zd92 zd93 zd94 zd95 zd96 zd97 zd98 zd99 zd100 zd101 zd102 zd103 zd104 zd105 zd106 zd107 zd108 zd109 zd110 zd111 zd112 zd113 zd114 zd115 zd116 zd117 zd118 zd119 zd120 zd121 zd122 zd123 zd124 zd125 zd126 zd127 zd128 zd129 zd130 zd131 zd132 zd133 zd134 zd135 zd136 zd137 zd138 zd139 zd140 zd141 zd142 zd143 zd144 zd145 zd146 zd147 zd148 zd149 zd150 zd151 zd152 zd153 zd154 zd155 zd156 zd157 zd158 zd159 zd160 zd161 zd162 zd163 zd164 zd165 zd166 zd167 zd168 zd169 zd170 zd171 zd172 zd173 zd174 zd175 zd176 zd177 zd178 zd179 zd180 zd181 zd182 zd183 zd184 zd185 zd186 zd187 zd188 zd189 zd190 zd191 zd192 zd193 zd194 zd195 zd196 zd197 zd198 zd199 zd200 zd201 zd202 zd203 zd204 zd205 zd206 zd207 zd208 zd209 zd210 zd211 zd212 zd213 zd214 zd215 zd216 zd217 zd218 zd219 zd220 zd221 zd222 zd223 zd224 zd225 zd226 zd227 zd228 zd229 zd230 zd231 zd232 zd233 zd234 zd235 zd236 zd237 zd238 zd239 zd240 zd241 zd242 zd243 zd244 zd245 zd246 zd247 zd248 zd249 zd250 zd251 zd252 zd253 zd254 zd255 zd256 zd257 zd258 zd259 zd260 zd261 zd262 zd263 zd264 zd265 zd266 zd267 zd268 zd269 zd270 zd271 zd272 u395 u396 u397 u398 u399 HVx b rb x0 HLg zc11 cs0 zb1 wA u107 u108 u109 u110 u111 u112 u113 u114 u115 u116 zd273 cs HE hnn h60 hd60 hd60' za2 hll HL1 hd1n zd274 zd275 zd276 zd277 zd278 zd279 HBd zc13 zc15 zc16 wr ze2 u19 ze3 ze4 ze5 ze6 ze7 u25 u26 u27 u28 u29 u30 u31 u32 u33 u34 u35 u36 u37 u38 u39 u40 u41 u42 u43 u44 ze8 ze9 ze10 ze11 ze12 ze13 ze14 ze15 ze16 ze17 ze18 ze19 ze20 ze21 ze22 ze23 ze24 ze25 ze26 ze27 ze28 ze29 ze30 ze31 ze32 ze33 ze34 ze35 ze36 ze37 ze38 ze39 ze40 ze41 ze42 ze43 ze44 ze45 ze46 ze47 ze48 ze49 ze50 ze51 ze52 ze53 ze54 ze55 ze56 ze57 ze58 ze59 ze60 ze61 ze62 ze63 ze64 ze65 ze66 ze67 ze68 ze69 ze70 ze71 ze72 ze73 ze74 ze75 ze76 ze77 ze78 ze79 ze80 ze81 ze82 ze83 ze84 ze85 ze86 ze87 ze88 ze89 ze90 ze91 ze92 ze93 ze94 ze95 ze96 ze97 ze98 ze99 ze100 ze101 ze102 ze103 ze104 ze105 ze106 ze107 ze108 ze109 ze110 ze111 ze112 ze113 ze114 ze115 ze116 ze117 ze118 ze119 ze120 ze121 ze122 ze123 ze124 ze125 ze126 ze127 ze128 ze129 ze130 ze131 ze132 ze133 ze134 ze135 ze136 ze137 ze138 ze139 ze140 ze141 ze142 ze143 ze144 ze145 ze146 ze147 ze148 ze149 ze150 ze151 ze152 ze153 ze154 ze155 ze156 ze157 ze158 ze159 ze160 ze161 ze162 ze163 ze164 ze165 ze166 ze167 ze168 ze169 ze170 ze171 ze172 ze173 ze174 ze175 ze176 ze177 ze178 ze179 ze180 ze181 ze182 ze183 ze184 ze185 ze186 ze187 ze188 ze189 ze190 ze191 ze192 ze193 ze194 ze195 ze196 ze197 ze198 ze199 ze200 ze201 ze202 ze203 ze204 ze205 ze206 ze207 ze208 ze209 ze210 ze211 ze212 ze213 ze214 ze215 ze216 ze217 ze218 ze219 ze220 ze221 ze222 ze223 ze224 ze225 ze226 ze227 ze228 ze229 ze230 ze231 ze232 ze233 ze234 ze235 ze236 ze237 ze238 ze239 ze240 ze241 ze242 ze243 ze244 ze245 ze246 ze247 ze248 ze249 ze250 ze251 ze252 ze253 ze254 ze255 ze256 ze257 ze258 ze259 ze260 ze261 ze262 ze263 ze264 ze265 ze266 ze267 ze268 ze269 ze270 ze271 ze272 ze273 ze274 ze275 ze276 ze277 ze278 ze279 ze280 ze281 ze282 ze283 k rb2 o x hk HB hkn hd2 hd2' ob oo e HO zc12 zc14 hobB HLi HOk hx1 hx2 zd280 zd281 zd282 zd283 zd284 W0 o0 HP0 q HQ0 HT0 HQT wc u10 u14 u20 u21 u22 u23 u24 u119 u120 u121 u122 u123 u124 u125 u126 u127 u128 u129 u130 u131 u132 u133 u134 u135 u136 u137 u138 u139 u140 u141 u142 u143 u144 u145 u146 u147 u148 u149 u150 u151 u152 u153 u154 u155 u156 u157 u158 u159 u160 u161 u162 u163 u164 u165 u166 u167 u168 u169 u170 u171 u172 u173 u174 u175 u176 u177 u178 u179 u180 u181 u182 u183 u184 u185 u186 u187 u188 u189 u190 u191 u192 u193 u194 u195 u196 u197 u198 u199 u200 u201 u202 u203 u204 u205 u206 u207 u208 u209 u210 u211 u212 u213 u214 u215 u216 u217 u218 u219 u220 u221 u222 u223 u224 u225 u226 u227 u228 u229 u230 u231 u232 u233 u234 u235 u236 u237 u238 u239 u240 u241 u242 u243 u244 u245 u246 u247 u248 u249 u250 u251 u252 u253 u254 u255 u256 u257 u258 u259 u260 u261 u262 u263 u264 u265 u266 u267 u268 u269 u270 u271 u272 u273 u274 u275 u276 u277 u278 u279 u280 u281 u282 u283 u284 u285 u286 u287 u288 u289 u290 u291 u292 u293 u294 u295 u296 u297 u298 u299 u300 u301 u302 u303 u304 u305 u306 u307 u308 u309 u310 u311 u312 u313 u314 u315 u316 u317 u318 u319 u320 u321 u322 u323 u324 u325 u326 u327 u328 u329 u330 u331 u332 u333 u334 u335 u336 u337 u338 u339 u340 u341 u342 u343 u344 u345 u346 u347 u348 u349 u350 u351 u352 u353 u354 u355 u356 u357 u358 u359 u360 u361 u362 u363 u364 u365 u366 u367 u368 u369 u370 u371 u372 u373 u374 u375 u376 u377 u378 u379 u380 u381 u382 u383 u384 u385 u386 u387 u388 u389 u390 u391 u392 u393 u394 hcut
      exact hR.out
end Go.Proofs.YtmdidmllaldbaaaGreat
