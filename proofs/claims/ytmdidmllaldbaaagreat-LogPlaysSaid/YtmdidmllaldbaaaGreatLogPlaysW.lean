/- The walk of arboretumlaw18.LogPlays. -/
import Derived.Test.YtmdidmllaldbaaaGreatLogPlaysW4
namespace Go.Proofs.YtmdidmllaldbaaaGreat
open Go.RowKit
set_option linter.unusedVariables false
set_option linter.unusedSimpArgs false
set_option maxRecDepth 100000 in
set_option maxHeartbeats 32000000 in
theorem back_LogPlays : front4.1 := by
  intros w base term ao1 c1 zero n2 c2 l1 l2 hb1 ht1 hmm za1 w1 h120 HLt w2 HSm hd0 hd1 hbig htig v1 g1 d1 HV1 HG1 v2 zd1 HV2 v3 rq f0 HQ HV3 HRQ HV23 no hno1 hno2 v4 HV4 HV34 ze1 u45 u46 u47 u48 u49 u50 u51 u52 u53 u54 u55 u56 u57 u58 u59 u60 u61 u62 u63 u64 u65 u66 u67 u68 u69 u70 u71 u72 u73 u74 u75 u76 u77 u78 u79 u80 u81 u82 u83 u84 u85 u86 u87 u88 u89 u90 u91 u92 u93 u94 u95 u96 u97 u98 u99 u100 u101 u102 u103 u104 u105 u106 zc1 zc2 zc3 zc4 zc5 zc6 zc7 zc8 zc9 zc10 u117 u118 zd2 zd3 zd4 zd5 zd6 zd7 zd8 zd9 zd10 zd11 zd12 zd13 zd14 zd15 zd16 zd17 zd18 zd19 zd20 zd21 zd22 zd23 zd24 zd25 zd26 zd27 zd28 zd29 zd30 zd31 zd32 zd33 zd34 zd35 zd36 zd37 zd38 zd39 zd40 zd41 zd42 zd43 zd44 zd45 zd46 zd47 zd48 zd49 zd50 zd51 zd52 zd53 zd54 zd55 zd56 zd57 zd58 zd59 zd60 zd61 zd62 zd63 zd64 zd65 zd66 zd67 zd68 zd69 zd70 zd71 zd72 zd73 zd74 zd75 zd76 zd77 zd78 zd79 zd80 zd81 zd82 zd83 zd84 zd85 zd86 zd87 zd88 zd89 zd90 zd91 zd92 zd93 zd94 zd95 zd96 zd97 zd98 zd99 zd100 zd101 zd102 zd103 zd104 zd105 zd106 zd107 zd108 zd109 zd110 zd111 zd112 zd113 zd114 zd115 zd116 zd117 zd118 zd119 zd120 zd121 zd122 zd123 zd124 zd125 zd126 zd127 zd128 zd129 zd130 zd131 zd132 zd133 zd134 zd135 zd136 zd137 zd138 zd139 zd140 zd141 zd142 zd143 zd144 zd145 zd146 zd147 zd148 zd149 zd150 zd151 zd152 zd153 zd154 zd155 zd156 zd157 zd158 zd159 zd160 zd161 zd162 zd163 zd164 zd165 zd166 zd167 zd168 zd169 zd170 zd171 zd172 zd173 zd174 zd175 zd176 zd177 zd178 zd179 zd180 zd181 zd182 zd183 zd184 zd185 zd186 zd187 zd188 zd189 zd190 zd191 zd192 zd193 zd194 zd195 zd196 zd197 zd198 zd199 zd200 zd201 zd202 zd203 zd204 zd205 zd206 zd207 zd208 zd209 zd210 zd211 zd212 zd213 zd214 zd215 zd216 zd217 zd218 zd219 zd220 zd221 zd222 zd223 zd224 zd225 zd226 zd227 zd228 zd229 zd230 zd231 zd232 zd233 zd234 zd235 zd236 zd237 zd238 zd239 zd240 zd241 zd242 zd243 zd244 zd245 zd246 zd247 zd248 zd249 zd250 zd251 zd252 zd253 zd254 zd255 zd256 zd257 zd258 zd259 zd260 zd261 zd262 zd263 zd264 zd265 zd266 zd267 zd268 zd269 zd270 zd271 zd272 u395 u396 u397 u398 u399 HVx b rb x0 HLg zc11 cs0 zb1 wA u107 u108 u109 u110 u111 u112 u113 u114 u115 u116 zd273 cs HE hnn h60 hd60 hd60' za2 hll HL1 hd1n zd274 zd275 zd276 zd277 zd278 zd279 HBd zc13 zc15 zc16 wr ze2 u19 ze3 ze4 ze5 ze6 ze7 u25 u26 u27 u28 u29 u30 u31 u32 u33 u34 u35 u36 u37 u38 u39 u40 u41 u42 u43 u44 ze8 ze9 ze10 ze11 ze12 ze13 ze14 ze15 ze16 ze17 ze18 ze19 ze20 ze21 ze22 ze23 ze24 ze25 ze26 ze27 ze28 ze29 ze30 ze31 ze32 ze33 ze34 ze35 ze36 ze37 ze38 ze39 ze40 ze41 ze42 ze43 ze44 ze45 ze46 ze47 ze48 ze49 ze50 ze51 ze52 ze53 ze54 ze55 ze56 ze57 ze58 ze59 ze60 ze61 ze62 ze63 ze64 ze65 ze66 ze67 ze68 ze69 ze70 ze71 ze72 ze73 ze74 ze75 ze76 ze77 ze78 ze79 ze80 ze81 ze82 ze83 ze84 ze85 ze86 ze87 ze88 ze89 ze90 ze91 ze92 ze93 ze94 ze95 ze96 ze97 ze98 ze99 ze100 ze101 ze102 ze103 ze104 ze105 ze106 ze107 ze108 ze109 ze110 ze111 ze112 ze113 ze114 ze115 ze116 ze117 ze118 ze119 ze120 ze121 ze122 ze123 ze124 ze125 ze126 ze127 ze128 ze129 ze130 ze131 ze132 ze133 ze134 ze135 ze136 ze137 ze138 ze139 ze140 ze141 ze142 ze143 ze144 ze145 ze146 ze147 ze148 ze149 ze150 ze151 ze152 ze153 ze154 ze155 ze156 ze157 ze158 ze159 ze160 ze161 ze162 ze163 ze164 ze165 ze166 ze167 ze168 ze169 ze170 ze171 ze172 ze173 ze174 ze175 ze176 ze177 ze178 ze179 ze180 ze181 ze182 ze183 ze184 ze185 ze186 ze187 ze188 ze189 ze190 ze191 ze192 ze193 ze194 ze195 ze196 ze197 ze198 ze199 ze200 ze201 ze202 ze203 ze204 ze205 ze206 ze207 ze208 ze209 ze210 ze211 ze212 ze213 ze214 ze215 ze216 ze217 ze218 ze219 ze220 ze221 ze222 ze223 ze224 ze225 ze226 ze227 ze228 ze229 ze230 ze231 ze232 ze233 ze234 ze235 ze236 ze237 ze238 ze239 ze240 ze241 ze242 ze243 ze244 ze245 ze246 ze247 ze248 ze249 ze250 ze251 ze252 ze253 ze254 ze255 ze256 ze257 ze258 ze259 ze260 ze261 ze262 ze263 ze264 ze265 ze266 ze267 ze268 ze269 ze270 ze271 ze272 ze273 ze274 ze275 ze276 ze277 ze278 ze279 ze280 ze281 ze282 ze283 k rb2 o x hk HB hkn hd2 hd2' ob oo e HO zc12 zc14 hobB HLi HOk hx1 hx2 zd280 zd281 zd282 zd283 zd284 W0 o0 HP0 q HQ0 HT0 HQT wc u10 u14 u20 u21 u22 u23 u24 u119 u120 u121 u122 u123 u124 u125 u126 u127 u128 u129 u130 u131 u132 u133 u134 u135 u136 u137 u138 u139 u140 u141 u142 u143 u144 u145 u146 u147 u148 u149 u150 u151 u152 u153 u154 u155 u156 u157 u158 u159 u160 u161 u162 u163 u164 u165 u166 u167 u168 u169 u170 u171 u172 u173 u174 u175 u176 u177 u178 u179 u180 u181 u182 u183 u184 u185 u186 u187 u188 u189 u190 u191 u192 u193 u194 u195 u196 u197 u198 u199 u200 u201 u202 u203 u204 u205 u206 u207 u208 u209 u210 u211 u212 u213 u214 u215 u216 u217 u218 u219 u220 u221 u222 u223 u224 u225 u226 u227 u228 u229 u230 u231 u232 u233 u234 u235 u236 u237 u238 u239 u240 u241 u242 u243 u244 u245 u246 u247 u248 u249 u250 u251 u252 u253 u254 u255 u256 u257 u258 u259 u260 u261 u262 u263 u264 u265 u266 u267 u268 u269 u270 u271 u272 u273 u274 u275 u276 u277 u278 u279 u280 u281 u282 u283 u284 u285 u286 u287 u288 u289 u290 u291 u292 u293 u294 u295 u296 u297 u298 u299 u300 u301 u302 u303 u304 u305 u306 u307 u308 u309 u310 u311 u312 u313 u314 u315 u316 u317 u318 u319 u320 u321 u322 u323 u324 u325 u326 u327 u328 u329 u330 u331 u332 u333 u334 u335 u336 u337 u338 u339 u340 u341 u342 u343 u344 u345 u346 u347 u348 u349 u350 u351 u352 u353 u354 u355 u356 u357 u358 u359 u360 u361 u362 u363 u364 u365 u366 u367 u368 u369 u370 u371 u372 u373 u374 u375 u376 u377 u378 u379 u380 u381 u382 u383 u384 u385 u386 u387 u388 u389 u390 u391 u392 u393 u394 hcut
  as_aux_lemma =>
    obtain ⟨rb3, o3, x3, rfl, HD, HB3⟩ := hcut
    rename World => wx
    have hea : e.a ≤ 9223372036854775807 := HOk.out.1.2
    obtain ⟨ba, bt, L1, L2, T1, T2, A1, A2, A3, A4, A5, sl, ms, mi, nw, n3, rao, rcap, hR, hn3, hba, hbt, hnw⟩ := HD.out.pl.reads HB3.out (by omega) (by omega) e.a e.b hea
    have HR := Lib.hid hR
    have HN3 := Lib.hid hn3
    have HBa := Lib.hid hba
    have HBt := Lib.hid hbt
    have HNw := Lib.hid hnw
    have hn9 : n3 ≤ 360 := by have := HB3.out.few; omega
    have r2 : wx.cell? ⟨rb3, 2, none⟩ = some (.slice rao n3 rcap) := by rw [blk_cell (hR.cell _ (Below.refl _ _))]; rfl
    have HS : Hid (∀ W, Below wx.heap.size wx W → OpAt W q e) := Lib.hid (fun W hb => HD.out.op.below hb)
    clear hR hn3 hba hbt hnw
    by_cases h300 : 300 < n3
    · have hd3 : decide (300 < n3) = true := by simpa using h300
      have hd3' : decide ((300 : Int) < (n3 : Int)) = true := by simp; omega
      go_wp2_with fail
      go_ret
      exact ⟨rfl, HD.out.pl.bs.bel⟩
    have hd3 : decide (300 < n3) = false := by simpa using h300
    have hd3' : decide ((300 : Int) < (n3 : Int)) = false := by simp; omega
    have HBn : Hid (Bnd x3 (1152921504606847037 + 60 * ((k + 1 : Nat) : Int)) 300) := Lib.hid ⟨HB3.out.con, HB3.out.b0, HB3.out.end_, by rw [← HN3.out]; omega, HB3.out.dt⟩
    go_wp2_with fail
    refine (HR.out.cBase _ (Below.refl _ _)).mono ?_
    rintro ε y1 ⟨rfl, hb1⟩
    have HV := Lib.hid hb1
    clear hb1 r2 hd3 hd3'
    go_wp2_with fail
    refine (HR.out.cLast _ HV.out).mono ?_
    rintro ε y2 ⟨rfl, hb2⟩
    have HV := Lib.hid (HV.out.trans (hb2.mono HV.out.size))
    clear hb2
    go_wp2_with fail
    refine (HR.out.cRLast _ HV.out).mono ?_
    rintro ε y3 ⟨rfl, hb3⟩
    have HV := Lib.hid (HV.out.trans (hb3.mono HV.out.size))
    have q1 := (HS.out _ HV.out).cells.2.1
    clear hb3
    go_wp2_with fail
    refine (HR.out.cTerm _ HV.out).mono ?_
    rintro ε y4 ⟨rfl, hb4⟩
    have HV := Lib.hid (HV.out.trans (hb4.mono HV.out.size))
    have q2 := (HS.out _ HV.out).cells.2.1
    clear hb4 q1
    go_wp2_with fail
    refine (HR.out.cRTerm _ HV.out).mono ?_
    rintro ε y5 ⟨rfl, hb5⟩
    have HV := Lib.hid (HV.out.trans (hb5.mono HV.out.size))
    have q1 := (HS.out _ HV.out).cells.2.1
    clear hb5 q2
    go_wp2_with fail
    refine (HR.out.cAt _ HV.out).mono ?_
    rintro ε y6 ⟨rfl, hb6⟩
    have HV := Lib.hid (HV.out.trans (hb6.mono HV.out.size))
    have HV6 : Hid (Below wx.heap.size wx (y6.alloc (.cells #[.int .i64 A1, .int .i64 A2, .int .i64 A3, .string A4] 51))) := Lib.hid (HV.out.alloc HV.out.size _)
    have HG6 : Hid (wx.heap.size ≤ y6.heap.size) := Lib.hid HV.out.size
    have q2 := (HS.out _ HV6.out).cells.2.1
    clear hb6 q1
    go_wp2_with fail
    refine (HR.out.cRAt _ HV6.out).mono ?_
    rintro ε y7 ⟨rfl, hb7⟩
    have KA : Hid (y7.heap[y6.heap.size]? = some (.cells #[.int .i64 A1, .int .i64 A2, .int .i64 A3, .string A4] 51 (0, 0))) := Lib.hid ((hb7.block _ (by simp)).trans (heap_alloc_new y6 _))
    have HV := Lib.hid (HV6.out.trans (hb7.mono HV6.out.size))
    have HG7 : Hid (wx.heap.size ≤ y7.heap.size) := Lib.hid HV.out.size
    have HV7 : Hid (Below wx.heap.size wx (y7.alloc (.cells #[.int .i64 A1, .int .i64 A2, .int .i64 A3, .string A4] 51))) := Lib.hid (HV.out.alloc HV.out.size _)
    have KA := Lib.hid (((Below.refl y7.heap.size y7).alloc (Nat.le_refl _) (.cells #[.int .i64 A1, .int .i64 A2, .int .i64 A3, .string A4] 51)).block _ (blk_lt KA.out) |>.trans KA.out)
    have KB : Hid ((y7.alloc (.cells #[.int .i64 A1, .int .i64 A2, .int .i64 A3, .string A4] 51)).heap[y7.heap.size]? = some (.cells #[.int .i64 A1, .int .i64 A2, .int .i64 A3, .string A4] 51 (0, 0))) := Lib.hid (heap_alloc_new y7 _)
    clear hb7 q2 HV HV6
    go_upto_region 48 with fail
    generalize y7.alloc (.cells #[.int .i64 A1, .int .i64 A2, .int .i64 A3, .string A4] 51) = V0 at HV7 KA KB ⊢
    generalize y7.heap.size = gb at HG7 KB ⊢
    generalize y6.heap.size = ga at HG6 KA ⊢
    obtain ⟨N, hN⟩ : ∃ N, N = sl.length := ⟨_, rfl⟩
    have HN := Lib.hid hN
    clear hN
    go_cut [39, 40] from 119 to 394 (fun s t W => ∃ (aoS : Option Addr) (cS : Nat) (aoT : Option Addr) (cT : Nat), s = .slice aoS N cS ∧ t = .slice aoT N cT ∧ Hid (Below V0.heap.size V0 W) ∧ Hid (W.ownsRow V0.heap.size 51 4 (.slice aoS N cS) N (entCells sl)) ∧ Hid (W.ownsRow V0.heap.size 51 4 (.slice aoT N cT) N (entCells sl)))
    case first =>
      as_aux_lemma =>
        have hvx : Below wx.heap.size wx V0 := HV7.out
        have hz0 : wx.heap.size ≤ V0.heap.size := hvx.size
        have hrr : Below V0.heap.size V0 V0 := Below.refl _ _
        go_region_held3 (fun W => W.cell? ⟨q, 1, none⟩ = some (.int .i64 e.a) ∧ W.cell? ⟨q, 2, none⟩ = some (.int .i64 e.b))
          ((refine OpAt.two (HS.out _ ?_); (repeat (with_reducible (first | assumption | refine Below.drew ?_)))))
          (first
            | (go_at_call 71; ((refine (HR.out.cSl _ (by repeat (with_reducible (first | assumption | refine Below.drew ?_)))).mono ?_); rintro ε8 y8 ⟨aoS, NS, cS, rfl, hoS, hlS, hb8⟩; have hv8 : Below V0.heap.size V0 y8 := (by refine Below.trans (b := _) ?_ hb8; (repeat (with_reducible (first | assumption | refine Below.drew ?_)))); have hx8 : Below wx.heap.size wx y8 := hvx.trans (hv8.mono hz0); have hz8 : V0.heap.size ≤ y8.heap.size := hv8.size; have hrr8 : Below y8.heap.size y8 y8 := Below.refl _ _; have ho8 : y8.ownsRow V0.heap.size 51 4 (.slice aoS NS cS) NS (entCells sl) := hoS; clear hoS hb8))
            | (go_at_call 72; ((refine (HR.out.cRSl _ (by repeat (with_reducible (first | assumption | refine Below.drew ?_)))).mono ?_); rintro ε9 y9 ⟨aoT, NT, cT, rfl, hoT, hlT, hb9⟩; have hv9 : Below y8.heap.size y8 y9 := (by refine Below.trans (b := _) ?_ hb9; (repeat (with_reducible (first | assumption | refine Below.drew ?_)))); have hx9 : Below wx.heap.size wx y9 := hx8.trans (hv9.mono (by omega)); have hw9 : Below V0.heap.size V0 y9 := hv8.trans (hv9.mono hz8); have ho9 : y9.ownsRow y8.heap.size 51 4 (.slice aoT NT cT) NT (entCells sl) := hoT; clear hoT hb9)))
        all_goals (
          obtain rfl : NS = N := hlS.symm.trans HN.out.symm
          obtain rfl : NT = NS := hlT.symm.trans hlS
          have HW := Lib.hid hw9
          have HO8 := Lib.hid (own_below ho8 hv9)
          have HO9 := Lib.hid (own_monoK ho9 hz8)
          clear hlS hlT hv8 hx8 hrr8 ho8 hv9 hx9 hw9 ho9
          go_wp2_with fail
          go_meet
          exact ⟨aoS, cS, aoT, cT, rfl, rfl, Lib.hid (by have := HW.out; repeat (with_reducible (first | assumption | refine Below.drew ?_))), Lib.hid (own_below HO8.out (by repeat (with_reducible (first | exact Below.refl _ _ | refine Below.drew ?_)))), Lib.hid (own_below HO9.out (by repeat (with_reducible (first | exact Below.refl _ _ | refine Below.drew ?_))))⟩)
    case rest =>
      as_aux_lemma =>
        obtain ⟨aoS, cS, aoT, cT, rfl, rfl, HV8, HoS, HoT⟩ := hcut
        rename World => V1
        have HV := Lib.hid (HV7.out.trans (HV8.out.mono HV7.out.size))
        have HZ0 : Hid (wx.heap.size ≤ V0.heap.size) := Lib.hid HV7.out.size
        have KA := Lib.hid ((HV8.out.block _ (blk_lt KA.out)).trans KA.out)
        have KB := Lib.hid ((HV8.out.block _ (blk_lt KB.out)).trans KB.out)
        have q1 := (HS.out _ HV.out).cells.2.1
        clear HV8 HV7
        go_wp2_with fail
        refine (HR.out.cMem _ HV.out).mono ?_
        rintro ε y10 ⟨aoY, NY, cY, rfl, hoY, hlY, hb10⟩
        have HX := Lib.hid (HV.out.trans (hb10.mono HV.out.size))
        have q2 := (HS.out _ HX.out).cells.2.1
        have HB10 := Lib.hid hb10
        have HoY := Lib.hid hoY
        clear q1 hb10 hoY
        go_wp2_with fail
        refine (HR.out.cRMem _ HX.out).mono ?_
        rintro ε y11 ⟨aoM, NM, cM, rfl, hoM, hlM, hb11⟩
        obtain rfl : NM = NY := hlM.symm.trans hlY
        have b11 : Below V1.heap.size V1 y11 := HB10.out.trans (hb11.mono HB10.out.size)
        have hx11 : Below wx.heap.size wx y11 := HX.out.trans (hb11.mono HX.out.size)
        have oS := own_monoK (own_below HoS.out b11) HZ0.out
        have oT := own_monoK (own_below HoT.out b11) HZ0.out
        have oY := own_monoK (own_below HoY.out hb11) HV.out.size
        have oM := own_monoK hoM HX.out.size
        obtain ⟨o4, hag, ht0, ht1, hns⟩ := tags2 (o := o3) (N := wx.heap.size) (v := .slice aoS N cS) (v' := .slice aoY NM cY) (fun g hg => (oS.lt g hg).1) (fun g hg => (oY.lt g hg).1) (own_ne_later HoS.out HoY.out (Nat.le_refl _))
        have pl := (HD.out.pl.agree hag).calm hx11
        have opq : OpAt y11 q e ∧ o4 q = (89, 0, 0) := ⟨HS.out _ hx11, (hag q HD.out.op.lt).trans HD.out.tg⟩
        have hbw : w.heap.size ≤ wx.heap.size := HD.out.pl.bs.bel.size
        have HAdd := Lib.hid (pl.bs.addE (own_monoK oS hbw) HN.out.symm (by have := HR.out.sn; have := HN.out; omega) (ht0 _))
        have HPl := Lib.hid pl
        have HOq := Lib.hid opq
        have HT1 := Lib.hid ht1
        have HNs := Lib.hid hns
        have HOS := Lib.hid oS
        have HOT := Lib.hid oT
        have HOY := Lib.hid oY
        have HOM := Lib.hid oM
        have HX11 := Lib.hid hx11
        have KA := Lib.hid ((b11.block _ (blk_lt KA.out)).trans KA.out)
        have KB := Lib.hid ((b11.block _ (blk_lt KB.out)).trans KB.out)
        have HBw := Lib.hid hbw
        clear q2 hoM hb11 b11 hx11 oS oT oY oM hag ht0 ht1 hns pl opq hbw HX HB10 HoS HoT HoY HV
        as_aux_lemma =>
          go_wp2_with fail
          refine HAdd.out.mono ?_
          rintro ε y12 ⟨rfl, o5, B12, U12, T12⟩
          have pl12 := HPl.out.kept B12 U12 T12
          have op12 := HPl.out.opStays HOq.out.1 HOq.out.2 U12 T12
          have P12 : Pres wx.heap.size y11 y12 := Pres.ofTurn T12 (fun g hg _ => HNs.out g hg)
          have HAdd2 := Lib.hid (pl12.bs.addI (own_monoK (own_pres HOY.out P12 (Nat.le_refl _)) HBw.out) hlY (by have := HR.out.mn; omega) ((U12.wait (by decide) (HT1.out _)).more HOY.out _))
          have HPl := Lib.hid pl12
          have HOq := Lib.hid op12
          have HU12 := Lib.hid U12
          have HT12 := Lib.hid T12
          have HP12 := Lib.hid P12
          clear B12 U12 T12 pl12 op12 P12 HAdd
          go_wp2_with fail
          refine HAdd2.out.mono ?_
          rintro ε y13 ⟨rfl, o6, B13, U13, T13⟩
          have pl13 := HPl.out.kept B13 U13 T13
          have op13 := HPl.out.opStays HOq.out.1 HOq.out.2 U13 T13
          have P13 : Pres wx.heap.size y11 y13 := ⟨Nat.le_trans HT12.out.size T13.size, fun g hg hlt => (T13.block g (Nat.lt_of_lt_of_le hlt HT12.out.size) (HU12.out.not hlt (HNs.out g hg))).trans (HP12.out.block g hg hlt)⟩
          obtain ⟨rao', rcap', _, hrk, _⟩ := pl13.rl.parts
          rw [← HBa.out, ← HBt.out, ← HN3.out] at hrk
          have HMo := Lib.hid (pl13.more e.a e.b hrk HN3.out HNw.out)
          have HPl := Lib.hid pl13
          have HOq := Lib.hid op13.1
          have HOS := Lib.hid (own_pres HOS.out P13 (Nat.le_refl _))
          have HOT := Lib.hid (own_pres HOT.out P13 (Nat.le_refl _))
          have HOY := Lib.hid (own_pres HOY.out P13 (Nat.le_refl _))
          have HOM := Lib.hid (own_pres HOM.out P13 (Nat.le_refl _))
          have KA := Lib.hid ((P13.block _ HG6.out (blk_lt KA.out)).trans KA.out)
          have KB := Lib.hid ((P13.block _ HG7.out (blk_lt KB.out)).trans KB.out)
          have hN9 : N ≤ 100000 := by have := HR.out.sn; have := HN.out; omega
          have hY9 : NM ≤ 9 := by have := HR.out.mn; omega
          have hRk : Hid (∀ W, Below y13.heap.size y13 W → W.heap[rb3]? = some (.cells #[.int .i64 ba, .int .i64 bt, .slice rao' n3 rcap'] 96 (0, 0))) := Lib.hid HMo.out.cell
          clear B13 U13 T13 pl13 op13 P13 hrk HAdd2 HU12 HT12 HP12 HNs HT1
          as_aux_lemma =>
            have C1 : Hid (∀ W, Below y13.heap.size y13 W → Calls Tryz.prog 25 #[.slice aoS N cS, .slice aoT N cT] W fun e w' => e = .returned (.bool true) ∧ Below W.heap.size W w') := Lib.hid (fun W hb => sameE_yes (ents_own (own_below HOS.out hb)) (ents_own (own_below HOT.out hb)) (by omega))
            have C2 : Hid (∀ W, Below y13.heap.size y13 W → Calls Tryz.prog 29 #[.slice aoY NM cY, .slice aoM NM cM] W fun e w' => e = .returned (.bool true) ∧ Below W.heap.size W w') := Lib.hid (fun W hb => bkSameI (Reads.own (own_below HOY.out hb)) (Reads.own (own_below HOM.out hb)) hlY (by omega))
            have F1 : Hid (∀ W, Below y13.heap.size y13 W → W.heap[ga]? = some (.cells #[.int .i64 A1, .int .i64 A2, .int .i64 A3, .string A4] 51 (0, 0)) ∧ W.heap[gb]? = some (.cells #[.int .i64 A1, .int .i64 A2, .int .i64 A3, .string A4] 51 (0, 0)) ∧ OpAt W q e) := Lib.hid (fun W hb => ⟨(hb.block _ (blk_lt KA.out)).trans KA.out, (hb.block _ (blk_lt KB.out)).trans KB.out, HOq.out.below hb⟩)
            clear HOS HOT HOY HOM KA KB hlY hlM HS HOq
            have z0 : ∀ p : SinceW y13.heap.size y13, p.w.cell? ⟨rb3, 0, none⟩ = some (.int .i64 ba) := fun p => by rw [blk_cell (hRk.out _ p.h)]; rfl
            have z1 : ∀ p : SinceW y13.heap.size y13, p.w.cell? ⟨rb3, 1, none⟩ = some (.int .i64 bt) := fun p => by rw [blk_cell (hRk.out _ p.h)]; rfl
            have z2 : ∀ p : SinceW y13.heap.size y13, p.w.cell? ⟨rb3, 2, none⟩ = some (.slice rao' n3 rcap') := fun p => by rw [blk_cell (hRk.out _ p.h)]; rfl
            have m0 : ∀ p : SinceW y13.heap.size y13, p.w.cell? ⟨ga, 0, none⟩ = some (.int .i64 A1) := fun p => by rw [blk_cell (F1.out _ p.h).1]; rfl
            have m1 : ∀ p : SinceW y13.heap.size y13, p.w.cell? ⟨ga, 1, none⟩ = some (.int .i64 A2) := fun p => by rw [blk_cell (F1.out _ p.h).1]; rfl
            have m2 : ∀ p : SinceW y13.heap.size y13, p.w.cell? ⟨ga, 2, none⟩ = some (.int .i64 A3) := fun p => by rw [blk_cell (F1.out _ p.h).1]; rfl
            have m3 : ∀ p : SinceW y13.heap.size y13, p.w.cell? ⟨ga, 3, none⟩ = some (.string A4) := fun p => by rw [blk_cell (F1.out _ p.h).1]; rfl
            have p0 : ∀ p : SinceW y13.heap.size y13, p.w.cell? ⟨gb, 0, none⟩ = some (.int .i64 A1) := fun p => by rw [blk_cell (F1.out _ p.h).2.1]; rfl
            have p1 : ∀ p : SinceW y13.heap.size y13, p.w.cell? ⟨gb, 1, none⟩ = some (.int .i64 A2) := fun p => by rw [blk_cell (F1.out _ p.h).2.1]; rfl
            have p2 : ∀ p : SinceW y13.heap.size y13, p.w.cell? ⟨gb, 2, none⟩ = some (.int .i64 A3) := fun p => by rw [blk_cell (F1.out _ p.h).2.1]; rfl
            have p3 : ∀ p : SinceW y13.heap.size y13, p.w.cell? ⟨gb, 3, none⟩ = some (.string A4) := fun p => by rw [blk_cell (F1.out _ p.h).2.1]; rfl
            have e1' : ∀ p : SinceW y13.heap.size y13, p.w.cell? ⟨q, 1, none⟩ = some (.int .i64 e.a) := fun p => (F1.out _ p.h).2.2.cells.2.1
            have e2' : ∀ p : SinceW y13.heap.size y13, p.w.cell? ⟨q, 2, none⟩ = some (.int .i64 e.b) := fun p => (F1.out _ p.h).2.2.cells.2.2.1
            go_wp2_with fail
            refine wp_region_since (B := y13.heap.size) (W0 := y13) (by kernel_rfl) (by kernel_rfl) (Below.refl _ _) ?_
            simp only [List.append_eq, List.cons_append, List.nil_append]
            iterate 24 (go_big_quiet_step (first
              | (go_at_call 25; exact since_call (Nat.le_refl _) (C1.out _ (SinceW.h _)))
              | (go_at_call 29; exact since_call (Nat.le_refl _) (C2.out _ (SinceW.h _)))
              | (go_at_call 75; exact since_same (HMo.out.cLen _ (SinceW.h _)))
              | (go_at_call 76; exact since_call (Nat.le_refl _) (HMo.out.cNew _ (SinceW.h _)))
              | (go_at_call 77; exact since_call (Nat.le_refl _) (HMo.out.cRNew _ (SinceW.h _)))))
            as_aux_lemma =>
              iterate 24 (go_big_quiet_step (first
                | (go_at_call 25; exact since_call (Nat.le_refl _) (C1.out _ (SinceW.h _)))
                | (go_at_call 29; exact since_call (Nat.le_refl _) (C2.out _ (SinceW.h _)))
                | (go_at_call 75; exact since_same (HMo.out.cLen _ (SinceW.h _)))
                | (go_at_call 76; exact since_call (Nat.le_refl _) (HMo.out.cNew _ (SinceW.h _)))
                | (go_at_call 77; exact since_call (Nat.le_refl _) (HMo.out.cRNew _ (SinceW.h _)))))
              as_aux_lemma =>
                iterate 24 (go_big_quiet_step (first
                  | (go_at_call 25; exact since_call (Nat.le_refl _) (C1.out _ (SinceW.h _)))
                  | (go_at_call 29; exact since_call (Nat.le_refl _) (C2.out _ (SinceW.h _)))
                  | (go_at_call 75; exact since_same (HMo.out.cLen _ (SinceW.h _)))
                  | (go_at_call 76; exact since_call (Nat.le_refl _) (HMo.out.cNew _ (SinceW.h _)))
                  | (go_at_call 77; exact since_call (Nat.le_refl _) (HMo.out.cRNew _ (SinceW.h _)))))
                as_aux_lemma =>
                  repeat (go_big_quiet_step (first
                    | (go_at_call 25; exact since_call (Nat.le_refl _) (C1.out _ (SinceW.h _)))
                    | (go_at_call 29; exact since_call (Nat.le_refl _) (C2.out _ (SinceW.h _)))
                    | (go_at_call 75; exact since_same (HMo.out.cLen _ (SinceW.h _)))
                    | (go_at_call 76; exact since_call (Nat.le_refl _) (HMo.out.cNew _ (SinceW.h _)))
                    | (go_at_call 77; exact since_call (Nat.le_refl _) (HMo.out.cRNew _ (SinceW.h _)))))
                  as_aux_lemma =>
                    refine wpQuiet_nil ?_
                    intro _ hw'
                    obtain ⟨⟨w5, hv5⟩, rfl⟩ := hw'
                    have HV5 := Lib.hid hv5
                    clear z0 z1 z2 m0 m1 m2 m3 p0 p1 p2 p3 e1' e2' hv5
                    go_wp2_with fail
                    go_roundw
                    case rel => exact ⟨k + 1, rb3, o6, x3, by omega, by go_num, rfl, Lib.hid (HPl.out.calm HV5.out), HBn⟩
                    case measure => simp [intOf] <;> omega
theorem walk_LogPlays {w : World} (base : Int) (hbw : (Lit.int .i64 base).wf = true) (term : Int) (htw : (Lit.int .i64 term).wf = true) (ao1 : Option Addr) (n1 c1 : Nat) (z1 : ∃ l, EntsIn w ao1 n1 c1 l) (zero : Bool) (ao2 : Option Addr) (n2 c2 : Nat) (z2 : ∃ l, LopsIn w ao2 n2 c2 l) :
    Calls Tryz.prog 5 #[.int .i64 base, .int .i64 term, .slice ao1 n1 c1, .bool zero, .slice ao2 n2 c2] w fun e w' => e = .returned (.bool true) ∧ Below w.heap.size w w' :=
  front0.2 ⟨front1.2 ⟨front2.2 ⟨front3.2 ⟨front4.2 ⟨back_LogPlays⟩⟩⟩⟩⟩ w base hbw term htw ao1 n1 c1 z1 zero ao2 n2 c2 z2
end Go.Proofs.YtmdidmllaldbaaaGreat
