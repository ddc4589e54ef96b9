/- The walk of arboretumlaw18.LogPlays, part 1: what is left of it is the first part of front1. -/
import Derived.Test.YtmdidmllaldbaaaGreatLogPlaysW0
namespace Go.Proofs.YtmdidmllaldbaaaGreat
open Go.RowKit
set_option linter.unusedVariables false
set_option linter.unusedSimpArgs false
set_option maxRecDepth 100000 in
set_option maxHeartbeats 32000000 in
noncomputable def front1 : Σ' R : Prop, Later R → front0.1 := by
  apply PSigma.mk
  case snd =>
    intro hR
    intros w base term ao1 n1 c1 zero ao2 n2 c2 l1 l2 hb1 ht1 HE HO hnn hmm za1 w1 h120 HLt h60 hd60 hd60' w2 za2 HSm hd0 hd1 hll hbig htig v1 g1 d1 HL1 HV1 HG1 v2 q HV2 v3 rq f0 HQ HV3 HRQ HV23 no hno1 hno2 za3 za4 za5 za6 za7 za8 v4 HV4 HV34
    go_upto_if 99 with fail
    go_cut [12, 14] (fun s r wx => ((∃ (b rb : Nat) (x : LogV), s = .pointer (some ⟨b, 0, none⟩) ∧ r = .pointer (some ⟨rb, 0, none⟩) ∧ Hid (Logs v1.heap.size wx b rb x) ∧ Hid (Bnd x 1152921504606847037 60)) ∨ r = .pointer none) ∧ Hid (Below v1.heap.size v1 wx))
    case first =>
      clear hR
      as_aux_lemma =>
        cases zero with
        | true =>
          go_wp2_with fail
          go_meet
          refine ⟨.inl ⟨_, _, ⟨0, 0, []⟩, rfl, rfl, Lib.hid ?_, Lib.hid (Bnd.reset (by omega) (by omega))⟩, Lib.hid ((HV4.out.alloc HV4.out.size _).alloc (Nat.le_trans HV4.out.size (by simp)) _)⟩
          have k1 := heap_alloc_new v4 (.cells #[.int .i64 0, .int .i64 0, .slice none 0 0] 94)
          have k2 := heap_alloc_new (v4.alloc (.cells #[.int .i64 0, .int .i64 0, .slice none 0 0] 94)) (.cells #[.int .i64 0, .int .i64 0, .slice none 0 0] 96)
          have k3 := (Below.heap_alloc (v4.alloc (.cells #[.int .i64 0, .int .i64 0, .slice none 0 0] 94)) (.cells #[.int .i64 0, .int .i64 0, .slice none 0 0] 96) v4.heap.size (by simp)).trans k1
          exact ⟨⟨HV4.out.size, none, 0, k3, World.ownsRow_nil _ _ _ _⟩, ⟨Nat.le_trans HV4.out.size (by simp), none, 0, (by have h := k2; rw [show (v4.alloc (.cells #[.int .i64 0, .int .i64 0, .slice none 0 0] 94)).heap.size = v4.heap.size + 1 from by simp] at h; exact h), World.ownsRow_nil _ _ _ _⟩, fun g hg => by rw [rowAt_of k3] at hg; cases hg⟩
        | false =>
          go_wp2_with fail
          go_meet
          rcases HQ.out with ⟨h1, h2, b, h3, h4, h5⟩ | ⟨h1, h2, h3⟩ <;> rcases HRQ.out with ⟨k1, k2, rb, k3, k4, k5⟩ | ⟨k1, k2, k3⟩
          · refine ⟨.inl ⟨b, rb, _, by rw [h3], by rw [k3], Lib.hid ?_, Lib.hid (Bnd.new h1.1 (by omega) h1.2.2 (fun e he => by
              have h8 : e.dt.size ≤ (l1.map (·.dt.size)).sum := le_sum _ _ (List.mem_map.2 ⟨e, he, rfl⟩)
              have h9 : (l1.map (·.dt.size)).sum ≤ 12000 := HSm.out
              have := HSm.out
              omega) (by omega) (by omega))⟩, HV4⟩
            have m1 : LogAt v4 v1.heap.size b ⟨base, term, l1⟩ := (h5.below HV23.out (Nat.le_refl _)).below HV34.out (Nat.le_refl _)
            have m2 : RLogAt v4 v1.heap.size rb ⟨base, term, l1⟩ := RLogAt.mono (k5.below HV34.out (Nat.le_refl _)) HV2.out.size
            refine ⟨m1, m2, fun g hg hg2 => ?_⟩
            have a1 : rowAt v4 b = rowAt v2 b := (rowAt_below (h5.below HV23.out (Nat.le_refl _)).lt HV34.out).trans (rowAt_below h5.lt HV23.out)
            have a2 : rowAt v4 rb = rowAt v3 rb := rowAt_below k5.lt HV34.out
            rw [a1] at hg
            rw [a2] at hg2
            have := (h5.row hg).1
            have := (k5.row hg2).2.1
            omega
          · exact absurd h1 k1
          · exact absurd k1 h1
          · exact ⟨.inr (by rw [k3]), HV4⟩
    case rest =>
      obtain ⟨hcases, HVx⟩ := hcut
      rcases hcases with ⟨b, rb, x0, rfl, rfl, HLg, HBd⟩ | rfl
      case inr =>
        clear hR
        as_aux_lemma =>
          go_wp2_with fail
          refine (alive_any _).mono ?_
          rintro e w9 ⟨rfl, hb9⟩
          go_wp2_with fail
          go_ret
          exact ⟨rfl, (HV1.out.trans (HVx.out.mono HV1.out.size)).trans (hb9.mono (Nat.le_trans HV1.out.size HVx.out.size))⟩
      obtain ⟨cs0, hcs0, hcz0⟩ : ∃ cs : Array Value, wc.heap[g1]? = some (.cells cs 51 (0, 0)) ∧ n1 * 4 ≤ cs.size := by
        obtain ⟨_, _, ho⟩ := HL1.out.below HVx.out
        rcases ho.2 with ⟨hv, _⟩ | ⟨g', cap, cur, hv, _, hg, hnc, _, hsz, _⟩
        · cases hv
        · injection hv with hv _ hcc
          injection hv with hv
          injection hv with hv
          subst hv
          exact ⟨cur, hg, by omega⟩
      have HCs := Lib.hid (And.intro hcs0 hcz0)
      have hd1n : (n1 : Int) ≤ d1 := by have := HL1.out.1; omega
      clear hcs0 hcz0
      go_wp2_with fail
      rename_i zb1 zb2
      revert w base term ao1 n1 c1 zero ao2 n2 c2 l1 l2 hb1 ht1 HE HO hnn hmm za1 w1 h120 HLt h60 hd60 hd60' w2 za2 HSm hd0 hd1 hll hbig htig v1 g1 d1 HL1 HV1 HG1 v2 q HV2 v3 rq f0 HQ HV3 HRQ HV23 no hno1 hno2 v4 HV4 HV34 wc u45 u46 u47 u48 u49 u50 u51 u52 u53 u54 u55 u56 u57 u58 u59 u60 u61 u62 u63 u64 u65 u66 u67 u68 u69 u70 u71 u72 u73 u74 u75 u76 u77 u78 u79 u80 u81 u82 u83 u84 u85 u86 u87 u88 u89 u90 u91 u92 u93 u94 u95 u96 u97 u98 u99 u100 u101 u102 u103 u104 u105 u106 u107 u108 u109 u110 u111 u112 u113 u114 u115 u116 u117 u118 u119 u120 u121 u122 u123 u124 u125 u126 u127 u128 u129 u132 u133 u134 u135 u136 u137 u138 u139 u140 u141 u142 u143 u144 u145 u146 u147 u148 u149 u151 u152 u153 u154 u155 u156 u157 u158 u159 u160 u161 u162 u163 u164 u165 u166 u167 u168 u169 u170 u171 u172 u173 u174 u175 u176 u177 u178 u179 u180 u181 u182 u183 u184 u185 u186 u187 u188 u189 u190 u191 u192 u193 u194 u196 u197 u198 u199 u200 u201 u202 u203 u204 u205 u207 u208 u209 u210 u211 u212 u213 u214 u215 u216 u217 u218 u219 u220 u221 u222 u223 u224 u225 u226 u227 u228 u229 u230 u231 u232 u233 u234 u235 u236 u237 u238 u239 u240 u241 u242 u243 u244 u245 u246 u247 u248 u249 u250 u251 u252 u253 u254 u255 u256 u257 u258 u259 u260 u261 u262 u263 u264 u265 u266 u267 u268 u269 u270 u271 u272 u273 u274 u275 u276 u277 u278 u279 u280 u281 u282 u283 u284 u285 u286 u287 u288 u289 u290 u291 u292 u293 u294 u295 u296 u297 u298 u299 u300 u301 u302 u303 u304 u305 u306 u307 u308 u309 u310 u311 u312 u313 u314 u315 u316 u317 u318 u319 u320 u321 u322 u323 u324 u325 u326 u327 u328 u329 u330 u331 u332 u333 u334 u335 u336 u337 u338 u339 u340 u341 u342 u343 u344 u345 u346 u347 u348 u349 u350 u351 u352 u353 u354 u355 u356 u357 u358 u359 u360 u361 u362 u363 u364 u365 u366 u367 u368 u369 u370 u371 u372 u373 u374 u375 u376 u377 u378 u379 u380 u381 u382 u383 u384 u385 u386 u387 u388 u389 u390 u391 u392 u393 u394 u395 u396 u397 u398 u399 HVx b rb x0 HLg HBd cs0 HCs hd1n zb1 zb2
      exact hR.out
end Go.Proofs.YtmdidmllaldbaaaGreat
