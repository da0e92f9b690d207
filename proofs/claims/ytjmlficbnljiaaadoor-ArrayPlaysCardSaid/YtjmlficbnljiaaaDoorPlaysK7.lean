/- The walk of assentlaw6.ArrayPlays, part 7 of 7 of a round: REST. -/
import Derived.Test.YtjmlficbnljiaaaDoorPlays
namespace Go.Proofs.YtjmlficbnljiaaaDoor
open Go.RowKit

set_option maxHeartbeats 40000000 in
set_option maxRecDepth 20000 in
theorem plays_part7 : plays_split.P7 := by
  intro w p b o c l hll HG HP n k HN8 HK8 z_1 w1 A S z_2 w2 R E B cE z_3 w3 z_4 z_5 wr u6 u13 z_6 z_7 z_8 z_9 z_10 u19 u20 u22 u24 u26 z_11 z_12 z_13 z_14 z_15 z_16 z_17 z_18 z_19 z_20 z_21 z_22 z_23 z_24 z_25 z_26 z_27 z_28 z_29 z_30 z_31 z_32 z_33 z_34 z_35 z_36 z_37 z_38 z_39 z_40 z_41 z_42 z_43 z_44 z_45 z_46 z_47 z_48 z_49 z_50 z_51 z_52 z_53 z_54 z_55 z_56 z_57 z_58 z_59 z_60 z_61 z_62 z_63 z_64 z_65 z_66 z_67 z_68 z_69 z_70 z_71 z_72 z_73 z_74 z_75 z_76 z_77 z_78 z_79 z_80 z_81 z_82 z_83 z_84 z_85 z_86 z_87 z_88 z_89 z_90 z_91 z_92 z_93 z_94 z_95 z_96 z_97 z_98 z_99 z_100 z_101 z_102 z_103 z_104 z_105 z_106 z_107 z_108 z_109 z_110 z_111 z_112 z_113 z_114 z_115 z_116 z_117 z_118 z_119 z_120 z_121 z_122 z_123 z_124 z_125 z_126 z_127 z_128 z_129 z_130 z_131 z_132 z_133 z_134 z_135 z_136 z_137 z_138 z_139 z_140 z_141 z_142 z_143 z_144 z_145 z_146 z_147 z_148 z_149 z_150 z_151 z_152 z_153 z_154 z_155 z_156 z_157 z_158 z_159 z_160 z_161 z_162 z_163 z_164 z_165 z_166 z_167 z_168 z_169 z_170 z_171 z_172 z_173 z_174 z_175 z_176 z_177 z_178 z_179 z_180 z_181 z_182 z_183 j la lm hj hj60 HRel hlt1 hlt2 q HQ HL pa pb po pc z z_184 z_185 z_186 z_187 z_188 z_189 z_190 z_191 z_192 z_193 z_194 z_195 z_196 z_197 z_198 z_199 z_200 z_201 z_202 z_203 z_204 z_205 z_206 z_207 z_208 z_209 z_210 z_211 z_212 z_213 z_214 z_215 z_216 z_217 z_218 z_219 z_220 z_221 z_222 z_223 z_224 z_225 z_226 z_227 z_228 z_229 z_230 z_231 z_232 z_233 z_234 z_235 z_236 z_237 z_238 z_239 z_240 z_241 z_242 z_243 z_244 z_245 z_246 z_247 z_248 z_249 z_250 z_251 z_252 z_253 z_254 z_255 z_256 z_257 z_258 z_259 z_260 z_261 z_262 z_263 z_264 z_265 z_266 z_267 z_268 z_269 z_270 z_271 z_272 z_273 z_274 z_275 z_276 z_277 z_278 z_279 z_280 z_281 z_282 z_283 z_284 z_285 z_286 z_287 z_288 z_289 z_290 z_291 z_292 z_293 z_294 z_295 z_296 z_297 z_298 z_299 z_300 z_301 z_302 z_303 z_304 z_305 z_306 z_307 z_308 z_309 z_310 z_311 z_312 z_313 z_314 z_315 z_316 z_317 z_318 z_319 z_320 z_321 z_322 z_323 z_324 z_325 z_326 z_327 z_328 z_329 z_330 z_331 z_332 z_333 z_334 z_335 z_336 z_337 z_338 z_339 z_340 z_341 z_342 z_343 z_344 z_345 z_346 z_347 z_348 z_349 z_350 z_351 z_352 z_353 z_354 z_355 z_356 z_357 z_358 z_359 z_360 z_361 a' b' o' z' hz20 HZ' Q hJ k0 k1 z_362 z_363 wc u14 u15 u16 u17 u18 u52 u53 u54 u55 u56 u57 u58 u59 u60 u61 u62 u63 u64 u65 u66 u67 u68 u69 u70 u71 u72 u73 u74 u75 u76 u77 u78 u79 u80 u81 u82 u83 u84 u85 u86 u87 u88 u89 u90 u91 u92 u93 u94 u95 u96 u97 u98 u99 u100 u101 u102 u103 u104 u105 u106 u107 u108 u109 u110 u111 u112 u113 u114 u115 u116 u117 u118 u119 u120 u121 u122 u123 u124 u125 u126 u127 u128 u129 u130 u131 u132 u133 u134 u135 u136 u137 u138 u139 u140 u141 u142 u143 u144 u145 u146 u147 u148 u149 u150 u151 u152 u153 u154 u155 u156 u157 u158 u159 u160 u161 u162 u163 u164 u165 u166 u167 u168 u169 u170 u171 u172 u173 u174 u175 u176 u177 u178 u179 u180 u181 u182 u183 u184 u185 u186 u187 u188 u189 u190 u191 u192 u193 u194 u195 u196 u197 u198 u199 u200 u201 u202 u203 u204 u205 u206 u207 u208 u209 u210 u211 u212 u213 u214 u215 u216 u217 u218 u219 u220 u221 u222 u223 u224 hcut
  obtain ⟨rfl, la', lm', hM', hR'⟩ := hcut
  have HM' := Lib.hid hM'
  have HR' := Lib.hid hR'
  clear hM' hR' hJ k0 k1 HZ' HRel
  obtain ⟨a0, a1, a2, a3⟩ := HM'.out.ref.c0
  obtain ⟨i0, hi, hz0, hz1, hz2⟩ := info_parts infoREnt
  have hn8 := HM'.out.ref.n.le
  have hk8 := HM'.out.ref.kk.le
  have hLL := arrList_len HM'.out.ok
  have HLE := Lib.hid (HR'.out.list)
  obtain ⟨wo, hwo⟩ : ∃ wo : World, wo = wr := ⟨_, rfl⟩
  go_wp2_with fail
  go_loopw [19, 185] (fun v i wq => ∃ k1 : Nat, k1 ≤ lm'.length ∧ i = .int .i64 k1 ∧ wq.ownsRow wc.heap.size 50 10 v (rList (lm'.take k1)).length (flat Ent.cells (rList (lm'.take k1))) ∧ Below wc.heap.size wc wq) (fun _ i _ => lm'.length - (intOf i).toNat)
  case atStart => exact ⟨0, Nat.zero_le _, rfl, by simpa [rList, flat] using World.ownsRow_nil _ _ _ _, Below.refl _ _⟩
  case round =>
    obtain ⟨k1, hk1, rfl, hown, hB⟩ := hrel
    have HO := Lib.hid hown; clear hown
    have HB := Lib.hid hB; clear hB
    clear a0 a1 a2 a3
    by_cases hlt3 : k1 < lm'.length
    · obtain ⟨x, hx⟩ : ∃ x, lm'[k1]? = some x := ⟨_, List.getElem?_eq_getElem hlt3⟩
      have HX := Lib.hid hx; clear hx
      have hm : x ∈ lm' := List.mem_of_getElem? HX.out
      have HXL := Lib.hid (HM'.out.ref.len x hm)
      have cr := (HM'.out.then HB.out).ref.rows k1 x HX.out
      go_wp2_with fail
      clear cr
      go_loopw [19, 191] (fun v i wq2 => ∃ j1 : Nat, j1 ≤ k ∧ i = .int .i64 j1 ∧ wq2.ownsRow wc.heap.size 50 10 v (rList (lm'.take k1) ++ (x.2.ways.take j1).filter rThere).length (flat Ent.cells (rList (lm'.take k1) ++ (x.2.ways.take j1).filter rThere)) ∧ Below wc.heap.size wc wq2) (fun _ i _ => k - (intOf i).toNat)
      case atStart => exact ⟨0, Nat.zero_le _, rfl, by simpa using HO.out, HB.out⟩
      case round =>
        obtain ⟨j1, hj1, rfl, hown, hB⟩ := hrel
        clear HO HB
        have HO := Lib.hid hown; clear hown
        have HB := Lib.hid hB; clear hB
        by_cases hlj : j1 < k
        · obtain ⟨e, he⟩ : ∃ e, x.2.ways[j1]? = some e := ⟨_, List.getElem?_eq_getElem (by rw [HXL.out]; exact hlj)⟩
          have HE := Lib.hid he; clear he
          obtain ⟨c0, c1, c2, c3, c4, c5, c6, c7, c8, c9⟩ := ent_cells ((HM'.out.then HB.out).ref.ways x hm) HE.out
          by_cases hs : 0 ≤ e.line
          · have hlen : (rList (lm'.take k1) ++ (x.2.ways.take j1).filter rThere).length ≤ 1000 := by
              have h1 := rList_take lm' k1
              have h2 := rfilter_len (x.2.ways.take j1)
              rw [HLE.out] at h1
              simp only [List.length_append, List.length_take] at *
              omega
            go_wp2_with (at_builtin; refine wpList_append_own_at _ rfl _ _ 56 rfl wc.heap.size 50 i0 _ 10 56 Tryd.underlying56 hi hz0 hz1 hz2 rfl (by decide) _ _ _ rfl ((HO.out.alloc (rEntObj e)).alloc (rEntObj e)) ⟨wr.heap.size + 1, 0, none⟩ 1 1 e.cells rfl rfl ?c1 ?c2 ?c3 ?c4 ?c5 ?_)
            case c1 => exact ents_news (wr.alloc (rEntObj e)) _ e (by simp)
            case c2 => exact cells_one e
            case c3 => unfold maxLen; omega
            case c4 => omega
            case c5 => have := HB.out.size; simp; omega
            intro v' w5 hown2 hgrow _ _
            have hB2 := (((HB.out.alloc HB.out.size (rEntObj e)).alloc (by have := HB.out.size; simp; omega) (rEntObj e)).trans (below_grown hgrow (by have := HB.out.size; simp; omega) (fun g hg => (((HO.out.alloc (rEntObj e)).alloc (rEntObj e)).lt g hg).1)))
            have HO2 := Lib.hid hown2
            have HB2 := Lib.hid hB2
            have HS := Lib.hid hs
            clear hown2 hgrow hB2 hs
            go_wp2_with fail
            go_roundw
            case rel =>
              refine ⟨j1 + 1, by omega, by go_num, ?_, HB2.out⟩
              rw [filter_step HE.out, show rThere e = true by simpa [rThere] using HS.out, if_pos rfl, ← List.append_assoc, flat_append]
              simpa [flat, Nat.add_assoc] using HO2.out
            case measure => simp [intOf]; omega
          · have HS := Lib.hid hs
            go_wp2_with fail
            go_roundw
            case rel =>
              refine ⟨j1 + 1, by omega, by go_num, ?_, HB.out.alloc HB.out.size _⟩
              rw [filter_step HE.out, show rThere e = false by simpa [rThere] using HS.out, if_neg (by simp)]
              simpa using HO.out.alloc _
            case measure => simp [intOf]; omega
        · obtain rfl : j1 = k := by omega
          go_wp2_with fail
          go_roundw
          case rel =>
            refine ⟨k1 + 1, by omega, by go_num, ?_, HB.out⟩
            rw [rList_step HX.out]
            have := HO.out
            rw [List.take_of_length_le (show x.2.ways.length ≤ j1 by rw [HXL.out]; exact Nat.le_refl _)] at this
            exact this
          case measure => simp [intOf]; omega
    · obtain rfl : k1 = lm'.length := by omega
      have hown := HO.out
      rw [List.take_length, HLE.out] at hown
      obtain ⟨aw, cw, gw, rfl, hEw, -⟩ := EntsAt.of_own hown
      have HEW := Lib.hid hEw
      have HMq := Lib.hid (HM'.out.then HB.out)
      clear hown hEw HO HB HM'
      go_wp2_with fail
      refine (List_any HMq.out.at_ HMq.out.ok).mono ?_; rintro r w3' ⟨⟨vl, rfl, hownl⟩, hB3⟩
      obtain ⟨al, cl, gl, rfl, hEl, -⟩ := EntsAt.of_own hownl
      have HEL := Lib.hid hEl
      have HEW3 := Lib.hid (HEW.out.below hB3 (Nat.le_refl _))
      have HM3 := Lib.hid (HMq.out.then hB3)
      clear hownl hEl hB3 HEW HMq
      go_wp2_with fail
      go_loopw [20, 207] (fun v i wq2 => ∃ k2 : Nat, k2 ≤ (arrList la').length ∧ i = .int .i64 k2 ∧ wq2.ownsRow w3'.heap.size 50 10 v ((arrList la').take k2).length (flat Ent.cells ((arrList la').take k2)) ∧ Below w3'.heap.size w3' wq2) (fun _ i _ => (arrList la').length - (intOf i).toNat)
      case atStart => exact ⟨0, Nat.zero_le _, rfl, by simpa [flat] using World.ownsRow_nil _ _ _ _, Below.refl _ _⟩
      case round =>
        obtain ⟨k2, hk2, rfl, hown, hB⟩ := hrel
        have HO := Lib.hid hown; clear hown
        have HB := Lib.hid hB; clear hB
        by_cases hlt4 : k2 < (arrList la').length
        · obtain ⟨e, he⟩ : ∃ e, (arrList la')[k2]? = some e := ⟨_, List.getElem?_eq_getElem hlt4⟩
          have HE := Lib.hid he; clear he
          obtain rfl := HEL.out.addr (by intro h0; rw [h0] at hlt4; simp at hlt4)
          obtain ⟨c0, c1, c2, c3, c4, c5, c6, c7, c8, c9⟩ := (HEL.out.below HB.out (Nat.le_refl _)).ten HE.out
          go_wp2_with fail
          refine (plain_any e _).mono ?_; rintro r w4' ⟨rfl, hB4⟩
          have HO4 := Lib.hid (ownsRow_below (HO.out.alloc (entObj e)) hB4 (Nat.le_refl _))
          have HB4 := Lib.hid ((HB.out.alloc HB.out.size (entObj e)).trans (hB4.mono (by have := HB.out.size; simp; omega)))
          have hlen : ((arrList la').take k2).length ≤ 64 := by rw [List.length_take]; omega
          clear hB4 c0 c1 c2 c3 c4 c5 c6 c7 c8 c9
          simp only [Ent.val]
          go_wp2_with (at_builtin; refine wpList_append_own_at _ rfl _ _ 56 rfl w3'.heap.size 50 i0 _ 10 56 Tryd.underlying56 hi hz0 hz1 hz2 rfl (by decide) _ _ _ rfl (HO4.out.alloc (rEntObj e)) ⟨w4'.heap.size, 0, none⟩ 1 1 e.cells rfl rfl ?d1 ?d2 ?d3 ?d4 ?d5 ?_)
          case d1 => exact ents_news w4' _ e rfl
          case d2 => exact cells_one e
          case d3 => unfold maxLen; omega
          case d4 => omega
          case d5 => have := HB4.out.size; simp; omega
          intro v' w5 hown2 hgrow _ _
          have hB2 := ((HB4.out.alloc HB4.out.size (rEntObj e)).trans (below_grown hgrow (by have := HB4.out.size; simp; omega) (fun g hg => ((HO4.out.alloc (rEntObj e)).lt g hg).1)))
          have HO2 := Lib.hid hown2
          have HB2 := Lib.hid hB2
          clear hown2 hgrow hB2
          go_wp2_with fail
          go_roundw
          case rel =>
            refine ⟨k2 + 1, by omega, by go_num, ?_, HB2.out⟩
            rw [List.take_add_one, HE.out, flat_append]
            simpa [flat, Nat.add_assoc, Nat.min_eq_left (Nat.le_of_lt hlt4)] using HO2.out
          case measure => simp [intOf]; omega
        · obtain rfl : k2 = (arrList la').length := by omega
          have hown := HO.out
          rw [List.take_length] at hown
          obtain ⟨ag, cg, gg, rfl, hEg, -⟩ := EntsAt.of_own hown
          have HEG := Lib.hid hEg
          have HMq := Lib.hid (HM3.out.then HB.out)
          have HEW4 := Lib.hid (HEW3.out.below HB.out (Nat.le_refl _))
          clear hown hEg HO HB HM3 HEW3 HEL
          go_wp2_with fail
          refine (Same_ref _ _ _ _ _ _ _ (arrList la') (arrList la') HEG.out HEW4.out (by omega) (by omega)).mono ?_; rintro r w6 ⟨rfl, hB6⟩
          have HM6 := Lib.hid (HMq.out.then hB6)
          clear hB6
          simp only [decide_true]
          go_wp2_with fail
          go_roundw
          case rel =>
            exact ⟨j + 1, la', lm', by omega, by omega, by go_num, HM6.out, HR'.out⟩
          case measure => simp [intOf]; omega
end Go.Proofs.YtjmlficbnljiaaaDoor
