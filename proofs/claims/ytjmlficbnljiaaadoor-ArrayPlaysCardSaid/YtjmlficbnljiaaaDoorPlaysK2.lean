/- The walk of assentlaw6.ArrayPlays, part 2 of 7 of a round: KIND2. -/
import Derived.Test.YtjmlficbnljiaaaDoorPlays
namespace Go.Proofs.YtjmlficbnljiaaaDoor
open Go.RowKit

set_option maxHeartbeats 40000000 in
set_option maxRecDepth 20000 in
theorem plays_part2 : plays_split.P2 := by
  intro w p b o c l hll HG HP n k HN8 HK8 z_1 w1 A S z_2 w2 R E B cE z_3 w3 z_4 z_5 wr u6 u13 u14 u15 u16 u17 u18 u19 u20 u22 u24 u26 z_6 z_7 z_8 z_9 z_10 z_11 z_12 z_13 z_14 z_15 z_16 z_17 z_18 z_19 z_20 z_21 z_22 z_23 z_24 z_25 z_26 z_27 z_28 z_29 z_30 z_31 z_32 z_33 z_34 z_35 z_36 z_37 z_38 z_39 z_40 z_41 z_42 z_43 z_44 z_45 z_46 z_47 z_48 z_49 z_50 z_51 z_52 z_53 z_54 z_55 z_56 z_57 z_58 z_59 z_60 z_61 z_62 z_63 z_64 z_65 z_66 z_67 z_68 z_69 z_70 z_71 z_72 z_73 z_74 z_75 z_76 z_77 z_78 z_79 z_80 z_81 z_82 z_83 z_84 z_85 z_86 z_87 z_88 z_89 z_90 z_91 z_92 z_93 z_94 z_95 z_96 z_97 z_98 z_99 z_100 z_101 z_102 z_103 z_104 z_105 z_106 z_107 z_108 z_109 z_110 z_111 z_112 z_113 z_114 z_115 z_116 z_117 z_118 z_119 z_120 z_121 z_122 z_123 z_124 z_125 z_126 z_127 z_128 z_129 z_130 z_131 z_132 z_133 z_134 z_135 z_136 z_137 z_138 z_139 z_140 z_141 z_142 z_143 z_144 z_145 z_146 z_147 z_148 z_149 z_150 z_151 z_152 z_153 z_154 z_155 z_156 z_157 z_158 z_159 z_160 z_161 z_162 z_163 z_164 z_165 z_166 z_167 z_168 z_169 z_170 z_171 z_172 z_173 z_174 z_175 z_176 z_177 z_178 j la lm hj hj60 HRel hlt1 hlt2 q HQ HL pa pb po pc z z_179 z_180 z_181 z_182 wc u52 u53 u54 u55 u56 u57 u58 u59 u60 u61 u62 u63 u64 u65 u66 u67 u68 u69 u70 u71 u72 u73 u74 u75 u76 u77 u78 u79 u80 u81 u82 u83 u84 u85 u86 u87 u88 u89 u90 u91 u92 u93 u94 u95 u96 u97 u98 u99 u100 u101 u102 u103 u104 u105 u106 u107 u108 u109 u110 u111 u112 u113 u114 u115 u116 u117 u118 u119 u120 u121 u122 u123 u124 u125 u126 u127 u128 u129 u130 u131 u132 u133 u134 u135 u136 u137 u138 u139 u140 u141 u142 u143 u144 u145 u146 u147 u148 u149 u150 u151 u152 u153 u154 u155 u156 u157 u158 u159 u160 u161 u162 u163 u164 u165 u166 u167 u168 u169 u170 u171 u172 u173 u174 u175 u176 u177 u178 u179 u180 u181 u182 u183 u184 u185 u186 u187 u188 u189 u190 u191 u192 u193 u194 u195 u196 u197 u198 u199 u200 u201 u202 u203 u204 u205 u206 u207 u208 u209 u210 u211 u212 u213 u214 u215 u216 u217 u218 u219 u220 u221 u222 u223 u224 a' b' o' z' hz20 HZ' Q hJ k0 k1 z_183 z_184 z_185 z_186 z_187 z_188 e1 e2
  obtain ⟨g, hg⟩ : ∃ g, arrGet la q.line = g := ⟨_, rfl⟩
  have hgd : rGet lm q.line = g := by rw [HRel.out.getEq]; exact hg
  have HGA := Lib.hid hg
  have HGD := Lib.hid hgd
  clear hg hgd
  have b1 : (q.kind == 1) = false := by simpa using e1
  have b2 : (q.kind == 2) = true := by simpa using e2
  clear e1 e2
  cases g with
  | some e =>
    go_wp2_with fail
    have HC := jGetA hJ q.line (some e) HGA.out
    simp only [Option.getD_some, Option.isSome_some, Ent.val] at HC
    have HCC := Lib.hid HC; clear HC
    refine HCC.out.mono ?_; rintro r w5 ⟨rfl, hJ5⟩
    have k5 := hJ5.q.cell 1
    simp only [List.getElem?_cons_zero, List.getElem?_cons_succ] at k5
    have kl := hJ5.q.lt
    have kn : Q ≠ w5.heap.size := Nat.ne_of_lt kl
    go_wp2_with fail
    have hJ5' := hJ5.then (entObj_below w5 e)
    have hx5 := entObj_new w5 e
    have HC := rGet_any hJ5'.mem.ref q.line
    rw [HGD.out] at HC
    simp only [Option.getD_some, Option.isSome_some, Ent.val] at HC
    have HCD := Lib.hid HC; clear HC
    refine HCD.out.mono ?_; rintro r w6 ⟨rfl, hB6⟩
    have hx6 := (hx5.below hB6 (by simp)).below (rEntObj_below w6 e) (by have := hB6.size; simp at this; omega)
    have hy6 := rEntObj_new w6 e
    have hJ6 := (hJ5'.then hB6).then (rEntObj_below w6 e)
    have k6 := (hJ5'.then hB6).q.cell 1
    simp only [List.getElem?_cons_zero, List.getElem?_cons_succ] at k6
    have HX6 := Lib.hid hx6
    have HY6 := Lib.hid hy6
    have HJ6 := Lib.hid hJ6
    clear hx6 hy6 hJ6 hx5 hJ5 hJ5' hB6 k5 kl kn
    go_upto_region 18 with (fail)
    generalize w6.alloc (.cells #[.int .i64 e.line, .int .i64 e.state, .int .i64 e.mode, .int .i64 e.epoch, .int .u32 e.d0, .int .u32 e.d1, .int .u32 e.d2, .int .u32 e.d3, .bool e.held, .bool e.fresh] 50) = w7 at *
    generalize w5.heap.size = X at *
    generalize w6.heap.size = Y at *
    have hne := fun W => eql_ref e e W
    simp only [Ent.val, decide_true] at hne
    clear k6 k0 k1
    refine wp_region_held_drew (S := fun W => W.cell? ⟨X, 0, none⟩ = some (.int .i64 e.line) ∧ W.cell? ⟨X, 1, none⟩ = some (.int .i64 e.state) ∧ W.cell? ⟨X, 2, none⟩ = some (.int .i64 e.mode) ∧ W.cell? ⟨X, 3, none⟩ = some (.int .i64 e.epoch) ∧ W.cell? ⟨X, 4, none⟩ = some (.int .u32 e.d0) ∧ W.cell? ⟨X, 5, none⟩ = some (.int .u32 e.d1) ∧ W.cell? ⟨X, 6, none⟩ = some (.int .u32 e.d2) ∧ W.cell? ⟨X, 7, none⟩ = some (.int .u32 e.d3) ∧ W.cell? ⟨X, 8, none⟩ = some (.bool e.held) ∧ W.cell? ⟨X, 9, none⟩ = some (.bool e.fresh) ∧ W.cell? ⟨Y, 0, none⟩ = some (.int .i64 e.line) ∧ W.cell? ⟨Y, 1, none⟩ = some (.int .i64 e.state) ∧ W.cell? ⟨Y, 2, none⟩ = some (.int .i64 e.mode) ∧ W.cell? ⟨Y, 3, none⟩ = some (.int .i64 e.epoch) ∧ W.cell? ⟨Y, 4, none⟩ = some (.int .u32 e.d0) ∧ W.cell? ⟨Y, 5, none⟩ = some (.int .u32 e.d1) ∧ W.cell? ⟨Y, 6, none⟩ = some (.int .u32 e.d2) ∧ W.cell? ⟨Y, 7, none⟩ = some (.int .u32 e.d3) ∧ W.cell? ⟨Y, 8, none⟩ = some (.bool e.held) ∧ W.cell? ⟨Y, 9, none⟩ = some (.bool e.fresh)) (by kernel_rfl) (twoCells HX6.out.drew HY6.out.drew) (fun hHeld => ?_)
    refine wpAnyH_take (i := 0) (oi := ⟨some 111, _, _, _, _, _⟩) (v := ?_) rfl (by kernel_rfl) (by kernel_rfl) (by kernel_rfl) (fun _ _ _ h => h) (Or.inl ⟨by kernel_rfl, ?_⟩) (by assumption) ?_
    rotate_left
    · ((intro W hSw; (try dsimp only at hSw); go_simp) <;> with_reducible rfl)
    try simp only [Act.put, List.setIfInBounds_toArray, List.set_cons_zero, List.set_cons_succ]
    refine wpAnyH_take (i := 1) (oi := ⟨some 112, _, _, _, _, _⟩) (v := ?_) rfl (by kernel_rfl) (by kernel_rfl) (by kernel_rfl) (fun _ _ _ h => h) (Or.inl ⟨by kernel_rfl, ?_⟩) (by assumption) ?_
    rotate_left
    · ((intro W hSw; (try dsimp only at hSw); go_simp) <;> with_reducible rfl)
    try simp only [Act.put, List.setIfInBounds_toArray, List.set_cons_zero, List.set_cons_succ]
    refine wpAnyH_take (i := 2) (oi := ⟨some 113, _, _, _, _, _⟩) (v := ?_) rfl (by kernel_rfl) (by kernel_rfl) (by kernel_rfl) (fun _ _ _ h => h) (Or.inl ⟨by kernel_rfl, ?_⟩) (by assumption) ?_
    rotate_left
    · ((intro W hSw; (try dsimp only at hSw); go_simp) <;> with_reducible rfl)
    try simp only [Act.put, List.setIfInBounds_toArray, List.set_cons_zero, List.set_cons_succ]
    refine wpAnyH_take (i := 3) (oi := ⟨some 114, _, _, _, _, _⟩) (v := ?_) rfl (by kernel_rfl) (by kernel_rfl) (by kernel_rfl) (fun _ _ _ h => h) (Or.inl ⟨by kernel_rfl, ?_⟩) (by assumption) ?_
    rotate_left
    · ((intro W hSw; (try dsimp only at hSw); go_simp) <;> with_reducible rfl)
    try simp only [Act.put, List.setIfInBounds_toArray, List.set_cons_zero, List.set_cons_succ]
    refine wpAnyH_take (i := 4) (oi := ⟨some 115, _, _, _, _, _⟩) (v := ?_) rfl (by kernel_rfl) (by kernel_rfl) (by kernel_rfl) (fun _ _ _ h => h) (Or.inl ⟨by kernel_rfl, ?_⟩) (by assumption) ?_
    rotate_left
    · ((intro W hSw; (try dsimp only at hSw); go_simp) <;> with_reducible rfl)
    try simp only [Act.put, List.setIfInBounds_toArray, List.set_cons_zero, List.set_cons_succ]
    refine wpAnyH_take (i := 5) (oi := ⟨some 116, _, _, _, _, _⟩) (v := ?_) rfl (by kernel_rfl) (by kernel_rfl) (by kernel_rfl) (fun _ _ _ h => h) (Or.inl ⟨by kernel_rfl, ?_⟩) (by assumption) ?_
    rotate_left
    · ((intro W hSw; (try dsimp only at hSw); go_simp) <;> with_reducible rfl)
    try simp only [Act.put, List.setIfInBounds_toArray, List.set_cons_zero, List.set_cons_succ]
    refine wpAnyH_take (i := 6) (oi := ⟨some 117, _, _, _, _, _⟩) (v := ?_) rfl (by kernel_rfl) (by kernel_rfl) (by kernel_rfl) (fun _ _ _ h => h) (Or.inl ⟨by kernel_rfl, ?_⟩) (by assumption) ?_
    rotate_left
    · ((intro W hSw; (try dsimp only at hSw); go_simp) <;> with_reducible rfl)
    try simp only [Act.put, List.setIfInBounds_toArray, List.set_cons_zero, List.set_cons_succ]
    refine wpAnyH_take (i := 7) (oi := ⟨some 118, _, _, _, _, _⟩) (v := undef) rfl (by kernel_rfl) (by kernel_rfl) (by kernel_rfl) (fun _ _ _ h => h) (Or.inr ⟨by kernel_rfl, rfl⟩) (by assumption) ?_
    try simp only [Act.put, List.setIfInBounds_toArray, List.set_cons_zero, List.set_cons_succ]
    refine wpAnyH_take (i := 8) (oi := ⟨some 119, _, _, _, _, _⟩) (v := undef) rfl (by kernel_rfl) (by kernel_rfl) (by kernel_rfl) (fun _ _ _ h => h) (Or.inr ⟨by kernel_rfl, rfl⟩) (by assumption) ?_
    try simp only [Act.put, List.setIfInBounds_toArray, List.set_cons_zero, List.set_cons_succ]
    refine wpAnyH_take (i := 9) (oi := ⟨some 120, _, _, _, _, _⟩) (v := undef) rfl (by kernel_rfl) (by kernel_rfl) (by kernel_rfl) (fun _ _ _ h => h) (Or.inr ⟨by kernel_rfl, rfl⟩) (by assumption) ?_
    try simp only [Act.put, List.setIfInBounds_toArray, List.set_cons_zero, List.set_cons_succ]
    refine wpAnyH_take (i := 10) (oi := ⟨some 121, _, _, _, _, _⟩) (v := ?_) rfl (by kernel_rfl) (by kernel_rfl) (by kernel_rfl) (fun _ _ _ h => h) (Or.inl ⟨by kernel_rfl, ?_⟩) (by assumption) ?_
    rotate_left
    · ((intro W hSw; (try dsimp only at hSw); go_simp) <;> with_reducible rfl)
    try simp only [Act.put, List.setIfInBounds_toArray, List.set_cons_zero, List.set_cons_succ]
    refine wpAnyH_take (i := 11) (oi := ⟨some 122, _, _, _, _, _⟩) (v := ?_) rfl (by kernel_rfl) (by kernel_rfl) (by kernel_rfl) (fun _ _ _ h => h) (Or.inl ⟨by kernel_rfl, ?_⟩) (by assumption) ?_
    rotate_left
    · ((intro W hSw; (try dsimp only at hSw); go_simp) <;> with_reducible rfl)
    try simp only [Act.put, List.setIfInBounds_toArray, List.set_cons_zero, List.set_cons_succ]
    refine wpAnyH_take (i := 12) (oi := ⟨some 123, _, _, _, _, _⟩) (v := ?_) rfl (by kernel_rfl) (by kernel_rfl) (by kernel_rfl) (fun _ _ _ h => h) (Or.inl ⟨by kernel_rfl, ?_⟩) (by assumption) ?_
    rotate_left
    · ((intro W hSw; (try dsimp only at hSw); go_simp) <;> with_reducible rfl)
    try simp only [Act.put, List.setIfInBounds_toArray, List.set_cons_zero, List.set_cons_succ]
    refine wpAnyH_take (i := 13) (oi := ⟨some 124, _, _, _, _, _⟩) (v := ?_) rfl (by kernel_rfl) (by kernel_rfl) (by kernel_rfl) (fun _ _ _ h => h) (Or.inl ⟨by kernel_rfl, ?_⟩) (by assumption) ?_
    rotate_left
    · ((intro W hSw; (try dsimp only at hSw); go_simp) <;> with_reducible rfl)
    try simp only [Act.put, List.setIfInBounds_toArray, List.set_cons_zero, List.set_cons_succ]
    refine wpAnyH_take (i := 14) (oi := ⟨some 125, _, _, _, _, _⟩) (v := ?_) rfl (by kernel_rfl) (by kernel_rfl) (by kernel_rfl) (fun _ _ _ h => h) (Or.inl ⟨by kernel_rfl, ?_⟩) (by assumption) ?_
    rotate_left
    · ((intro W hSw; (try dsimp only at hSw); go_simp) <;> with_reducible rfl)
    try simp only [Act.put, List.setIfInBounds_toArray, List.set_cons_zero, List.set_cons_succ]
    refine wpAnyH_take (i := 16) (oi := ⟨some 127, _, _, _, _, _⟩) (v := ?_) rfl (by kernel_rfl) (by kernel_rfl) (by kernel_rfl) (fun _ _ _ h => h) (Or.inl ⟨by kernel_rfl, ?_⟩) (by assumption) ?_
    rotate_left
    · ((intro W hSw; (try dsimp only at hSw); go_simp) <;> with_reducible rfl)
    try simp only [Act.put, List.setIfInBounds_toArray, List.set_cons_zero, List.set_cons_succ]
    refine wpAnyH_ready (rs := [15]) (by kernel_rfl) (by simp) ?_
    refine AllReadyH.cons (o := ⟨some 126, _, _, _, _, _⟩) rfl (fun K hK => ?_) AllReadyH.nil
    go_simp
    go_at_call 16
    have HC := plain_any e w7.drew
    unfold Ent.val at HC
    refine HC.mono ?_
    rintro r w8 ⟨rfl, hB8⟩
    refine hK.out _ _ (twoCells (HX6.out.drew.below hB8 HX6.out.drew.lt) (HY6.out.drew.below hB8 HY6.out.drew.lt)) (fun hHeld2 => ?_)
    clear hK K hHeld
    try simp only [Act.put, List.setIfInBounds_toArray, List.set_cons_zero, List.set_cons_succ]
    refine wpAnyH_take (i := 17) (oi := ⟨some 128, _, _, _, _, _⟩) (v := ?_) rfl (by kernel_rfl) (by kernel_rfl) (by kernel_rfl) (fun _ _ _ h => h) (Or.inl ⟨by kernel_rfl, ?_⟩) (by assumption) ?_
    rotate_left
    · ((intro W hSw; (try dsimp only at hSw); go_simp) <;> with_reducible rfl)
    try simp only [Act.put, List.setIfInBounds_toArray, List.set_cons_zero, List.set_cons_succ]
    refine wpAnyH_take (i := 18) (oi := ⟨some 129, _, _, _, _, _⟩) (v := ?_) rfl (by kernel_rfl) (by kernel_rfl) (by kernel_rfl) (fun _ _ _ h => h) (Or.inl ⟨by kernel_rfl, ?_⟩) (by assumption) ?_
    rotate_left
    · ((intro W hSw; (try dsimp only at hSw); go_simp) <;> with_reducible rfl)
    try simp only [Act.put, List.setIfInBounds_toArray, List.set_cons_zero, List.set_cons_succ]
    refine wpAnyH_take (i := 19) (oi := ⟨some 130, _, _, _, _, _⟩) (v := ?_) rfl (by kernel_rfl) (by kernel_rfl) (by kernel_rfl) (fun _ _ _ h => h) (Or.inl ⟨by kernel_rfl, ?_⟩) (by assumption) ?_
    rotate_left
    · ((intro W hSw; (try dsimp only at hSw); go_simp) <;> with_reducible rfl)
    try simp only [Act.put, List.setIfInBounds_toArray, List.set_cons_zero, List.set_cons_succ]
    refine wpAnyH_take (i := 20) (oi := ⟨some 131, _, _, _, _, _⟩) (v := ?_) rfl (by kernel_rfl) (by kernel_rfl) (by kernel_rfl) (fun _ _ _ h => h) (Or.inl ⟨by kernel_rfl, ?_⟩) (by assumption) ?_
    rotate_left
    · ((intro W hSw; (try dsimp only at hSw); go_simp) <;> with_reducible rfl)
    try simp only [Act.put, List.setIfInBounds_toArray, List.set_cons_zero, List.set_cons_succ]
    refine wpAnyH_take (i := 21) (oi := ⟨some 14, _, _, _, _, _⟩) (v := ?_) rfl (by kernel_rfl) (by kernel_rfl) (by kernel_rfl) (fun _ _ _ h => h) (Or.inl ⟨by kernel_rfl, ?_⟩) (by assumption) ?_
    rotate_left
    · ((intro W hSw; (try dsimp only at hSw); go_simp) <;> with_reducible rfl)
    try simp only [Act.put, List.setIfInBounds_toArray, List.set_cons_zero, List.set_cons_succ]
    refine wpAnyH_done (by kernel_rfl) ?_ _
    all_goals
      go_wp2_with fail
      go_meet
      case rel => exact ⟨by simp, _, _, (HJ6.out.drew.then hB8).mem, HRel.out⟩
  | none =>
    go_wp2_with fail
    have HC := jGetA hJ q.line none HGA.out
    simp only [Option.getD_none, Option.isSome_none, Ent.val, Ent.zero] at HC
    have HCC := Lib.hid HC; clear HC
    refine HCC.out.mono ?_; rintro r w5 ⟨rfl, hJ5⟩
    have k5 := hJ5.q.cell 1
    simp only [List.getElem?_cons_zero, List.getElem?_cons_succ] at k5
    have kl := hJ5.q.lt
    have kn : Q ≠ w5.heap.size := Nat.ne_of_lt kl
    go_wp2_with fail
    have hJ5' := hJ5.then (entObj_below w5 Ent.zero)
    have hx5 := entObj_new w5 Ent.zero
    have HC := rGet_any hJ5'.mem.ref q.line
    rw [HGD.out] at HC
    simp only [Option.getD_none, Option.isSome_none, Ent.val, Ent.zero] at HC
    have HCD := Lib.hid HC; clear HC
    refine HCD.out.mono ?_; rintro r w6 ⟨rfl, hB6⟩
    have hx6 := (hx5.below hB6 (by simp)).below (rEntObj_below w6 Ent.zero) (by have := hB6.size; simp at this; omega)
    have hJ6 := (hJ5'.then hB6).then (rEntObj_below w6 Ent.zero)
    have k6 := (hJ5'.then hB6).q.cell 1
    simp only [List.getElem?_cons_zero, List.getElem?_cons_succ] at k6
    have HX6 := Lib.hid hx6
    have HJ6 := Lib.hid hJ6
    clear hx6 hJ6 hx5 hJ5 hJ5' hB6 k5 kl kn
    go_upto_region 18 with (fail)
    simp only [rEntObj, Ent.zero] at HX6 HJ6
    generalize w6.alloc (.cells #[.int .i64 0, .int .i64 0, .int .i64 0, .int .i64 0, .int .u32 0, .int .u32 0, .int .u32 0, .int .u32 0, .bool false, .bool false] 50) = w7 at *
    generalize w5.heap.size = X at *
    obtain ⟨y0, y1, y2, y3, y4, y5, y6, y7, y8, y9⟩ := ent_cells0 (e := Ent.zero) HX6.out
    simp only [Ent.zero] at y0 y1 y2 y3 y4 y5 y6 y7 y8 y9
    have hne := fun W => eql_ent Ent.zero Ent.zero W
    simp only [Ent.val, decide_true, Ent.zero] at hne
    clear k6 k0 k1
    go_quiet (fail)
    go_wp2_with fail
    go_meet
    case rel => exact ⟨by simp, _, _, (HJ6.out.then (below_drewN (Below.refl _ _) _)).mem, HRel.out⟩
end Go.Proofs.YtjmlficbnljiaaaDoor
