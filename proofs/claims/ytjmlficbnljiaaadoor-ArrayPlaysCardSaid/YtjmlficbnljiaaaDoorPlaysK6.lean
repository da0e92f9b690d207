/- The walk of assentlaw6.ArrayPlays, part 6 of 7 of a round: KIND6. -/
import Derived.Test.YtjmlficbnljiaaaDoorPlays
namespace Go.Proofs.YtjmlficbnljiaaaDoor
open Go.RowKit

set_option maxHeartbeats 40000000 in
set_option maxRecDepth 20000 in
theorem plays_part6 : plays_split.P6 := by
  intro w p b o c l hll HG HP n k HN8 HK8 z_1 w1 A S z_2 w2 R E B cE z_3 w3 z_4 z_5 wr u6 u13 u14 u15 u16 u17 u18 u19 u20 u22 u24 u26 z_6 z_7 z_8 z_9 z_10 z_11 z_12 z_13 z_14 z_15 z_16 z_17 z_18 z_19 z_20 z_21 z_22 z_23 z_24 z_25 z_26 z_27 z_28 z_29 z_30 z_31 z_32 z_33 z_34 z_35 z_36 z_37 z_38 z_39 z_40 z_41 z_42 z_43 z_44 z_45 z_46 z_47 z_48 z_49 z_50 z_51 z_52 z_53 z_54 z_55 z_56 z_57 z_58 z_59 z_60 z_61 z_62 z_63 z_64 z_65 z_66 z_67 z_68 z_69 z_70 z_71 z_72 z_73 z_74 z_75 z_76 z_77 z_78 z_79 z_80 z_81 z_82 z_83 z_84 z_85 z_86 z_87 z_88 z_89 z_90 z_91 z_92 z_93 z_94 z_95 z_96 z_97 z_98 z_99 z_100 z_101 z_102 z_103 z_104 z_105 z_106 z_107 z_108 z_109 z_110 z_111 z_112 z_113 z_114 z_115 z_116 z_117 z_118 z_119 z_120 z_121 z_122 z_123 z_124 z_125 z_126 z_127 z_128 z_129 z_130 z_131 z_132 z_133 z_134 z_135 z_136 z_137 z_138 z_139 z_140 z_141 z_142 z_143 z_144 z_145 z_146 z_147 z_148 z_149 z_150 z_151 z_152 z_153 z_154 z_155 z_156 z_157 z_158 z_159 z_160 z_161 z_162 z_163 z_164 z_165 z_166 z_167 z_168 z_169 z_170 z_171 z_172 z_173 z_174 z_175 z_176 z_177 z_178 j la lm hj hj60 HRel hlt1 hlt2 q HQ HL pa pb po pc z z_179 z_180 z_181 z_182 wc u52 u53 u54 u55 u56 u57 u58 u59 u60 u61 u62 u63 u64 u65 u66 u67 u68 u69 u70 u71 u72 u73 u74 u75 u76 u77 u78 u79 u80 u81 u82 u83 u84 u85 u86 u87 u88 u89 u90 u91 u92 u93 u94 u95 u96 u97 u98 u99 u100 u101 u102 u103 u104 u105 u106 u107 u108 u109 u110 u111 u112 u113 u114 u115 u116 u117 u118 u119 u120 u121 u122 u123 u124 u125 u126 u127 u128 u129 u130 u131 u132 u133 u134 u135 u136 u137 u138 u139 u140 u141 u142 u143 u144 u145 u146 u147 u148 u149 u150 u151 u152 u153 u154 u155 u156 u157 u158 u159 u160 u161 u162 u163 u164 u165 u166 u167 u168 u169 u170 u171 u172 u173 u174 u175 u176 u177 u178 u179 u180 u181 u182 u183 u184 u185 u186 u187 u188 u189 u190 u191 u192 u193 u194 u195 u196 u197 u198 u199 u200 u201 u202 u203 u204 u205 u206 u207 u208 u209 u210 u211 u212 u213 u214 u215 u216 u217 u218 u219 u220 u221 u222 u223 u224 a' b' o' z' hz20 HZ' Q hJ k0 k1 z_183 z_184 z_185 z_186 z_187 z_188 e1 e2 e3 e4 e5
  have b1 : (q.kind == 1) = false := by simpa using e1
  have b2 : (q.kind == 2) = false := by simpa using e2
  have b3 : (q.kind == 3) = false := by simpa using e3
  have b4 : (q.kind == 4) = false := by simpa using e4
  have b5 : (q.kind == 5) = false := by simpa using e5
  clear e1 e2 e3 e4 e5
  go_wp2_with fail
  go_meet
  case rel => exact ⟨rfl, _, _, hJ.mem, HRel.out⟩
end Go.Proofs.YtjmlficbnljiaaaDoor
