/- The walk of assentlaw7.MshrPlays, part 4 of 5 of a round. -/
import Derived.Test.YtjmlficbnljiaaaDoorMSplit
namespace Go.Proofs.YtjmlficbnljiaaaDoor
open Go.RowKit

set_option maxHeartbeats 40000000 in
set_option maxRecDepth 20000 in
theorem mplays_part4 : mplays_split.P4 := by
  intro w p most m1 m8 b o c l hll HG z_1 w1 T w2 R w3 z_2 z_3 wr u4 u10 u11 u12 u13 u14 u15 u16 u17 u18 u20 u43 u44 u45 u46 u47 u48 u49 u50 u51 u52 u53 u54 u55 u56 u57 u58 u59 u60 u61 u62 u63 u64 u65 u66 u67 u68 u69 u70 u71 u72 u73 u74 u75 u76 u77 u78 u79 u80 u81 u82 u83 u84 u85 u86 u87 u88 u89 u90 u91 u92 u93 u94 u95 u96 u97 u98 u99 u100 u101 u102 u103 u104 u105 u106 u107 u108 u109 u110 u111 u112 u113 u114 u115 u116 u117 u118 u119 u120 u121 u122 u123 u124 u125 u126 u127 u128 u129 u130 u131 u132 u133 u134 u135 u136 u137 u138 u139 u140 u141 u142 u143 u144 u145 u146 u147 u148 u149 u150 u151 u152 u153 u154 u155 u156 u157 j v u ms hj hj60 HI hlt1 hlt2 q HQ HL z_4 z_5 z_6 z_7 z_8 z_9 wc Q hJ k0 k1 k2 z_10 z_11 z_12 z_13 e1 e2 e3
  have b1 : (q.kind == 1) = false := by simpa using e1
  have b2 : (q.kind == 2) = false := by simpa using e2
  have b3 : (q.kind == 3) = false := by simpa using e3
  clear e1 e2 e3
  go_wp2_with fail
  go_meet
  case rel => exact ⟨rfl, _, _, _, hJ.mem, HI.out⟩
end Go.Proofs.YtjmlficbnljiaaaDoor
