/- The walk of assentlaw7.MshrPlays, part 1 of 5 of a round. -/
import Derived.Test.YtjmlficbnljiaaaDoorMSplit
namespace Go.Proofs.YtjmlficbnljiaaaDoor
open Go.RowKit

set_option maxHeartbeats 40000000 in
set_option maxRecDepth 20000 in
theorem mplays_part1 : mplays_split.P1 := by
  intro w p most m1 m8 b o c l hll HG z_1 w1 T w2 R w3 z_2 z_3 wr u4 u10 u11 u12 u13 u14 u15 u16 u17 u18 u20 u43 u44 u45 u46 u47 u48 u49 u50 u51 u52 u53 u54 u55 u56 u57 u58 u59 u60 u61 u62 u63 u64 u65 u66 u67 u68 u69 u70 u71 u72 u73 u74 u75 u76 u77 u78 u79 u80 u81 u82 u83 u84 u85 u86 u87 u88 u89 u90 u91 u92 u93 u94 u95 u96 u97 u98 u99 u100 u101 u102 u103 u104 u105 u106 u107 u108 u109 u110 u111 u112 u113 u114 u115 u116 u117 u118 u119 u120 u121 u122 u123 u124 u125 u126 u127 u128 u129 u130 u131 u132 u133 u134 u135 u136 u137 u138 u139 u140 u141 u142 u143 u144 u145 u146 u147 u148 u149 u150 u151 u152 u153 u154 u155 u156 u157 j v u ms hj hj60 HI hlt1 hlt2 q HQ HL z_4 z_5 z_6 z_7 z_8 z_9 wc Q hJ k0 k1 k2 z_10 z_11 z_12 z_13 e1
  have b1 : (q.kind == 1) = true := by simpa using e1
  clear e1
  obtain ⟨cd, hcd⟩ : ∃ cd, (mAdd most ms q.line q.miss).1 = cd := ⟨_, rfl⟩
  have HIA := Lib.hid (HI.out.add q.line q.miss)
  have HC10 := Lib.hid (show cd ≤ 10 by rw [← hcd]; exact HIA.out.2)
  have HCA := Lib.hid (MAdd_any hJ.mem.tab HI.out.len HI.out.srt q.line q.miss p (HG.out.below hJ.mem.below (Nat.le_refl _)))
  rw [hcd] at HCA
  have HCD := Lib.hid hcd
  clear hcd
  go_wp2_with fail
  refine HCA.out.mono ?_; rintro r w5 ⟨rfl, v5, hS5⟩
  have hJ5 := hJ.tabS hS5
  clear hS5 HCA
  have k51 := hJ5.q.cell 1
  have k52 := hJ5.q.cell 2
  simp only [List.getElem?_cons_zero, List.getElem?_cons_succ] at k51 k52
  have HCB := Lib.hid (RAdd_any' hJ5.mem.ref HI.out.len q.line q.miss)
  rw [HCD.out] at HCB
  go_wp2_with fail
  refine HCB.out.mono ?_; rintro r w6 ⟨rfl, u6', hS6⟩
  have hJ6 := hJ5.refS hS6
  clear hS6 HCB k51 k52
  have k61 := hJ6.q.cell 1
  simp only [List.getElem?_cons_zero, List.getElem?_cons_succ] at k61
  have HCC := Lib.hid (keep_Is opMAdd q.line cd HC10.out w6 p (HG.out.below hJ6.mem.below (Nat.le_refl _)))
  go_wp2_with fail
  refine HCC.out.mono ?_; rintro r w7 ⟨rfl, hB7⟩
  have hJ7 := hJ6.then hB7
  clear hB7 HCC
  have HCE := Lib.hid (keep_Only opMAdd q.line cd HC10.out w7 p (HG.out.below hJ7.mem.below (Nat.le_refl _)))
  go_wp2_with fail
  refine HCE.out.mono ?_; rintro r w8 ⟨rfl, hB8⟩
  have hJ8 := hJ7.then hB8
  clear hB8 HCE
  go_wp2_with fail
  go_meet
  case rel => exact ⟨rfl, _, _, _, hJ8.mem, HIA.out.1⟩
end Go.Proofs.YtjmlficbnljiaaaDoor
