/- The walk of assentlaw7.MshrPlays: all but the round's parts, which are statements that the walk itself types. -/
import Derived.Test.YtjmlficbnljiaaaDoorMPlays
import Derived.Deep.CutRange
import Derived.Deep.CutBlock
import Derived.Deep.RegionHeld3
import Derived.BigQuiet
namespace Go.Proofs.YtjmlficbnljiaaaDoor
open Go.RowKit

/-- A statement that no tactic takes for its goal. -/
structure Kept7 (p : Prop) : Prop where
  out : p
/-- A statement out of five, each typed by the walk itself. -/
structure Split5 (S : Prop) : Type where
  mk ::
  (P1 P2 P3 P4 P5 : Prop)
  imp : Kept7 P1 → Kept7 P2 → Kept7 P3 → Kept7 P4 → Kept7 P5 → S

set_option maxHeartbeats 40000000 in
set_option maxRecDepth 20000 in
noncomputable def mplays_split : Split5 (∀ (w : World) (p : Nat → Addr) (_ : Glob w p) (most : Int) (_ : 1 ≤ most) (_ : most ≤ 8) (a : Option Addr) (b o c : Nat) (l : List Ask7) (_ : Asks7At w a b o l) (_ : l.length ≤ 140737488351232),
    Calls Tryd.prog 5 #[.int .i64 most, .slice a l.length c] w fun e w' => e = .returned (.bool true) ∧ Below w.heap.size w w') := Split5.mk _ _ _ _ _ (by
  intro h1 h2 h3 h4 h5 w p hg most m1 m8 a b o c l hl hll
  have HG := Lib.hid hg
  have HL := Lib.hid hl
  have HNew := Lib.hid (MNew_ok most m1 m8 w)
  have HRef := Lib.hid (fun W => RNew_ok most m1 m8 W)
  have HInv := Lib.hid (MInv.nil (most := most) m1 m8)
  clear hg hl
  go_enter Tryd.func5, Tryd.ntmps5
  go_wp2_with fail
  refine HNew.out.mono ?_; rintro r w1 ⟨T, rfl, hB1, hT⟩
  have HB1 := Lib.hid hB1
  have HT := Lib.hid hT
  clear hB1 hT HNew
  go_wp2_with fail
  refine (HRef.out _).mono ?_; rintro r w2 ⟨R, rfl, hB2, hR⟩
  have HM := Lib.hid (MPlay.new HB1.out HT.out hB2 hR)
  clear hB2 hR HRef HB1 HT
  have HIs := Lib.hid (keep_Is_zero opMNew most w2)
  go_wp2_with fail
  refine HIs.out.mono ?_; rintro r w3 ⟨rfl, hB3⟩
  have HM3 := Lib.hid (HM.out.then hB3)
  clear hB3 HM HIs
  go_wp2_with fail
  go_loopw [9] (fun i wr => ∃ (j : Nat) (v u : Value) (ms : List Mis), j ≤ l.length ∧ j ≤ 60 ∧ i = .int .i64 j ∧ MPlay w wr T R most v u ms ms ∧ MInv most ms) (fun i _ => 60 - (intOf i).toNat)
  case atStart => exact ⟨0, _, _, [], Nat.zero_le _, by omega, rfl, HM3.out, HInv.out⟩
  case round =>
    clear HM3 HInv
    obtain ⟨j, v, u, ms, hj, hj60, rfl, hM, hI⟩ := hrel
    have HM := Lib.hid hM
    have HI := Lib.hid hI
    clear hM hI
    by_cases hlt : j < l.length ∧ j < 60
    · obtain ⟨hlt1, hlt2⟩ := hlt
      obtain ⟨q, hq⟩ : ∃ q, l[j]? = some q := ⟨_, List.getElem?_eq_getElem hlt1⟩
      have HQ := Lib.hid hq; clear hq
      obtain rfl := HL.out.addr (by rintro rfl; simp at hlt1)
      obtain ⟨q0, q1, q2⟩ := (HL.out.below HM.out.below (Nat.le_refl _)).open HQ.out
      have hJ0 : MJoint w (wr.alloc (.cells #[.int .i64 q.kind, .int .i64 q.line, .int .i64 q.miss] 73)) T R most v u ms ms wr.heap.size [.int .i64 q.kind, .int .i64 q.line, .int .i64 q.miss] :=
        ⟨HM.out.then ((Below.refl _ _).alloc (Nat.le_refl _) _), Blk.new _ _ _, fun h => Nat.lt_irrefl _ (HM.out.tab.lt h).1, fun h => Nat.lt_irrefl _ (HM.out.ref.lt h).1⟩
      have HJ0 := Lib.hid hJ0
      clear hJ0
      go_upto_block 2 with (fail)
      have hJ := HJ0.out
      clear HJ0 HM q0 q1 q2
      generalize wr.alloc (.cells #[.int .i64 q.kind, .int .i64 q.line, .int .i64 q.miss] 73) = wc at *
      generalize wr.heap.size = Q at *
      have k0 := hJ.q.cell 0
      have k1 := hJ.q.cell 1
      have k2 := hJ.q.cell 2
      simp only [List.getElem?_cons_zero, List.getElem?_cons_succ] at k0 k1 k2
      go_cut [11] from 43 to 157 (fun s11 wx => s11 = .bool true ∧ ∃ (v' u' : Value) (ms' : List Mis), MPlay w wx T R most v' u' ms' ms' ∧ MInv most ms')
      case first =>
        by_cases e1 : q.kind = 1
        · rename_i z_1 z_2 z_3 z_4 z_5 z_6 z_7 z_8 z_9 z_10 z_11 z_12 z_13
          revert w p most m1 m8 b o c l hll HG z_1 w1 T w2 R w3 z_2 z_3 wr u4 u10 u11 u12 u13 u14 u15 u16 u17 u18 u20 u43 u44 u45 u46 u47 u48 u49 u50 u51 u52 u53 u54 u55 u56 u57 u58 u59 u60 u61 u62 u63 u64 u65 u66 u67 u68 u69 u70 u71 u72 u73 u74 u75 u76 u77 u78 u79 u80 u81 u82 u83 u84 u85 u86 u87 u88 u89 u90 u91 u92 u93 u94 u95 u96 u97 u98 u99 u100 u101 u102 u103 u104 u105 u106 u107 u108 u109 u110 u111 u112 u113 u114 u115 u116 u117 u118 u119 u120 u121 u122 u123 u124 u125 u126 u127 u128 u129 u130 u131 u132 u133 u134 u135 u136 u137 u138 u139 u140 u141 u142 u143 u144 u145 u146 u147 u148 u149 u150 u151 u152 u153 u154 u155 u156 u157 j v u ms hj hj60 HI hlt1 hlt2 q HQ HL z_4 z_5 z_6 z_7 z_8 z_9 wc Q hJ k0 k1 k2 z_10 z_11 z_12 z_13 e1
          exact h1.out
        · by_cases e2 : q.kind = 2
          · rename_i z_1 z_2 z_3 z_4 z_5 z_6 z_7 z_8 z_9 z_10 z_11 z_12 z_13
            revert w p most m1 m8 b o c l hll HG z_1 w1 T w2 R w3 z_2 z_3 wr u4 u10 u11 u12 u13 u14 u15 u16 u17 u18 u20 u43 u44 u45 u46 u47 u48 u49 u50 u51 u52 u53 u54 u55 u56 u57 u58 u59 u60 u61 u62 u63 u64 u65 u66 u67 u68 u69 u70 u71 u72 u73 u74 u75 u76 u77 u78 u79 u80 u81 u82 u83 u84 u85 u86 u87 u88 u89 u90 u91 u92 u93 u94 u95 u96 u97 u98 u99 u100 u101 u102 u103 u104 u105 u106 u107 u108 u109 u110 u111 u112 u113 u114 u115 u116 u117 u118 u119 u120 u121 u122 u123 u124 u125 u126 u127 u128 u129 u130 u131 u132 u133 u134 u135 u136 u137 u138 u139 u140 u141 u142 u143 u144 u145 u146 u147 u148 u149 u150 u151 u152 u153 u154 u155 u156 u157 j v u ms hj hj60 HI hlt1 hlt2 q HQ HL z_4 z_5 z_6 z_7 z_8 z_9 wc Q hJ k0 k1 k2 z_10 z_11 z_12 z_13 e1 e2
            exact h2.out
          · by_cases e3 : q.kind = 3
            · rename_i z_1 z_2 z_3 z_4 z_5 z_6 z_7 z_8 z_9 z_10 z_11 z_12 z_13
              revert w p most m1 m8 b o c l hll HG z_1 w1 T w2 R w3 z_2 z_3 wr u4 u10 u11 u12 u13 u14 u15 u16 u17 u18 u20 u43 u44 u45 u46 u47 u48 u49 u50 u51 u52 u53 u54 u55 u56 u57 u58 u59 u60 u61 u62 u63 u64 u65 u66 u67 u68 u69 u70 u71 u72 u73 u74 u75 u76 u77 u78 u79 u80 u81 u82 u83 u84 u85 u86 u87 u88 u89 u90 u91 u92 u93 u94 u95 u96 u97 u98 u99 u100 u101 u102 u103 u104 u105 u106 u107 u108 u109 u110 u111 u112 u113 u114 u115 u116 u117 u118 u119 u120 u121 u122 u123 u124 u125 u126 u127 u128 u129 u130 u131 u132 u133 u134 u135 u136 u137 u138 u139 u140 u141 u142 u143 u144 u145 u146 u147 u148 u149 u150 u151 u152 u153 u154 u155 u156 u157 j v u ms hj hj60 HI hlt1 hlt2 q HQ HL z_4 z_5 z_6 z_7 z_8 z_9 wc Q hJ k0 k1 k2 z_10 z_11 z_12 z_13 e1 e2 e3
              exact h3.out
            · rename_i z_1 z_2 z_3 z_4 z_5 z_6 z_7 z_8 z_9 z_10 z_11 z_12 z_13
              revert w p most m1 m8 b o c l hll HG z_1 w1 T w2 R w3 z_2 z_3 wr u4 u10 u11 u12 u13 u14 u15 u16 u17 u18 u20 u43 u44 u45 u46 u47 u48 u49 u50 u51 u52 u53 u54 u55 u56 u57 u58 u59 u60 u61 u62 u63 u64 u65 u66 u67 u68 u69 u70 u71 u72 u73 u74 u75 u76 u77 u78 u79 u80 u81 u82 u83 u84 u85 u86 u87 u88 u89 u90 u91 u92 u93 u94 u95 u96 u97 u98 u99 u100 u101 u102 u103 u104 u105 u106 u107 u108 u109 u110 u111 u112 u113 u114 u115 u116 u117 u118 u119 u120 u121 u122 u123 u124 u125 u126 u127 u128 u129 u130 u131 u132 u133 u134 u135 u136 u137 u138 u139 u140 u141 u142 u143 u144 u145 u146 u147 u148 u149 u150 u151 u152 u153 u154 u155 u156 u157 j v u ms hj hj60 HI hlt1 hlt2 q HQ HL z_4 z_5 z_6 z_7 z_8 z_9 wc Q hJ k0 k1 k2 z_10 z_11 z_12 z_13 e1 e2 e3
              exact h4.out
      case rest =>
        rename_i z_1 z_2 z_3 z_4 z_5 z_6 z_7 z_8 z_9 z_10 z_11 z_12 z_13 z_14 z_15 z_16 z_17 z_18 z_19 z_20 z_21 z_22 z_23 z_24 z_25 z_26 z_27 z_28 z_29 z_30 z_31 z_32 z_33 z_34 z_35 z_36 z_37 z_38 z_39 z_40 z_41 z_42 z_43 z_44 z_45 z_46 z_47 z_48 z_49 z_50 z_51 z_52 z_53 z_54 z_55 z_56 z_57 z_58 z_59 z_60 z_61 z_62 z_63 z_64 z_65 z_66 z_67 z_68 z_69 z_70 z_71 z_72 z_73 z_74 z_75 z_76 z_77 z_78 z_79 z_80 z_81 z_82 z_83 z_84 z_85 z_86 z_87 z_88 z_89 z_90 z_91 z_92 z_93 z_94 z_95 z_96 z_97 z_98 z_99 z_100 z_101 z_102 z_103 z_104 z_105 z_106 z_107 z_108 z_109 z_110 z_111 z_112 z_113 z_114 z_115 z_116 z_117 z_118 z_119 z_120 z_121 z_122 z_123 z_124 z_125 z_126 z_127 z_128 z_129 z_130 z_131 z_132
        revert w p most m1 m8 b o c l hll HG z_1 w1 T w2 R w3 z_2 z_3 wr u4 u10 z_4 z_5 z_6 z_7 z_8 z_9 z_10 u18 u20 z_11 z_12 z_13 z_14 z_15 z_16 z_17 z_18 z_19 z_20 z_21 z_22 z_23 z_24 z_25 z_26 z_27 z_28 z_29 z_30 z_31 z_32 z_33 z_34 z_35 z_36 z_37 z_38 z_39 z_40 z_41 z_42 z_43 z_44 z_45 z_46 z_47 z_48 z_49 z_50 z_51 z_52 z_53 z_54 z_55 z_56 z_57 z_58 z_59 z_60 z_61 z_62 z_63 z_64 z_65 z_66 z_67 z_68 z_69 z_70 z_71 z_72 z_73 z_74 z_75 z_76 z_77 z_78 z_79 z_80 z_81 z_82 z_83 z_84 z_85 z_86 z_87 z_88 z_89 z_90 z_91 z_92 z_93 z_94 z_95 z_96 z_97 z_98 z_99 z_100 z_101 z_102 z_103 z_104 z_105 z_106 z_107 z_108 z_109 z_110 z_111 z_112 z_113 z_114 z_115 z_116 z_117 z_118 z_119 z_120 z_121 z_122 z_123 z_124 z_125 j v u ms hj hj60 HI hlt1 hlt2 q HQ HL z_126 z_127 z_128 z_129 z_130 z_131 z_132 Q hJ k0 k1 k2 wc u11 u12 u13 u14 u15 u16 u17 u43 u44 u45 u46 u47 u48 u49 u50 u51 u52 u53 u54 u55 u56 u57 u58 u59 u60 u61 u62 u63 u64 u65 u66 u67 u68 u69 u70 u71 u72 u73 u74 u75 u76 u77 u78 u79 u80 u81 u82 u83 u84 u85 u86 u87 u88 u89 u90 u91 u92 u93 u94 u95 u96 u97 u98 u99 u100 u101 u102 u103 u104 u105 u106 u107 u108 u109 u110 u111 u112 u113 u114 u115 u116 u117 u118 u119 u120 u121 u122 u123 u124 u125 u126 u127 u128 u129 u130 u131 u132 u133 u134 u135 u136 u137 u138 u139 u140 u141 u142 u143 u144 u145 u146 u147 u148 u149 u150 u151 u152 u153 u154 u155 u156 u157 hcut
        exact h5.out
    · clear h1 h2 h3 h4 h5
      have HNL := Lib.hid hlt
      by_cases hjl : j < l.length
      · have hj6 : j = 60 := by omega
        subst hj6
        clear hlt
        go_wp2_with fail
        refine (mshr_runs _ p (HG.out.below HM.out.below (Nat.le_refl _))).mono ?_; rintro r w4 ⟨rfl, hB4⟩
        go_wp2_with fail
        go_ret
        exact ⟨rfl, HM.out.below.trans (hB4.mono HM.out.below.size)⟩
      · obtain rfl : j = l.length := by omega
        clear hlt hjl
        go_wp2_with fail
        refine (mshr_runs _ p (HG.out.below HM.out.below (Nat.le_refl _))).mono ?_; rintro r w4 ⟨rfl, hB4⟩
        go_wp2_with fail
        go_ret
        exact ⟨rfl, HM.out.below.trans (hB4.mono HM.out.below.size)⟩)
end Go.Proofs.YtjmlficbnljiaaaDoor
