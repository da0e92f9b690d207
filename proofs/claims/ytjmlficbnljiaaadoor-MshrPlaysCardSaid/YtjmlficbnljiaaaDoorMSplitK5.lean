/- The walk of assentlaw7.MshrPlays, part 5 of 5 of a round. -/
import Derived.Test.YtjmlficbnljiaaaDoorMSplit
namespace Go.Proofs.YtjmlficbnljiaaaDoor
open Go.RowKit

set_option maxHeartbeats 40000000 in
set_option maxRecDepth 20000 in
theorem mplays_part5 : mplays_split.P5 := by
  intro w p most m1 m8 b o c l hll HG z_1 w1 T w2 R w3 z_2 z_3 wr u4 u10 z_4 z_5 z_6 z_7 z_8 z_9 z_10 u18 u20 z_11 z_12 z_13 z_14 z_15 z_16 z_17 z_18 z_19 z_20 z_21 z_22 z_23 z_24 z_25 z_26 z_27 z_28 z_29 z_30 z_31 z_32 z_33 z_34 z_35 z_36 z_37 z_38 z_39 z_40 z_41 z_42 z_43 z_44 z_45 z_46 z_47 z_48 z_49 z_50 z_51 z_52 z_53 z_54 z_55 z_56 z_57 z_58 z_59 z_60 z_61 z_62 z_63 z_64 z_65 z_66 z_67 z_68 z_69 z_70 z_71 z_72 z_73 z_74 z_75 z_76 z_77 z_78 z_79 z_80 z_81 z_82 z_83 z_84 z_85 z_86 z_87 z_88 z_89 z_90 z_91 z_92 z_93 z_94 z_95 z_96 z_97 z_98 z_99 z_100 z_101 z_102 z_103 z_104 z_105 z_106 z_107 z_108 z_109 z_110 z_111 z_112 z_113 z_114 z_115 z_116 z_117 z_118 z_119 z_120 z_121 z_122 z_123 z_124 z_125 j v u ms hj hj60 HI hlt1 hlt2 q HQ HL z_126 z_127 z_128 z_129 z_130 z_131 z_132 Q hJ k0 k1 k2 wc u11 u12 u13 u14 u15 u16 u17 u43 u44 u45 u46 u47 u48 u49 u50 u51 u52 u53 u54 u55 u56 u57 u58 u59 u60 u61 u62 u63 u64 u65 u66 u67 u68 u69 u70 u71 u72 u73 u74 u75 u76 u77 u78 u79 u80 u81 u82 u83 u84 u85 u86 u87 u88 u89 u90 u91 u92 u93 u94 u95 u96 u97 u98 u99 u100 u101 u102 u103 u104 u105 u106 u107 u108 u109 u110 u111 u112 u113 u114 u115 u116 u117 u118 u119 u120 u121 u122 u123 u124 u125 u126 u127 u128 u129 u130 u131 u132 u133 u134 u135 u136 u137 u138 u139 u140 u141 u142 u143 u144 u145 u146 u147 u148 u149 u150 u151 u152 u153 u154 u155 u156 u157 hcut
  obtain ⟨rfl, v', u', ms', hM', hI'⟩ := hcut
  have HM' := Lib.hid hM'
  have HI' := Lib.hid hI'
  clear hM' hI' hJ k0 k1 k2 HI
  obtain ⟨au, cu, gu, rfl, hEu, -⟩ := MisAt.of_own HM'.out.ref.row
  have HEU := Lib.hid hEu
  obtain ⟨a0, a1⟩ := HM'.out.ref.c0
  obtain ⟨i0, hi, hz0, hz1, hz2⟩ := info_parts infoMis
  have h8 := HI'.out.len
  clear hEu
  obtain ⟨wo, hwo⟩ : ∃ wo : World, wo = wr := ⟨_, rfl⟩
  go_wp2_with fail
  clear a0 a1
  go_loopw [18, 127] (fun v i wq => ∃ k1 : Nat, k1 ≤ ms'.length ∧ i = .int .i64 k1 ∧ wq.ownsRow wc.heap.size 85 2 v (ms'.take k1).length (flat Mis.cells (ms'.take k1)) ∧ Below wc.heap.size wc wq) (fun _ i _ => ms'.length - (intOf i).toNat)
  case atStart => exact ⟨0, Nat.zero_le _, rfl, by simpa [flat] using World.ownsRow_nil _ _ _ _, Below.refl _ _⟩
  case round =>
    obtain ⟨k1, hk1, rfl, hown, hB⟩ := hrel
    have HO := Lib.hid hown; clear hown
    have HB := Lib.hid hB; clear hB
    by_cases hlt3 : k1 < ms'.length
    · obtain ⟨e, he⟩ : ∃ e, ms'[k1]? = some e := ⟨_, List.getElem?_eq_getElem hlt3⟩
      have HE := Lib.hid he; clear he
      obtain rfl := HEU.out.addr (by rintro rfl; simp at hlt3)
      obtain ⟨c0, c1⟩ := (HEU.out.below HB.out (Nat.le_refl _)).two HE.out
      have hlen : (ms'.take k1).length ≤ 8 := by rw [List.length_take]; omega
      go_wp2_with (at_builtin; refine wpList_append_own_at _ rfl _ _ 79 rfl wc.heap.size 85 i0 _ 2 16 Tryd.underlying79 hi hz0 hz1 hz2 rfl (by decide) _ _ _ rfl ((HO.out.alloc (.cells #[.int .i64 e.line, .int .i64 e.kind] 84)).alloc (.cells #[.int .i64 e.line, .int .i64 e.kind] 85)) ⟨wr.heap.size + 1, 0, none⟩ 1 1 e.cells rfl rfl ?c1 ?c2 ?c3 ?c4 ?c5 ?_)
      case c1 => exact cells_of_blk (by simpa [Mis.cells] using Blk.new (wr.alloc (.cells #[.int .i64 e.line, .int .i64 e.kind] 84)) #[.int .i64 e.line, .int .i64 e.kind] 85)
      case c2 => exact fun u hu => mis_one [e] u (by simpa [flat] using hu)
      case c3 => unfold maxLen; omega
      case c4 => omega
      case c5 => have := HB.out.size; simp; omega
      intro v9 w5 hown2 hgrow _ _
      have hB2 := (((HB.out.alloc HB.out.size (.cells #[.int .i64 e.line, .int .i64 e.kind] 84)).alloc (by have := HB.out.size; simp; omega) (.cells #[.int .i64 e.line, .int .i64 e.kind] 85)).trans (below_grown hgrow (by have := HB.out.size; simp; omega) (fun g hg => (((HO.out.alloc (.cells #[.int .i64 e.line, .int .i64 e.kind] 84)).alloc (.cells #[.int .i64 e.line, .int .i64 e.kind] 85)).lt g hg).1)))
      have HO2 := Lib.hid hown2
      have HB2 := Lib.hid hB2
      clear hown2 hgrow hB2
      go_wp2_with fail
      go_roundw
      case rel =>
        refine ⟨k1 + 1, by omega, by go_num, ?_, HB2.out⟩
        rw [List.take_add_one, HE.out, flat_append]
        simpa [flat, Nat.add_assoc, Nat.min_eq_left (Nat.le_of_lt hlt3)] using HO2.out
      case measure => simp [intOf]; omega
    · obtain rfl : k1 = ms'.length := by omega
      have hown := HO.out
      rw [List.take_length] at hown
      obtain ⟨aw, cw, gw, rfl, hEw, -⟩ := MisAt.of_own hown
      have HEW := Lib.hid hEw
      have HMq := Lib.hid (HM'.out.then HB.out)
      clear hown hEw HO HB HM' HEU
      have HCL := Lib.hid (MList_any HMq.out.tab h8)
      go_wp2_with fail
      refine HCL.out.mono ?_; rintro r w5 ⟨vl, rfl, hownl, hB5⟩
      obtain ⟨al, cl, gl, rfl, hEl, -⟩ := MisAt.of_own hownl
      have HEL := Lib.hid hEl
      have HEW5 := Lib.hid (HEW.out.below hB5 (Nat.le_refl _))
      have HM5 := Lib.hid (HMq.out.then hB5)
      clear hownl hEl hB5 HEW HMq HCL
      have HCS := Lib.hid (Same_mis w5 al aw gl gw cl cw ms' ms' HEL.out HEW5.out (by omega) rfl)
      go_wp2_with fail
      refine HCS.out.mono ?_; rintro r w6 ⟨rfl, hB6⟩
      have HM6 := Lib.hid (HM5.out.then hB6)
      clear hB6 HCS HM5
      have HCF := Lib.hid (MFull_any HM6.out.tab h8)
      have hle := HI'.out.le
      by_cases hf : most ≤ (ms'.length : Int)
      · have hd : decide (most ≤ (ms'.length : Int)) = true := decide_eq_true hf
        have hq : ((ms'.length : Int) == most) = true := by rw [beq_iff_eq]; omega
        rw [hd] at HCF
        clear hd hf hle
        go_wp2_with fail
        refine HCF.out.mono ?_; rintro r w7 ⟨rfl, hB7⟩
        have HM7 := Lib.hid (HM6.out.then hB7)
        clear hB7
        go_wp2_with fail
        go_roundw
        case rel => exact ⟨j + 1, _, _, ms', by omega, by omega, by go_num, HM7.out, HI'.out⟩
        case measure => simp [intOf]; omega
      · have hd : decide (most ≤ (ms'.length : Int)) = false := decide_eq_false hf
        have hq : ((ms'.length : Int) == most) = false := by rw [beq_eq_false_iff_ne]; omega
        rw [hd] at HCF
        clear hd hf hle
        go_wp2_with fail
        refine HCF.out.mono ?_; rintro r w7 ⟨rfl, hB7⟩
        have HM7 := Lib.hid (HM6.out.then hB7)
        clear hB7
        go_wp2_with fail
        go_roundw
        case rel => exact ⟨j + 1, _, _, ms', by omega, by omega, by go_num, HM7.out, HI'.out⟩
        case measure => simp [intOf]; omega
end Go.Proofs.YtjmlficbnljiaaaDoor
