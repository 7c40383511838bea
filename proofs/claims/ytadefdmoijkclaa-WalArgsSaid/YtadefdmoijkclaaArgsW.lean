/- The walk of WalArgs; no condition. -/
import Derived.Test.YtadefdmoijkclaaArgsA
namespace Go.Proofs.Ytadefdmoijkclaa
open Go.RowKit Go.MapKept

noncomputable def argsT2 : Code := ((Try.f3.body.bind (tailAt 10)).getD .skip)

set_option maxRecDepth 1000000 in
set_option maxHeartbeats 3200000 in
theorem args_t2 {R : Assn} {w : World} {p N r : Nat} {a m : Int} {u3 u4 u5 u6 u7 u9 u13 u14 u15 u16 u17 u18 u19 u20 u21 u22 u23 u24 u25 u26 u27 u28 u29 u30 u31 u32 u33 u34 u35 u36 u37 u38 u39 u40 u41 u42 u43 u44 u45 u46 u47 u48 u49 u50 u51 u52 u53 u54 u55 u56 u57 u58 u59 u60 u61 u62 u63 u64 u65 u66 u67 u68 u69 u70 u71 u72 u73 u74 u75 u76 u77 u78 u79 u80 u81 u82 u83 u84 u85 u86 u87 u88 u89 u90 u91 u92 u93 u94 u95 u96 u97 u98 u99 u100 u101 u102 u103 u104 u105 u106 u107 u108 u109 u110 u111 u112 u113 u114 u115 u116 u117 u118 u119 u120 u121 u122 u123 u124 u125 u126 u127 u128 u129 u130 u131 u132 u133 u134 u135 u136 u137 u138 u139 u140 u141 u142 u143 u144 u145 u146 u147 u148 u149 u150 u151 u152 u153 u154 u155 u156 u157 u158 u159 u160 u161 u162 u163 u164 u165 u166 u167 u168 u169 u170 u171 u172 u173 u174 u175 u176 u177 u178 u179 u180 u181 u182 u183 u184 u185 u186 u187 u188 u189 u190 u191 u192 u193 u194 u195 u196 u197 u198 u199 u200 u201 u202 u203 u204 u205 u206 u207 u208 u209 u210 u211 u212 u213 u214 u215 u216 u217 u218 u219 u220 u221 u222 u223 u224 u225 u226 u227 u228 u229 u230 u231 u232 u233 u234 u235 u236 u237 u238 u239 u240 u241 u242 u243 u244 u245 u246 u247 u248 u249 u250 u251 u252 u253 u254 u255 : Value} (h3 : Bears w (diskA p (DiskM.new N) * R))
    (hn : -9223372036854775808 ≤ (N : Int) ∧ (N : Int) ≤ 9223372036854775807) (ha : -9223372036854775808 ≤ a ∧ a ≤ 9223372036854775807) (hm : -9223372036854775808 ≤ m ∧ m ≤ 9223372036854775807) (hr : N ≤ 8192) (hre : roomN m.toNat = r) :
    Code.wp Try.prog argsT2 (bodyPost Try.prog Try.f3 (fun e w' => e = .returned (.bool true) ∧ Bears w' R))
      ⟨#[.int .i64 (N : Int), .int .i64 a, .int .i64 m, u3, u4, u5, u6, u7, .pointer (some ⟨p, 0, none⟩), u9, .int .i64 (r : Int), .bool (decide (3 ≤ m)), .bool (wThere (DiskM.new N) a m), u13, u14, u15, u16, u17, u18, u19, u20, u21, u22, u23, u24, u25, u26, u27, u28, u29, u30, u31, u32, u33, u34, u35, u36, u37, u38, u39, u40, u41, u42, u43, u44, u45, u46, u47, u48, u49, u50, u51, u52, u53, u54, u55, u56, u57, u58, u59, u60, u61, u62, u63, u64, u65, u66, u67, u68, u69, u70, u71, u72, u73, u74, u75, u76, u77, u78, u79, u80, u81, u82, u83, u84, u85, u86, u87, u88, u89, u90, u91, u92, u93, u94, u95, u96, u97, u98, u99, u100, u101, u102, u103, u104, u105, u106, u107, u108, u109, u110, u111, u112, u113, u114, u115, u116, u117, u118, u119, u120, u121, u122, u123, u124, u125, u126, u127, u128, u129, u130, u131, u132, u133, u134, u135, u136, u137, u138, u139, u140, u141, u142, u143, u144, u145, u146, u147, u148, u149, u150, u151, u152, u153, u154, u155, u156, u157, u158, u159, u160, u161, u162, u163, u164, u165, u166, u167, u168, u169, u170, u171, u172, u173, u174, u175, u176, u177, u178, u179, u180, u181, u182, u183, u184, u185, u186, u187, u188, u189, u190, u191, u192, u193, u194, u195, u196, u197, u198, u199, u200, u201, u202, u203, u204, u205, u206, u207, u208, u209, u210, u211, u212, u213, u214, u215, u216, u217, u218, u219, u220, u221, u222, u223, u224, u225, u226, u227, u228, u229, u230, u231, u232, u233, u234, u235, u236, u237, u238, u239, u240, u241, u242, u243, u244, u245, u246, u247, u248, u249, u250, u251, u252, u253, u254, u255], []⟩ w := by
  have Hre := Lib.hid hre
  have Hm := Lib.hid hm
  have Ha := Lib.hid ha
  have Hrf := Lib.hid (fun (h3 : 3 ≤ m) => by have := room_facts h3; rw [hre] at this; exact this)
  clear hre
  conv => arg 2; whnf
  try dsimp only
  cases ht : wThere (DiskM.new N) a m with
  | false =>
    have O := Lib.hid (open_nowhere ht)
    have Fm := Lib.hid (format_nowhere ht)
    have hq := new_few N
    generalize DiskM.new N = d at h3 O Fm hq
    clear ht
    go_wp2_with fail
    refine (open_no h3 O.out (by decide) Ha.out Hm.out hq).mono ?_
    rintro e w4 ⟨rfl, h4⟩
    go_wp2_with fail
    refine (format_to h4 Fm.out Ha.out Hm.out (by omega)).mono ?_
    rintro e w5 ⟨rfl, h5⟩
    go_wp2_with fail
    refine (open_no h5 O.out (by decide) Ha.out Hm.out hq).mono ?_
    rintro e w6 ⟨rfl, h6⟩
    go_wp2_with fail
    all_goals
      go_ret
      exact ⟨rfl, h6.right⟩
  | true =>
    obtain ⟨A, Z, rfl, rfl, hz, haz⟩ := there_nats ht
    have haz : A + Z ≤ N := haz
    obtain ⟨d1, f1, L1, u1, n1⟩ := formats (d := DiskM.new N) (a := A) (s := Z) (F := fun _ => zeroSec) rfl rfl hz haz (by show N ≤ 8192; omega) (fun i _ => rfl)
    obtain ⟨o1, g1⟩ := L1.opens (by decide)
    have n1 : d1.len = N := n1
    have F1 := Lib.hid f1
    have O0 := Lib.hid (new_open (n := N) hz haz)
    have O1 := Lib.hid o1
    have G1 := Lib.hid g1
    have N1 := Lib.hid n1
    have U1 := Lib.hid u1
    have hq := new_few N
    have hre : roomN Z = r := Hre.out
    have HRE := Lib.hid hre
    have hrf := Hrf.out (by omega)
    generalize DiskM.new N = d at h3 O0 F1 hq
    have d3 : decide (3 ≤ (Z : Int)) = true := by rw [decide_eq_true_eq]; omega
    clear ht f1 o1 g1 n1 u1 hre Hre Hrf
    go_wp2_with fail
    refine (open_no h3 O0.out (by decide) Ha.out Hm.out hq).mono ?_
    rintro e w4 ⟨rfl, h4⟩
    go_wp2_with fail
    refine (format_to h4 F1.out Ha.out Hm.out (by omega)).mono ?_
    rintro e w5 ⟨rfl, h5⟩
    go_wp2_with fail
    refine (open_yes h5 O1.out G1.out (by omega) (by omega) (L1.few _ (by decide))).mono ?_
    rintro e w6 ⟨x, rfl, h6⟩
    clear h3 h4 h5
    go_wp2_with fail
    refine (groups_any h6).mono ?_
    rintro e w' ⟨rfl, rfl⟩
    go_upto_region 20 with (fail)
    have h19 : ∃ r19, wOpen d1 (A : Int) ((Z : Int) - 1) = (r19, d1) ∧ r19 ≠ 0 ∧ (3 < Z → r19 = 4) := by
      rcases Nat.lt_or_ge 3 Z with hz3 | hz3
      · obtain ⟨Y, rfl⟩ : ∃ Y, Z = Y + 1 := ⟨Z - 1, by omega⟩
        refine ⟨4, ?_, by decide, fun _ => rfl⟩
        rw [show ((Y + 1 : Nat) : Int) - 1 = (Y : Int) by omega]
        exact L1.other (by omega)
      · refine ⟨1, open_nowhere ?_, by decide, fun h => absurd h (by omega)⟩
        rw [← Bool.not_eq_true, there_iff]
        omega
    obtain ⟨r19, o19, n19, z19⟩ := h19
    have O19 := Lib.hid o19
    have Z19 := Lib.hid z19
    clear o19 z19
    refine (open_no h6.pull2 O19.out n19 (by omega) (by omega) (L1.few _ (by decide))).mono ?_
    rintro e w7 ⟨rfl, h7⟩
    go_upto_region 20 with (fail)
    go_cut [167] (fun s wr => s = .bool false ∧ Bears wr (walObj x p A Z ((0 : Nat) : Int) * (diskA p d1 * R)))
    case first =>
      rcases Nat.lt_or_ge 3 Z with hz3 | hz3
      · obtain rfl := Z19.out hz3
        have hz4 : (3 : Int) < (Z : Int) := by omega
        go_wp2_with fail
        go_meet
        case rel => exact ⟨rfl, h7.pull2⟩
      · have hz4 : ¬ (3 : Int) < (Z : Int) := by omega
        go_wp2_with fail
        go_meet
        case rel => exact ⟨rfl, h7.pull2⟩
    case rest =>
      clear h6 h7
      obtain ⟨rfl, h6⟩ := hcut
      have h7 := h6.emptyRow 37 2
      go_upto_region 22 with (fail)
      go_cut [20] (fun s wr => ∃ g0, s = .slice (some ⟨g0, 0, none⟩) 0 0 ∧ Bears wr (rowA 37 2 (.slice (some ⟨g0, 0, none⟩) 0 0) 0 [] * (walObj x p A Z ((0 : Nat) : Int) * (diskA p d1 * R))))
      case first =>
        go_wp2_with fail
        go_meet
        case rel => exact ⟨_, rfl, h7⟩
      case rest =>
        clear h6 h7
        obtain ⟨g0, rfl, h7⟩ := hcut
        go_step
        exact args_t3 h7 L1 N1 U1 HRE hz haz (by omega) (by omega)

noncomputable def argsT1 : Code := ((Try.f3.body.bind (tailAt 9)).getD .skip)
set_option maxRecDepth 1000000 in
set_option maxHeartbeats 3200000 in
theorem args_t1 {R : Assn} {w : World} {p N r : Nat} {a m : Int} {u3 u4 u5 u6 u7 u9 u12 u13 u14 u15 u16 u17 u18 u19 u20 u21 u22 u23 u24 u25 u26 u27 u28 u29 u30 u31 u32 u33 u34 u35 u36 u37 u38 u39 u40 u41 u42 u43 u44 u45 u46 u47 u48 u49 u50 u51 u52 u53 u54 u55 u56 u57 u58 u59 u60 u61 u62 u63 u64 u65 u66 u67 u68 u69 u70 u71 u72 u73 u74 u75 u76 u77 u78 u79 u80 u81 u82 u83 u84 u85 u86 u87 u88 u89 u90 u91 u92 u93 u94 u95 u96 u97 u98 u99 u100 u101 u102 u103 u104 u105 u106 u107 u108 u109 u110 u111 u112 u113 u114 u115 u116 u117 u118 u119 u120 u121 u122 u123 u124 u125 u126 u127 u128 u129 u130 u131 u132 u133 u134 u135 u136 u137 u138 u139 u140 u141 u142 u143 u144 u145 u146 u147 u148 u149 u150 u151 u152 u153 u154 u155 u156 u157 u158 u159 u160 u161 u162 u163 u164 u165 u166 u167 u168 u169 u170 u171 u172 u173 u174 u175 u176 u177 u178 u179 u180 u181 u182 u183 u184 u185 u186 u187 u188 u189 u190 u191 u192 u193 u194 u195 u196 u197 u198 u199 u200 u201 u202 u203 u204 u205 u206 u207 u208 u209 u210 u211 u212 u213 u214 u215 u216 u217 u218 u219 u220 u221 u222 u223 u224 u225 u226 u227 u228 u229 u230 u231 u232 u233 u234 u235 u236 u237 u238 u239 u240 u241 u242 u243 u244 u245 u246 u247 u248 u249 u250 u251 u252 u253 u254 u255 : Value} (h3 : Bears w (diskA p (DiskM.new N) * R))
    (hn : -9223372036854775808 ≤ (N : Int) ∧ (N : Int) ≤ 9223372036854775807) (ha : -9223372036854775808 ≤ a ∧ a ≤ 9223372036854775807) (hm : -9223372036854775808 ≤ m ∧ m ≤ 9223372036854775807) (hr : N ≤ 8192) (hre : roomN m.toNat = r) :
    Code.wp Try.prog argsT1 (bodyPost Try.prog Try.f3 (fun e w' => e = .returned (.bool true) ∧ Bears w' R))
      ⟨#[.int .i64 (N : Int), .int .i64 a, .int .i64 m, u3, u4, u5, u6, u7, .pointer (some ⟨p, 0, none⟩), u9, .int .i64 (r : Int), .bool (decide (3 ≤ m)), u12, u13, u14, u15, u16, u17, u18, u19, u20, u21, u22, u23, u24, u25, u26, u27, u28, u29, u30, u31, u32, u33, u34, u35, u36, u37, u38, u39, u40, u41, u42, u43, u44, u45, u46, u47, u48, u49, u50, u51, u52, u53, u54, u55, u56, u57, u58, u59, u60, u61, u62, u63, u64, u65, u66, u67, u68, u69, u70, u71, u72, u73, u74, u75, u76, u77, u78, u79, u80, u81, u82, u83, u84, u85, u86, u87, u88, u89, u90, u91, u92, u93, u94, u95, u96, u97, u98, u99, u100, u101, u102, u103, u104, u105, u106, u107, u108, u109, u110, u111, u112, u113, u114, u115, u116, u117, u118, u119, u120, u121, u122, u123, u124, u125, u126, u127, u128, u129, u130, u131, u132, u133, u134, u135, u136, u137, u138, u139, u140, u141, u142, u143, u144, u145, u146, u147, u148, u149, u150, u151, u152, u153, u154, u155, u156, u157, u158, u159, u160, u161, u162, u163, u164, u165, u166, u167, u168, u169, u170, u171, u172, u173, u174, u175, u176, u177, u178, u179, u180, u181, u182, u183, u184, u185, u186, u187, u188, u189, u190, u191, u192, u193, u194, u195, u196, u197, u198, u199, u200, u201, u202, u203, u204, u205, u206, u207, u208, u209, u210, u211, u212, u213, u214, u215, u216, u217, u218, u219, u220, u221, u222, u223, u224, u225, u226, u227, u228, u229, u230, u231, u232, u233, u234, u235, u236, u237, u238, u239, u240, u241, u242, u243, u244, u245, u246, u247, u248, u249, u250, u251, u252, u253, u254, u255], []⟩ w := by
  have Hre := Lib.hid hre
  clear hre
  conv => arg 2; whnf
  try dsimp only
  go_upto_region 9 with (fail)
  go_cut [11, 12] (fun s11 s wr => s11 = .bool (decide (3 ≤ m)) ∧ s = .bool (wThere (DiskM.new N) a m) ∧ Bears wr (diskA p (DiskM.new N) * R))
  case first =>
    have hl : ((DiskM.new N).len : Int) = (N : Int) := rfl
    by_cases c3 : 3 ≤ m
    · by_cases c4 : m ≤ (N : Int)
      · by_cases c5 : 0 ≤ a
        · by_cases c6 : a ≤ (N : Int) - m
          · have e : wThere (DiskM.new N) a m = true := there_iff.2 ⟨c3, c4, c5, c6⟩
            have E := Lib.hid e
            clear hl e
            go_wp2_with fail
            go_meet
            case rel => exact ⟨by first | rfl | simp [c3], by rw [E.out], h3⟩
          · have e : wThere (DiskM.new N) a m = false := by rw [← Bool.not_eq_true, there_iff]; exact fun h => c6 h.2.2.2
            have E := Lib.hid e
            clear hl e
            go_wp2_with fail
            go_meet
            case rel => exact ⟨by first | rfl | simp [c3], by rw [E.out], h3⟩
        · have e : wThere (DiskM.new N) a m = false := by rw [← Bool.not_eq_true, there_iff]; exact fun h => c5 h.2.2.1
          have E := Lib.hid e
          clear hl e
          go_wp2_with fail
          go_meet
          case rel => exact ⟨by first | rfl | simp [c3], by rw [E.out], h3⟩
      · have e : wThere (DiskM.new N) a m = false := by rw [← Bool.not_eq_true, there_iff]; exact fun h => c4 h.2.1
        have E := Lib.hid e
        clear hl e
        go_wp2_with fail
        all_goals
          go_meet
          case rel => exact ⟨by first | rfl | simp [c3], by rw [E.out], h3⟩
    · have e : wThere (DiskM.new N) a m = false := by rw [← Bool.not_eq_true, there_iff]; exact fun h => c3 h.1
      have E := Lib.hid e
      clear hl e
      go_wp2_with fail
      go_meet
      case rel => exact ⟨by first | rfl | simp [c3], by rw [E.out], h3⟩
  case rest =>
    clear h3
    obtain ⟨rfl, rfl, h3⟩ := hcut
    go_step
    exact args_t2 h3 hn ha hm hr Hre.out

set_option maxRecDepth 100000 in
set_option maxHeartbeats 3200000 in
theorem args_any {R : Assn} {w : World} (h : Bears w R) (n a m : Int) (hn : -9223372036854775808 ≤ n ∧ n ≤ 9223372036854775807) (ha : -9223372036854775808 ≤ a ∧ a ≤ 9223372036854775807) (hm : -9223372036854775808 ≤ m ∧ m ≤ 9223372036854775807) :
    Calls Try.prog 3 #[.int .i64 n, .int .i64 a, .int .i64 m] w fun e w' => e = .returned (.bool true) ∧ Bears w' R := by
  go_enter Try.func3, Try.ntmps3
  go_wp2_with fail
  refine (wshown_any h).mono ?_
  rintro e w1 ⟨rfl, h1⟩
  by_cases hr : 1 ≤ n ∧ n ≤ 8192
  · obtain ⟨N, rfl⟩ : ∃ N : Nat, n = N := ⟨n.toNat, by omega⟩
    go_wp2_with fail
    refine (new_ok h1 N (by omega) (by omega)).mono ?_
    rintro e w2 ⟨p, rfl, h2⟩
    clear h h1
    go_wp2_with fail
    refine (room_any w2 m hm).mono ?_
    rintro e w' ⟨rfl, rfl⟩
    obtain ⟨r, hre⟩ : ∃ r, roomN m.toNat = r := ⟨_, rfl⟩
    rw [hre]
    have hrf : 3 ≤ m → (1 : Int) ≤ (r : Nat) ∧ ((r : Nat) : Int) ≤ m ∧ 0 ≤ m - 1 - (r : Nat) - ((r : Nat) + 31) / 32 ∧ m - 2 - (r : Nat) - ((r : Nat) + 32) / 32 < 0 := by
      intro h3
      have := room_facts h3
      rw [hre] at this
      exact this
    have Hre := Lib.hid hre
    have Hrf := Lib.hid hrf
    have Hm := Lib.hid hm
    have Ha := Lib.hid ha
    clear hre hrf
    go_upto_region 8 with (fail)
    go_cut [11] (fun s wr => s = .bool (decide (3 ≤ m)) ∧ Bears wr (diskA p (DiskM.new N) * R))
    case first =>
      by_cases h3 : 3 ≤ m
      · have d3 : decide (3 ≤ m) = true := by simpa using h3
        obtain ⟨k1, k2, k3, k4⟩ := Hrf.out h3
        have e1 : ((r : Int) + 31).tdiv 32 = ((r : Int) + 31) / 32 := Int.tdiv_eq_ediv_of_nonneg (by omega)
        have e2 : ((r : Int) + 32).tdiv 32 = ((r : Int) + 32) / 32 := Int.tdiv_eq_ediv_of_nonneg (by omega)
        go_wp2_with fail
        go_meet
        case rel => exact ⟨by rw [d3], h2⟩
      · have d3 : decide (3 ≤ m) = false := by simpa using h3
        go_wp2_with fail
        go_meet
        case rel => exact ⟨by rw [d3], h2⟩
    case rest =>
      obtain ⟨rfl, h3⟩ := hcut
      clear h2
      go_step
      exact args_t1 h3 hn ha hm (by omega) Hre.out
  · go_wp2_with fail
    refine (new_no w1 n (by omega)).mono ?_
    rintro e w' ⟨rfl, rfl⟩
    go_wp2_with fail
    go_ret
    exact ⟨rfl, h1⟩

end Go.Proofs.Ytadefdmoijkclaa
