/- The walk of WalCrashes: a call that makes the log anew; no condition. -/
import Derived.Test.YtadefdmoijkclaaCrashA
namespace Go.Proofs.Ytadefdmoijkclaa
open Go.RowKit Go.MapKept

set_option maxRecDepth 1000000 in
set_option maxHeartbeats 3200000 in
theorem sw_format {R : Assn} {w : World} {K : Act → World → Prop} {Q : Exit → Act → World → Prop} {u0 u1 u2 u3 u4 u5 u10 u15 u17 u18 u19 u20 u21 u22 u23 u24 u25 u26 u27 u28 u29 u30 u31 u32 u33 u34 u35 u36 u37 u38 u39 u40 u41 u42 u43 u44 u45 u46 u47 u48 u49 u50 u51 u52 u53 u54 u55 u56 u57 u58 u59 u60 u61 u62 u63 u64 u65 u66 u67 u68 u69 u70 u71 u72 u73 u74 u75 u76 u78 u79 u80 u81 u82 u83 u84 u85 u86 u87 u88 u89 u90 u91 u92 u93 u94 u95 u96 u97 u98 u99 u100 u101 u102 u103 u104 u105 u106 u107 u108 u109 u110 u111 u112 u113 u114 u115 u116 u117 u118 u119 u120 u121 u122 u123 u124 u125 u126 u127 u128 u129 u130 u131 u132 u133 u134 u135 u136 u137 u138 u139 u140 u141 u142 u143 u144 u145 u146 u147 u148 u149 u150 u151 u152 u153 u154 u155 u156 u157 u158 u159 u160 u161 u162 u163 u164 u165 u166 u167 u168 u169 u170 u171 u172 u173 u174 u175 u176 u177 u178 u179 u180 u181 u182 u183 u184 u185 u186 u187 u188 u189 u190 u191 u192 u193 u194 u195 u196 u197 u198 u199 u200 u201 u202 u203 u204 u205 u206 u207 u208 u209 u210 u211 u212 u213 u214 u215 u216 u217 u218 u219 u220 u221 u222 u223 u224 u225 u226 u227 u228 u229 u230 u231 u232 u233 u234 u235 u236 u237 u238 u239 u240 u241 u242 u243 u244 u245 u246 u247 u248 u249 u250 u251 u252 : Value} {a p i x n o ol oc kl kc : Nat} {kind N : Int} {oa ka la : Option Addr} {lc : Nat} {v9 : Value} {l : List PutM} {F : Nat → Sec} {d : DiskM} {rs : List (Value × Sec)} {Y : Assn}
    (hni : n ≤ i) (hY : RowsV Y rs (secs F a)) (tl : R.Tells (fun w => PutsIn w (.slice la l.length lc) l)) (hl : l.length ≤ 9223372036854775807) (hd : CrOn d a n F) (hn : n < 1000) (ha : a + 40 ≤ 100)
    (h : Bears w (opObj o kind N oa ol oc ka kl kc * (walObj x p a 40 (n : Int) * (diskA p d * (rowA 34 1 v9 60 (rs.map Prod.fst) * (Y * R))))))
    (hK : ∀ {y4 y8 y9 y11 y12 y13 y14 y18 y19 y20 y21 y22 y23 y24 y25 y26 y78 y79 y80 y81 y82 y83 y84 y85 y86 y87 y88 y89 y90 y91 y92 y93 y94 y95 y96 y97 y98 y99 y100 y101 y102 y103 y104 y105 y106 y107 y108 y109 y110 y111 y112 y113 y114 y115 y116 y117 y118 y119 y120 y121 y122 y123 y124 y125 y126 y127 y128 y129 y130 y131 y132 y133 y134 y135 y136 y137 y138 y139 y140 y141 y142 y143 y144 y145 y146 y147 y148 y149 y150 y151 y152 y153 y154 y155 y156 y157 y158 y159 y160 y161 y162 y163 y164 y165 y166 y167 y168 y169 y170 y171 y172 y173 y174 y175 y176 y177 y178 y179 y180 y181 y182 y183 y184 y185 y186 y187 y188 y189 y190 y191 y192 y193 y194 y195 y196 y197 y198 y199 y200 y201 y202 y203 y204 y205 y206 y207 y208 y209 y210 y211 y212 y213 y214 y215 y216 y217 y218 y219 y220 y221 y222 y223 y224 y225 y226 y227 y228 : Value} (w' : World), CrInv R a p (i + 1) y8 y9 y11 y12 y13 y14 w' → K ⟨#[u0, u1, u2, u3, y4, u5, .int .i64 (a : Int), .pointer (some ⟨p, 0, none⟩), y8, y9, u10, y11, y12, y13, y14, u15, .pointer (some ⟨o, 0, none⟩), u17, y18, y19, y20, y21, y22, y23, y24, y25, y26, u27, u28, u29, u30, u31, u32, u33, u34, u35, u36, u37, u38, u39, u40, u41, u42, u43, u44, u45, u46, u47, u48, u49, u50, u51, u52, u53, u54, u55, u56, u57, u58, u59, u60, u61, u62, u63, u64, u65, u66, u67, u68, u69, u70, u71, u72, u73, u74, u75, u76, .int .i64 7, y78, y79, y80, y81, y82, y83, y84, y85, y86, y87, y88, y89, y90, y91, y92, y93, y94, y95, y96, y97, y98, y99, y100, y101, y102, y103, y104, y105, y106, y107, y108, y109, y110, y111, y112, y113, y114, y115, y116, y117, y118, y119, y120, y121, y122, y123, y124, y125, y126, y127, y128, y129, y130, y131, y132, y133, y134, y135, y136, y137, y138, y139, y140, y141, y142, y143, y144, y145, y146, y147, y148, y149, y150, y151, y152, y153, y154, y155, y156, y157, y158, y159, y160, y161, y162, y163, y164, y165, y166, y167, y168, y169, y170, y171, y172, y173, y174, y175, y176, y177, y178, y179, y180, y181, y182, y183, y184, y185, y186, y187, y188, y189, y190, y191, y192, y193, y194, y195, y196, y197, y198, y199, y200, y201, y202, y203, y204, y205, y206, y207, y208, y209, y210, y211, y212, y213, y214, y215, y216, y217, y218, y219, y220, y221, y222, y223, y224, y225, y226, y227, y228, u229, u230, u231, u232, u233, u234, u235, u236, u237, u238, u239, u240, u241, u242, u243, u244, u245, u246, u247, u248, u249, u250, u251, u252], []⟩ w') :
    Code.wp Try.prog crashSw (Exit.then K Q)
      ⟨#[u0, u1, u2, u3, u4, u5, .int .i64 (a : Int), .pointer (some ⟨p, 0, none⟩), .pointer (some ⟨x, 0, none⟩), v9, u10, .int .i64 (n : Int), .slice la l.length lc, .bool false, .bool false, u15, .pointer (some ⟨o, 0, none⟩), u17, u18, u19, u20, u21, u22, u23, u24, u25, u26, u27, u28, u29, u30, u31, u32, u33, u34, u35, u36, u37, u38, u39, u40, u41, u42, u43, u44, u45, u46, u47, u48, u49, u50, u51, u52, u53, u54, u55, u56, u57, u58, u59, u60, u61, u62, u63, u64, u65, u66, u67, u68, u69, u70, u71, u72, u73, u74, u75, u76, .int .i64 7, u78, u79, u80, u81, u82, u83, u84, u85, u86, u87, u88, u89, u90, u91, u92, u93, u94, u95, u96, u97, u98, u99, u100, u101, u102, u103, u104, u105, u106, u107, u108, u109, u110, u111, u112, u113, u114, u115, u116, u117, u118, u119, u120, u121, u122, u123, u124, u125, u126, u127, u128, u129, u130, u131, u132, u133, u134, u135, u136, u137, u138, u139, u140, u141, u142, u143, u144, u145, u146, u147, u148, u149, u150, u151, u152, u153, u154, u155, u156, u157, u158, u159, u160, u161, u162, u163, u164, u165, u166, u167, u168, u169, u170, u171, u172, u173, u174, u175, u176, u177, u178, u179, u180, u181, u182, u183, u184, u185, u186, u187, u188, u189, u190, u191, u192, u193, u194, u195, u196, u197, u198, u199, u200, u201, u202, u203, u204, u205, u206, u207, u208, u209, u210, u211, u212, u213, u214, u215, u216, u217, u218, u219, u220, u221, u222, u223, u224, u225, u226, u227, u228, u229, u230, u231, u232, u233, u234, u235, u236, u237, u238, u239, u240, u241, u242, u243, u244, u245, u246, u247, u248, u249, u250, u251, u252], []⟩ w := by
  obtain ⟨c1, c2, c3⟩ := op_cells h
  by_cases h7 : N = 7
  · subst h7
    obtain ⟨r, d1, f1, hr⟩ := hd.format ha l
    have F1 := Lib.hid f1
    clear f1
    conv => arg 2; whnf
    try dsimp only
    rcases hr with ⟨rfl, hd1⟩ | ⟨rfl, hoff, hd1⟩
    · go_wp2_with fail
      refine (format_to h.pull3 F1.out (by omega) (by omega) (hd.log.few _ (by decide))).mono ?_
      rintro e w1 ⟨rfl, h1⟩
      obtain ⟨o1, g1⟩ := hd1.log.opens (by decide)
      have O1 := Lib.hid o1
      have G1 := Lib.hid g1
      clear o1 g1
      go_wp2_with fail
      refine (open_yes (a := a) (s := 40) h1 O1.out G1.out (by omega) (by omega) (hd1.log.few _ (by decide))).mono ?_
      rintro e w2 ⟨y, rfl, h2⟩
      go_wp2_with fail
      have hoff1 : d1.off = false := hd1.log.off
      exact ⟨y, 0, ((0 : Nat) : Int), F, d1, rs, Y, l, la, lc, false, false, rfl, rfl, rfl, rfl, rfl, by omega, hY, tl, hl, .inl ⟨hoff1, rfl, rfl, rfl, hd1⟩, h2.pull3.right.pull3.right.cast (by ac_rfl)⟩
    · go_wp2_with fail
      refine (format_to h.pull3 F1.out (by omega) (by omega) (hd.log.few _ (by decide))).mono ?_
      rintro e w1 ⟨rfl, h1⟩
      go_wp2_with fail
      exact ⟨x, n, n, F, d1, rs, Y, l, la, lc, false, true, rfl, rfl, rfl, rfl, rfl, by omega, hY, tl, hl, .inr ⟨hoff, fun h => absurd h (by decide), hd1⟩, h1.pull2.right.pull2⟩
  · have h7' : (N == 7) = false := by rw [beq_eq_false_iff_ne]; exact h7
    have h7n : (N != 7) = true := by rw [bne_iff_ne]; exact h7
    conv => arg 2; whnf
    try dsimp only
    go_wp2_with fail
    have hoff1 : d.off = false := hd.log.off
    exact ⟨x, n, n, F, d, rs, Y, l, la, lc, false, false, rfl, rfl, rfl, rfl, rfl, by omega, hY, tl, hl, .inl ⟨hoff1, rfl, rfl, rfl, hd⟩, h.right⟩

end Go.Proofs.Ytadefdmoijkclaa
