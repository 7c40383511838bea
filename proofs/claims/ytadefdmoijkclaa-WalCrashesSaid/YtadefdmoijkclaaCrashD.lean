/- The walk of WalCrashes: a boot; no condition. -/
import Derived.Test.YtadefdmoijkclaaCrashA
namespace Go.Proofs.Ytadefdmoijkclaa
open Go.RowKit Go.MapKept

theorem open_either {p : Nat} {d d' : DiskM} {R : Assn} {w : World} {a s r : Int} (h : Bears w (diskA p d * R)) (heq : wOpen d a s = (r, d')) (ha : -9223372036854775808 ≤ a ∧ a ≤ 9223372036854775807) (hs : -9223372036854775808 ≤ s ∧ s ≤ 9223372036854775807) (hroom : d.waits.length + 20000 < 1099511627776) :
    Calls Try.prog 11 #[.pointer (some ⟨p, 0, none⟩), .int .i64 a, .int .i64 s] w fun e w' => ∃ v E, e = .returned v ∧ Bears w' (diskA p d' * (E * R)) := by
  refine (open_any h a s ha hs hroom).mono ?_
  rintro e w' (⟨h1, h2, h3⟩ | ⟨h1, x, h2, h3⟩)
  · rw [heq] at h3
    exact ⟨_, Assn.emp, h2, h3.cast (by rw [Assn.emp_mul])⟩
  · rw [heq] at h3
    exact ⟨_, _, h2, h3.pull2⟩

set_option maxRecDepth 1000000 in
set_option maxHeartbeats 3200000 in
theorem sw_boot {R : Assn} {w : World} {K : Act → World → Prop} {Q : Exit → Act → World → Prop} {u0 u1 u2 u3 u4 u5 u10 u15 u17 u18 u19 u20 u21 u22 u23 u24 u25 u26 u27 u28 u29 u30 u31 u32 u33 u34 u35 u36 u37 u38 u39 u40 u41 u42 u43 u44 u45 u46 u47 u48 u49 u50 u51 u52 u53 u54 u55 u56 u57 u58 u59 u60 u61 u62 u63 u64 u65 u66 u67 u68 u69 u70 u71 u72 u73 u74 u75 u76 u78 u79 u80 u81 u82 u83 u84 u85 u86 u87 u88 u89 u90 u91 u92 u93 u94 u95 u96 u97 u98 u99 u100 u101 u102 u103 u104 u105 u106 u107 u108 u109 u110 u111 u112 u113 u114 u115 u116 u117 u118 u119 u120 u121 u122 u123 u124 u125 u126 u127 u128 u129 u130 u131 u132 u133 u134 u135 u136 u137 u138 u139 u140 u141 u142 u143 u144 u145 u146 u147 u148 u149 u150 u151 u152 u153 u154 u155 u156 u157 u158 u159 u160 u161 u162 u163 u164 u165 u166 u167 u168 u169 u170 u171 u172 u173 u174 u175 u176 u177 u178 u179 u180 u181 u182 u183 u184 u185 u186 u187 u188 u189 u190 u191 u192 u193 u194 u195 u196 u197 u198 u199 u200 u201 u202 u203 u204 u205 u206 u207 u208 u209 u210 u211 u212 u213 u214 u215 u216 u217 u218 u219 u220 u221 u222 u223 u224 u225 u226 u227 u228 u229 u230 u231 u232 u233 u234 u235 u236 u237 u238 u239 u240 u241 u242 u243 u244 u245 u246 u247 u248 u249 u250 u251 u252 : Value} {a p i x n o ol oc kl kc : Nat} {kind N gw : Int} {sm fr : Bool} {oa ka la : Option Addr} {lc : Nat} {v9 : Value} {l : List PutM} {F : Nat → Sec} {d : DiskM} {rs : List (Value × Sec)} {Y : Assn}
    (hni : n ≤ i) (hY : RowsV Y rs (secs F a)) (tl : R.Tells (fun w => PutsIn w (.slice la l.length lc) l)) (hl : l.length ≤ 9223372036854775807) (hd : CrOff d a n F sm fr l) (hm : sm = true → wMay 100 a 40 l = true ∧ fr = false) (hn : n < 1000) (ha : a + 40 ≤ 100) (hN : N < 9223372036854775808)
    {ks : List Int} (hkl : kl = ks.length) (tk : R.Tells (fun w => IntsIn w (.slice ka kl kc) ks)) (hk1 : ∀ x ∈ ks, -9223372036854775808 ≤ x ∧ x ≤ 9223372036854775807) (hk2 : ks.length ≤ 9223372036854775807)
    (h : Bears w (opObj o kind N oa ol oc ka kl kc * (walObj x p a 40 gw * (diskA p d * (rowA 34 1 v9 60 (rs.map Prod.fst) * (Y * R))))))
    (hK : ∀ {y4 y8 y9 y11 y12 y13 y14 y18 y19 y20 y21 y22 y23 y24 y25 y26 y78 y79 y80 y81 y82 y83 y84 y85 y86 y87 y88 y89 y90 y91 y92 y93 y94 y95 y96 y97 y98 y99 y100 y101 y102 y103 y104 y105 y106 y107 y108 y109 y110 y111 y112 y113 y114 y115 y116 y117 y118 y119 y120 y121 y122 y123 y124 y125 y126 y127 y128 y129 y130 y131 y132 y133 y134 y135 y136 y137 y138 y139 y140 y141 y142 y143 y144 y145 y146 y147 y148 y149 y150 y151 y152 y153 y154 y155 y156 y157 y158 y159 y160 y161 y162 y163 y164 y165 y166 y167 y168 y169 y170 y171 y172 y173 y174 y175 y176 y177 y178 y179 y180 y181 y182 y183 y184 y185 y186 y187 y188 y189 y190 y191 y192 y193 y194 y195 y196 y197 y198 y199 y200 y201 y202 y203 y204 y205 y206 y207 y208 y209 y210 y211 y212 y213 y214 y215 y216 y217 y218 y219 y220 y221 y222 y223 y224 y225 y226 y227 y228 : Value} (w' : World), CrInv R a p (i + 1) y8 y9 y11 y12 y13 y14 w' → K ⟨#[u0, u1, u2, u3, y4, u5, .int .i64 (a : Int), .pointer (some ⟨p, 0, none⟩), y8, y9, u10, y11, y12, y13, y14, u15, .pointer (some ⟨o, 0, none⟩), u17, y18, y19, y20, y21, y22, y23, y24, y25, y26, u27, u28, u29, u30, u31, u32, u33, u34, u35, u36, u37, u38, u39, u40, u41, u42, u43, u44, u45, u46, u47, u48, u49, u50, u51, u52, u53, u54, u55, u56, u57, u58, u59, u60, u61, u62, u63, u64, u65, u66, u67, u68, u69, u70, u71, u72, u73, u74, u75, u76, .int .i64 6, y78, y79, y80, y81, y82, y83, y84, y85, y86, y87, y88, y89, y90, y91, y92, y93, y94, y95, y96, y97, y98, y99, y100, y101, y102, y103, y104, y105, y106, y107, y108, y109, y110, y111, y112, y113, y114, y115, y116, y117, y118, y119, y120, y121, y122, y123, y124, y125, y126, y127, y128, y129, y130, y131, y132, y133, y134, y135, y136, y137, y138, y139, y140, y141, y142, y143, y144, y145, y146, y147, y148, y149, y150, y151, y152, y153, y154, y155, y156, y157, y158, y159, y160, y161, y162, y163, y164, y165, y166, y167, y168, y169, y170, y171, y172, y173, y174, y175, y176, y177, y178, y179, y180, y181, y182, y183, y184, y185, y186, y187, y188, y189, y190, y191, y192, y193, y194, y195, y196, y197, y198, y199, y200, y201, y202, y203, y204, y205, y206, y207, y208, y209, y210, y211, y212, y213, y214, y215, y216, y217, y218, y219, y220, y221, y222, y223, y224, y225, y226, y227, y228, u229, u230, u231, u232, u233, u234, u235, u236, u237, u238, u239, u240, u241, u242, u243, u244, u245, u246, u247, u248, u249, u250, u251, u252], []⟩ w') :
    Code.wp Try.prog crashSw (Exit.then K Q)
      ⟨#[u0, u1, u2, u3, u4, u5, .int .i64 (a : Int), .pointer (some ⟨p, 0, none⟩), .pointer (some ⟨x, 0, none⟩), v9, u10, .int .i64 (n : Int), .slice la l.length lc, .bool sm, .bool fr, u15, .pointer (some ⟨o, 0, none⟩), u17, u18, u19, u20, u21, u22, u23, u24, u25, u26, u27, u28, u29, u30, u31, u32, u33, u34, u35, u36, u37, u38, u39, u40, u41, u42, u43, u44, u45, u46, u47, u48, u49, u50, u51, u52, u53, u54, u55, u56, u57, u58, u59, u60, u61, u62, u63, u64, u65, u66, u67, u68, u69, u70, u71, u72, u73, u74, u75, u76, .int .i64 6, u78, u79, u80, u81, u82, u83, u84, u85, u86, u87, u88, u89, u90, u91, u92, u93, u94, u95, u96, u97, u98, u99, u100, u101, u102, u103, u104, u105, u106, u107, u108, u109, u110, u111, u112, u113, u114, u115, u116, u117, u118, u119, u120, u121, u122, u123, u124, u125, u126, u127, u128, u129, u130, u131, u132, u133, u134, u135, u136, u137, u138, u139, u140, u141, u142, u143, u144, u145, u146, u147, u148, u149, u150, u151, u152, u153, u154, u155, u156, u157, u158, u159, u160, u161, u162, u163, u164, u165, u166, u167, u168, u169, u170, u171, u172, u173, u174, u175, u176, u177, u178, u179, u180, u181, u182, u183, u184, u185, u186, u187, u188, u189, u190, u191, u192, u193, u194, u195, u196, u197, u198, u199, u200, u201, u202, u203, u204, u205, u206, u207, u208, u209, u210, u211, u212, u213, u214, u215, u216, u217, u218, u219, u220, u221, u222, u223, u224, u225, u226, u227, u228, u229, u230, u231, u232, u233, u234, u235, u236, u237, u238, u239, u240, u241, u242, u243, u244, u245, u246, u247, u248, u249, u250, u251, u252], []⟩ w := by
  subst hkl
  obtain ⟨g, G, r, d3, d5, hA, o1, w1, w3, o5, g5, hd5⟩ := hd.boots2 ha hn ks N
  have O1 := Lib.hid o1
  have O5 := Lib.hid o5
  have G5 := Lib.hid g5
  have hg : g < 2000 := by rcases hA with ⟨rfl, _⟩ | ⟨_, rfl, _⟩ | ⟨_, rfl, _⟩ <;> omega
  have hW1 : Hid (((d.boot ks).setFuse N).waits.length + 20000 < 1099511627776) := by show _ < _; rw [w1]; decide
  have hW5 : Hid ((d3.boot ks).waits.length + 20000 < 1099511627776) := by show _ < _; rw [show (d3.boot ks).waits = [] from rfl]; decide
  have few0 := hd.few
  have Hm := Lib.hid hm
  clear o1 o5 g5 w1 hm
  obtain ⟨c1, c2, c3⟩ := op_cells h
  conv => arg 2; whnf
  try dsimp only
  go_wp2_with fail
  refine (boot_to (d' := d.boot ks) ks h.pull3 rfl rfl tk.right.right.right.right hk1 hk2 (by omega)).mono ?_
  rintro e w4 ⟨rfl, h1⟩
  obtain ⟨c1, c2, c3⟩ := op_cells h1.pull2
  go_wp2_with fail
  refine (fuse_to h1 rfl hN).mono ?_
  rintro e w5 ⟨rfl, h2⟩
  go_wp2_with fail
  refine (open_either h2 O1.out (by omega) (by omega) hW1.out).mono ?_
  rintro e w6 ⟨v6, E, rfl, h3⟩
  obtain ⟨c1, c2, c3⟩ := op_cells h3.pull3
  go_wp2_with fail
  refine (boot_to (d' := d3.boot ks) ks h3 rfl rfl tk.right.right.right.right.right hk1 hk2 (by omega)).mono ?_
  rintro e w7 ⟨rfl, h4⟩
  clear c1 c2 c3
  go_wp2_with fail
  refine (open_yes (a := a) (s := 40) h4 O5.out G5.out (by omega) (by omega) hW5.out).mono ?_
  rintro e w8 ⟨y, rfl, h5⟩
  have h6 : Bears w8 (walObj y p a 40 (g : Int) * (diskA p d5 * (rowA 34 1 v9 60 (rs.map Prod.fst) * (Y * R)))) :=
    (h5.cast (by ac_rfl) : Bears _ (E * (opObj o kind N oa ol oc ka ks.length kc * (walObj x p a 40 gw * (walObj y p a 40 (g : Int) * (diskA p d5 * (rowA 34 1 v9 60 (rs.map Prod.fst) * (Y * R)))))))).right.right.right
  have hoff5 : d5.off = false := hd5.log.off
  clear h h1 h2 h3 h4 h5 hW1 hW5 O1 O5 G5
  cases fr with
  | false =>
    cases sm with
    | false =>
      have hgn : g = n ∧ G = F := by
        rcases hA with e | ⟨e, _⟩ | ⟨e, _⟩
        · exact e
        · cases e
        · cases e
      obtain ⟨rfl, rfl⟩ := hgn
      go_wp2_with fail
      exact ⟨y, g, g, G, d5, rs, Y, l, la, lc, false, false, rfl, rfl, rfl, rfl, rfl, by omega, hY, tl, hl, .inl ⟨hoff5, rfl, rfl, rfl, hd5⟩, h6⟩
    | true =>
      rcases hA with ⟨rfl, rfl⟩ | ⟨_, rfl, rfl⟩ | ⟨e, _⟩
      · go_wp2_with fail
        refine (groups_any h6).mono ?_
        rintro e w' ⟨rfl, rfl⟩
        go_wp2_with fail
        exact ⟨y, g, g, G, d5, rs, Y, l, la, lc, false, false, rfl, rfl, rfl, rfl, rfl, by omega, hY, tl, hl, .inl ⟨hoff5, rfl, rfl, rfl, hd5⟩, h6⟩
      · go_wp2_with fail
        refine (groups_any h6).mono ?_
        rintro e w' ⟨rfl, rfl⟩
        go_wp2_with fail
        have h7 : Bears w8 (rowA 34 1 v9 60 (rs.map Prod.fst) * (Y * (walObj y p a 40 ((n + 1 : Nat) : Int) * (diskA p d5 * R)))) := h6.cast (by ac_rfl)
        refine (with_any ha hY h7 tl.right.right (GroupOk.of (Hm.out (by first | rfl | trivial)).1)).mono ?_
        rintro e w9 ⟨v', rs', Y', rfl, hY', h8⟩
        go_wp2_with fail
        exact ⟨y, n + 1, ((n + 1 : Nat) : Int), _, d5, rs', Y', l, la, lc, false, false, rfl, by go_num, rfl, rfl, rfl, by omega, hY', tl, hl, .inl ⟨hoff5, rfl, rfl, rfl, hd5⟩, h8.cast (by ac_rfl)⟩
      · cases e
  | true =>
    obtain rfl : sm = false := by
      cases sm with
      | false => rfl
      | true => have := (Hm.out (by first | rfl | trivial)).2; cases this
    have hGF : (g = n ∨ g = 0) ∧ G = F := by
      rcases hA with ⟨e1, e2⟩ | ⟨e, _⟩ | ⟨_, e1, e2⟩
      · exact ⟨.inl e1, e2⟩
      · cases e
      · exact ⟨.inr e1, e2⟩
    obtain ⟨hg0, rfl⟩ := hGF
    by_cases e0 : g = 0
    · subst e0
      go_wp2_with fail
      refine (groups_any h6).mono ?_
      rintro e w' ⟨rfl, rfl⟩
      go_wp2_with fail
      exact ⟨y, 0, ((0 : Nat) : Int), G, d5, rs, Y, l, la, lc, false, false, rfl, rfl, rfl, rfl, rfl, by omega, hY, tl, hl, .inl ⟨hoff5, rfl, rfl, rfl, hd5⟩, h6⟩
    · obtain rfl : g = n := by omega
      have e1 : ((g : Int) == 0) = false := by rw [beq_eq_false_iff_ne]; omega
      go_wp2_with fail
      refine (groups_any h6).mono ?_
      rintro e w' ⟨rfl, rfl⟩
      go_wp2_with fail
      exact ⟨y, g, g, G, d5, rs, Y, l, la, lc, false, false, rfl, rfl, rfl, rfl, rfl, by omega, hY, tl, hl, .inl ⟨hoff5, rfl, rfl, rfl, hd5⟩, h6⟩

end Go.Proofs.Ytadefdmoijkclaa
