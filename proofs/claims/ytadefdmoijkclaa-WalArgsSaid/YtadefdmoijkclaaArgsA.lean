/- The walk of WalArgs, its last part; no condition. -/
import Derived.Test.YtadefdmoijkclaaWArgsM
import Derived.Test.YtadefdmoijkclaaWOps
import Derived.Test.YtadefdmoijkclaaCut
namespace Go.Proofs.Ytadefdmoijkclaa
open Go.RowKit Go.MapKept

theorem there_iff {d : DiskM} {a m : Int} : wThere d a m = true ↔ 3 ≤ m ∧ m ≤ d.len ∧ 0 ≤ a ∧ a ≤ d.len - m := by
  unfold wThere
  simp only [Bool.and_eq_true, decide_eq_true_eq, and_assoc]

noncomputable def argsT3 : Code := ((Try.f3.body.bind (tailAt 23)).getD .skip)

set_option maxRecDepth 1000000 in
set_option maxHeartbeats 3200000 in
theorem args_t3 {R : Assn} {w : World} {p x N A Z r g0 : Nat} {d1 : DiskM} {u3 u4 u5 u6 u7 u9 u11 u12 u13 u14 u15 u17 u18 u19 u21 u22 u23 u24 u25 u26 u27 u28 u29 u30 u31 u32 u33 u34 u35 u36 u37 u38 u39 u40 u41 u42 u43 u44 u45 u46 u47 u48 u49 u50 u51 u52 u53 u54 u55 u56 u57 u58 u59 u60 u61 u62 u63 u64 u65 u66 u67 u68 u69 u70 u71 u72 u73 u74 u75 u76 u77 u78 u79 u80 u81 u82 u83 u84 u85 u86 u87 u88 u89 u90 u91 u92 u93 u94 u95 u96 u97 u98 u99 u100 u101 u102 u103 u104 u105 u106 u107 u108 u109 u110 u111 u112 u113 u114 u115 u116 u117 u118 u119 u120 u121 u122 u123 u124 u125 u126 u127 u128 u129 u130 u131 u132 u133 u134 u135 u136 u137 u138 u139 u140 u141 u142 u143 u144 u145 u146 u147 u148 u149 u150 u151 u152 u153 u154 u155 u156 u157 u158 u159 u160 u161 u162 u163 u164 u165 u166 u167 u168 u169 u170 u171 u172 u173 u174 u175 u176 u177 u178 u179 u180 u181 u182 u183 u184 u185 u186 u187 u188 u189 u190 u191 u192 u193 u194 u195 u196 u197 u198 u199 u200 u201 u202 u203 u204 u205 u206 u207 u208 u209 u210 u211 u212 u213 u214 u215 u216 u217 u218 u219 u220 u221 u222 u223 u224 u225 u226 u227 u228 u229 u230 u231 u232 u233 u234 u235 u236 u237 u238 u239 u240 u241 u242 u243 u244 u245 u246 u247 u248 u249 u250 u251 u252 u253 u254 u255 : Value} (h7 : Bears w (rowA 37 2 (.slice (some ⟨g0, 0, none⟩) 0 0) 0 [] * (walObj x p A Z ((0 : Nat) : Int) * (diskA p d1 * R))))
    (L1 : LogOn d1 A Z 0 (fun _ => zeroSec)) (N1 : Hid (d1.len = N)) (U1 : Hid (d1.fuse = -1)) (HRE : Hid (roomN Z = r)) (hz : 3 ≤ Z) (haz : A + Z ≤ N) (hr : N ≤ 8192) (hr1 : 1 ≤ r) :
    Code.wp Try.prog argsT3 (bodyPost Try.prog Try.f3 (fun e w' => e = .returned (.bool true) ∧ Bears w' R))
      ⟨#[.int .i64 (N : Int), .int .i64 (A : Int), .int .i64 (Z : Int), u3, u4, u5, u6, u7, .pointer (some ⟨p, 0, none⟩), u9, .int .i64 (r : Int), u11, u12, u13, u14, u15, .pointer (some ⟨x, 0, none⟩), u17, u18, u19, .slice (some ⟨g0, 0, none⟩) 0 0, u21, u22, u23, u24, u25, u26, u27, u28, u29, u30, u31, u32, u33, u34, u35, u36, u37, u38, u39, u40, u41, u42, u43, u44, u45, u46, u47, u48, u49, u50, u51, u52, u53, u54, u55, u56, u57, u58, u59, u60, u61, u62, u63, u64, u65, u66, u67, u68, u69, u70, u71, u72, u73, u74, u75, u76, u77, u78, u79, u80, u81, u82, u83, u84, u85, u86, u87, u88, u89, u90, u91, u92, u93, u94, u95, u96, u97, u98, u99, u100, u101, u102, u103, u104, u105, u106, u107, u108, u109, u110, u111, u112, u113, u114, u115, u116, u117, u118, u119, u120, u121, u122, u123, u124, u125, u126, u127, u128, u129, u130, u131, u132, u133, u134, u135, u136, u137, u138, u139, u140, u141, u142, u143, u144, u145, u146, u147, u148, u149, u150, u151, u152, u153, u154, u155, u156, u157, u158, u159, u160, u161, u162, u163, u164, u165, u166, u167, u168, u169, u170, u171, u172, u173, u174, u175, u176, u177, u178, u179, u180, u181, u182, u183, u184, u185, u186, u187, u188, u189, u190, u191, u192, u193, u194, u195, u196, u197, u198, u199, u200, u201, u202, u203, u204, u205, u206, u207, u208, u209, u210, u211, u212, u213, u214, u215, u216, u217, u218, u219, u220, u221, u222, u223, u224, u225, u226, u227, u228, u229, u230, u231, u232, u233, u234, u235, u236, u237, u238, u239, u240, u241, u242, u243, u244, u245, u246, u247, u248, u249, u250, u251, u252, u253, u254, u255], []⟩ w := by
  conv => arg 2; whnf
  try dsimp only
  go_upto_block 0 with (fail)
  go_cut [20] (fun gv wr => ∃ (k : Nat) (l : List PutM) (S : List (Nat × Obj)), ArgsL N A Z k l ∧ k ≤ N ∧ l.length ≤ k ∧ l.length ≤ r + 1 ∧ (∀ p ∈ l, PutHeld S p) ∧
    Bears wr (rowA 37 2 gv l.length (putCells l) * (storeA S * (walObj x p A Z ((0 : Nat) : Int) * (diskA p d1 * R)))))
  case first =>
    go_wp2_with fail
    go_loopw [20, 21] (fun gv i wr => ∃ k : Nat, k ≤ N ∧ i = .int .i64 k ∧ ∃ (l : List PutM) (S : List (Nat × Obj)), ArgsL N A Z k l ∧ l.length ≤ k ∧ l.length ≤ r + 1 ∧ (∀ p ∈ l, PutHeld S p) ∧
      Bears wr (rowA 37 2 gv l.length (putCells l) * (storeA S * (walObj x p A Z ((0 : Nat) : Int) * (diskA p d1 * R))))) (fun _ i _ => N - (intOf i).toNat)
    case atStart => exact ⟨0, by omega, rfl, [], [], ArgsL.nil _ _ _, by simp, by simp, by simp, h7.cast (by rw [show storeA [] = Assn.emp from rfl, Assn.emp_mul]; rfl)⟩
    case round =>
      clear h7
      obtain ⟨k, hk, rfl, l, S, hL, hlk, hlr, hh, h8⟩ := hrel
      obtain ⟨ga, gc, rfl, _⟩ := h8.rowForm
      by_cases hlt : k < N ∧ l.length ≤ r
      · obtain ⟨hkN, hlr'⟩ := hlt
        have hkN' : (k : Int) < (N : Int) := by omega
        have hlr'' : (l.length : Int) ≤ (r : Int) := by omega
        by_cases hin : A ≤ k ∧ k < A + Z
        · have i1 : (A : Int) ≤ (k : Int) := by omega
          have i2 : (k : Int) < (A : Int) + (Z : Int) := by omega
          go_wp2_with fail
          go_roundw
          case rel => exact ⟨k + 1, hkN, by go_num, l, S, hL.mono, by omega, hlr, hh, h8⟩
          case measure => simp [intOf]; omega
        · have hk8 : k ≤ 8192 := by omega
          have hstep := fun g => hL.step hkN hin g
          have Hstep := Lib.hid hstep
          clear hstep
          have hk1 : (k : Int) % 256 = ((UInt8.ofNat k).toNat : Int) := by rw [UInt8.toNat_ofNat']; omega
          have Hk1 := Lib.hid hk1
          clear hk1
          obtain ⟨i0, hi0, hz0, hz1, hz2⟩ := info_parts i_put
          go_wp2_with fail
          all_goals
            refine (wfull_num h8 (UInt8.ofNat k) 7 Hk1.out rfl).mono ?_
            rintro e w11 ⟨gb, rfl, h11⟩
            have h12 := h11.alloc (.cells #[.int .i64 (k : Int), .slice (some ⟨gb, 0, none⟩) 64 64] 37)
            have hnews := World.news_of_block (cs := #[.int .i64 (k : Int), .slice (some ⟨gb, 0, none⟩) 64 64]) h12.obj
            have h13 := h12.pull3
            clear h11 h12
            go_wp2_with (at_builtin; refine wpList_append_bears h13 rfl rfl u_puts hi0 hz0 hz1 hz2 (by simp [Value.cells]) (by decide) rfl (m := 1) rfl rfl hnews (by intro u hu; simp at hu; rcases hu with rfl | rfl <;> rfl) (by unfold maxLen; omega) (by omega) ?_; intro a' c' w14 h14)
            have h15 : Bears w14 (rowA 37 2 (.slice a' (l.length + 1) c') (l.length + 1) (putCells l ++ [.int .i64 (k : Int), .slice (some ⟨gb, 0, none⟩) 64 64]) *
              (Assn.obj gb (.cells (cellsV (fullS (UInt8.ofNat k) 7)).toArray 5 (0, 0)) * (storeA S * (walObj x p A Z ((0 : Nat) : Int) * (diskA p d1 * R))))) := h14.pull2.right
            go_roundw
            case rel =>
              refine ⟨k + 1, hkN, by go_num, l ++ [putOf (k : Int) gb (fullS (UInt8.ofNat k) 7)], (gb, .cells (cellsV (fullS (UInt8.ofNat k) 7)).toArray 5 (0, 0)) :: S, Hstep.out gb, by simp; omega, by simp; omega, ?_, ?_⟩
              · intro q hq
                rcases List.mem_append.1 hq with hq | hq
                · exact (hh q hq).mono
                · rw [List.mem_singleton] at hq
                  subst hq
                  exact ⟨gb, rfl, by simp⟩
              · rw [putCells_snoc]
                simp only [List.length_append, List.length_cons, List.length_nil, Nat.zero_add]
                exact h15.cast (by rw [show storeA ((gb, Obj.cells (cellsV (fullS (UInt8.ofNat k) 7)).toArray 5 (0, 0)) :: S) = Assn.obj gb (.cells (cellsV (fullS (UInt8.ofNat k) 7)).toArray 5 (0, 0)) * storeA S from rfl]; ac_rfl)
            case measure => simp [intOf]; omega
      · go_wp2_with fail
        all_goals
          go_meet
          case rel => exact ⟨k, l, S, hL, hk, hlk, hlr, hh, h8⟩
  case rest =>
    clear h7
    obtain ⟨k, l, S, hL, hk, hlk, hlr, hh, h8⟩ := hcut
    obtain ⟨ga, gc, rfl, _⟩ := h8.rowForm
    have tl : (rowA 37 2 (.slice ga l.length gc) l.length (putCells l) * storeA S).Tells (fun w => PutsIn w (.slice ga l.length gc) l) := by
      intro w hw
      exact PutsIn.row hw rfl (fun q hq => by
        have := (hh q hq).tells (R := Assn.emp)
        rwa [Assn.mul_emp] at this)
    have h9 : Bears wc (walObj x p A Z ((0 : Nat) : Int) * (diskA p d1 * ((rowA 37 2 (.slice ga l.length gc) l.length (putCells l) * storeA S) * R))) := h8.cast (by ac_rfl)
    generalize rowA 37 2 (.slice ga l.length gc) l.length (putCells l) * storeA S = Y at tl h9
    clear h8
    go_upto_if 201 with (fail)
    go_cut [20] (fun s wr => ∃ (l2 : List PutM), s = .slice ga l2.length gc ∧ ArgsL N A Z k l2 ∧ l2.length ≤ r ∧ Y.Tells (fun w => PutsIn w (.slice ga l2.length gc) l2) ∧ Bears wr (walObj x p A Z ((0 : Nat) : Int) * (diskA p d1 * (Y * R))))
    case first =>
      by_cases hbig : r < l.length
      · have hb1 : (r : Int) < (l.length : Int) := by omega
        have C1 := Lib.hid (wCommit_no (d := d1) (a := A) (s := Z) (g := ((0 : Nat) : Int)) (l := l) (may_long (by rw [HRE.out]; exact hbig)))
        have hln : l.length ≤ 9223372036854775807 := Nat.le_trans hlk (Nat.le_trans hk (Nat.le_trans hr (by decide)))
        go_wp2_with fail
        refine (commit_to h9 C1.out tl.left hln (by omega) (by omega) (L1.few _ (by decide))).mono ?_
        rintro e w10 ⟨rfl, h10⟩
        go_wp2_with fail
        refine (groups_any h10).mono ?_
        rintro e w' ⟨rfl, rfl⟩
        have htk : (l.take r).length = r := by simp; omega
        have tl2 : Y.Tells (fun w => PutsIn w (.slice ga (l.take r).length gc) (l.take r)) := fun w hw => by
          have := (tl w hw).take (m := r) (by omega)
          rw [htk]
          exact this
        obtain ⟨b, o, rfl, _⟩ := (tl.left _ h10.right.right).cells (k := 0) (by omega)
        have hcap := (tl.left _ h10.right.right).le
        have Tl2 := Lib.hid tl2
        have Htk := Lib.hid htk
        clear tl2 htk
        go_wp2_with fail
        go_meet
        case rel => exact ⟨l.take r, by rw [Htk.out], hL.take r, by rw [Htk.out]; omega, Tl2.out, h10⟩
      · have hb1 : ¬ (r : Int) < (l.length : Int) := by omega
        go_wp2_with fail
        go_meet
        case rel => exact ⟨l, rfl, hL, by omega, tl, h9⟩
    case rest =>
      clear h9
      obtain ⟨l2, rfl, hL2, hl2, tl2, h9⟩ := hcut
      have hm2 : wMay d1.len A Z l2 = true := by rw [N1.out]; exact hL2.yes (by rw [HRE.out]; exact hl2)
      obtain ⟨d2, c2, L2, u2, n2⟩ := L1.commits U1.out (by decide) hm2
      have hok := GroupOk.of hm2
      have C2 := Lib.hid c2
      have hrs : r ≤ Z := by rw [← HRE.out]; exact room_le Z
      have hl2n : l2.length ≤ 9223372036854775807 := by omega
      have N2 := Lib.hid (n2.trans N1.out)
      rw [N1.out] at hok
      clear c2 hm2 u2 n2
      go_wp2_with fail
      refine (commit_to h9 C2.out tl2.left hl2n (by omega) (by omega) (L1.few _ (by decide))).mono ?_
      rintro e w10 ⟨rfl, h10⟩
      have hnow := fun j (hj : j < l2.length) => hL2.now (fun _ => zeroSec) hj
      generalize applyPuts (fun _ => zeroSec) l2 = F2 at L2 hnow
      have Hnow := Lib.hid hnow
      clear hnow h9 C2
      go_wp2_with fail
      go_loopw [24] (fun i wr => ∃ j : Nat, j ≤ l2.length ∧ i = .int .i64 j ∧ Bears wr (walObj x p A Z ((0 + 1 : Nat) : Int) * (diskA p d2 * (Y * R)))) (fun i _ => l2.length - (intOf i).toNat)
      case atStart => exact ⟨0, by omega, rfl, h10⟩
      case round =>
        obtain ⟨j, hj, rfl, h11⟩ := hrel
        by_cases hjl : j < l2.length
        · obtain ⟨b, o, rfl, q1, _, _⟩ := (tl2.left _ h11.right.right).cells hjl
          obtain ⟨i, hi, hF⟩ := Hnow.out j hjl
          obtain ⟨_, hi0, hi1, hi2⟩ := hok.ok _ (getD_mem hjl)
          rw [hi] at q1 hi0 hi1 hi2
          have Hi := Lib.hid hi
          have f1 : Hid (d2.check (i : Int) = 0) := DiskM.on_check L2.off (by rw [N2.out]; omega)
          have f2 : Hid (d2.now ((i : Int)).toNat = fullS (UInt8.ofNat i) 7) := by
            rw [Int.toNat_natCast, L2.now (by omega)]
            exact hF
          have hk1 : (i : Int) % 256 = ((UInt8.ofNat i).toNat : Int) := by rw [UInt8.toNat_ofNat']; omega
          have Hk1 := Lib.hid hk1
          clear hk1 hi hF
          go_wp2_with fail
          refine (read_to (s := fullS (UInt8.ofNat i) 7) _ h11.pull2 f1.out f2.out).mono ?_
          rintro e w12 ⟨gr, rfl, h12⟩
          go_wp2_with fail
          have h13 : Bears w12.drew (Assn.obj gr (.cells (cellsV (fullS (UInt8.ofNat i) 7)).toArray 82 (0, 0)) * (Y * (walObj x p A Z ((0 + 1 : Nat) : Int) * (diskA p d2 * R)))) := h12.drew.cast (by ac_rfl)
          have hfl := fullS_length (UInt8.ofNat i) 7
          refine wp_region_L (fun w' => ∃ G, Bears w' (Assn.obj gr (.cells (cellsV (fullS (UInt8.ofNat i) 7)).toArray 82 (0, 0)) * (Y * G))) 15
            [(true, 0), (true, 1), (true, 2), (true, 3), (true, 4), (true, 5), (true, 6), (true, 7), (true, 8), (true, 9), (true, 10), (false, 11), (false, 12), (true, 13), (true, 14)] [] (by kernel_rfl) (by kernel_rfl) ⟨_, h13⟩ ?_
          simp only [pick, List.getElem?_cons_zero, List.getElem?_cons_succ]
          refine wpL_guarded (v := ?_) rfl (fun w' hS => ?_) ?_
          rotate_left
          · (go_simp; try with_reducible rfl)
          simp only [Act.put, List.setIfInBounds_toArray, List.set_cons_zero, List.set_cons_succ]
          refine wpL_guarded (v := ?_) rfl (fun w' hS => ?_) ?_
          rotate_left
          · (go_simp; try with_reducible rfl)
          simp only [Act.put, List.setIfInBounds_toArray, List.set_cons_zero, List.set_cons_succ]
          refine wpL_guarded (v := ?_) rfl (fun w' hS => ?_) ?_
          rotate_left
          · (go_simp; try with_reducible rfl)
          simp only [Act.put, List.setIfInBounds_toArray, List.set_cons_zero, List.set_cons_succ]
          refine wpL_guarded (v := ?_) rfl (fun w' hS => ?_) ?_
          rotate_left
          · (go_simp; try with_reducible rfl)
          simp only [Act.put, List.setIfInBounds_toArray, List.set_cons_zero, List.set_cons_succ]
          refine wpL_guarded rfl (fun w' hS => exec_convert rfl rfl (run_convert_in (by obtain ⟨_, hS⟩ := hS; exact BytesIn.tells _ _ (by rw [hfl]) _ hS))) ?_
          simp only [Act.put, List.setIfInBounds_toArray, List.set_cons_zero, List.set_cons_succ]
          refine wpL_guarded (v := ?_) rfl (fun w' hS => ?_) ?_
          rotate_left
          · (obtain ⟨_, hS⟩ := hS; obtain ⟨b', o', he, r1, _, _⟩ := (tl2.left _ hS.right).cells hjl; cases he; rw [Hi.out] at r1; go_simp; try with_reducible rfl)
          simp only [Act.put, List.setIfInBounds_toArray, List.set_cons_zero, List.set_cons_succ]
          refine wpL_guarded (v := ?_) rfl (fun w' hS => ?_) ?_
          rotate_left
          · (obtain ⟨_, hS⟩ := hS; obtain ⟨b', o', he, r1, _, _⟩ := (tl2.left _ hS.right).cells hjl; cases he; rw [Hi.out] at r1; go_simp; try with_reducible rfl)
          simp only [Act.put, List.setIfInBounds_toArray, List.set_cons_zero, List.set_cons_succ]
          refine wpL_guarded (v := ?_) rfl (fun w' hS => ?_) ?_
          rotate_left
          · (obtain ⟨_, hS⟩ := hS; obtain ⟨b', o', he, r1, _, _⟩ := (tl2.left _ hS.right).cells hjl; cases he; rw [Hi.out] at r1; go_simp; try with_reducible rfl)
          simp only [Act.put, List.setIfInBounds_toArray, List.set_cons_zero, List.set_cons_succ]
          refine wpL_guarded (v := ?_) rfl (fun w' hS => ?_) ?_
          rotate_left
          · (obtain ⟨_, hS⟩ := hS; obtain ⟨b', o', he, r1, _, _⟩ := (tl2.left _ hS.right).cells hjl; cases he; rw [Hi.out] at r1; go_simp; try with_reducible rfl)
          simp only [Act.put, List.setIfInBounds_toArray, List.set_cons_zero, List.set_cons_succ]
          refine wpL_guarded (v := ?_) rfl (fun w' hS => ?_) ?_
          rotate_left
          · (obtain ⟨_, hS⟩ := hS; obtain ⟨b', o', he, r1, _, _⟩ := (tl2.left _ hS.right).cells hjl; cases he; rw [Hi.out] at r1; go_simp; try with_reducible rfl)
          simp only [Act.put, List.setIfInBounds_toArray, List.set_cons_zero, List.set_cons_succ]
          refine wpL_guarded (v := ?_) rfl (fun w' hS => ?_) ?_
          rotate_left
          · (obtain ⟨_, hS⟩ := hS; obtain ⟨b', o', he, r1, _, _⟩ := (tl2.left _ hS.right).cells hjl; cases he; rw [Hi.out] at r1; go_simp; try with_reducible rfl)
          simp only [Act.put, List.setIfInBounds_toArray, List.set_cons_zero, List.set_cons_succ]
          refine wpL_effG rfl ?_
          go_simp
          refine (wfull_num h13 (UInt8.ofNat i) 7 Hk1.out rfl).mono ?_
          rintro e w14 ⟨g2, rfl, h14⟩
          refine ⟨⟨_, h14.right⟩, ?_⟩
          refine wpL_effG rfl (wp_of_run (exec_convert rfl rfl (run_convert_in (BytesIn.tells _ _ (by rw [hfl]) _ h14))) ⟨⟨_, h14.right⟩, ?_⟩)
          simp only [Act.put, List.setIfInBounds_toArray, List.set_cons_zero, List.set_cons_succ]
          refine wpL_guarded (v := ?_) rfl (fun w' hS => ?_) ?_
          rotate_left
          · (go_simp; try with_reducible rfl)
          simp only [Act.put, List.setIfInBounds_toArray, List.set_cons_zero, List.set_cons_succ]
          refine wpL_guarded (v := ?_) rfl (fun w' hS => ?_) ?_
          rotate_left
          · (go_simp; try with_reducible rfl)
          simp only [Act.put, List.setIfInBounds_toArray, List.set_cons_zero, List.set_cons_succ]
          refine wpL_nil ?_
          refine wpL_nil ?_
          go_wp2_with fail
          go_roundw
          case rel => exact ⟨j + 1, hjl, by go_num, h14.right.right.cast (by ac_rfl)⟩
          case measure => simp [intOf]; omega
        · go_wp2_with fail
          refine (groups_any h11).mono ?_
          rintro e w' ⟨rfl, rfl⟩
          go_wp2_with fail
          go_ret
          exact ⟨rfl, h11.right.right.right⟩

end Go.Proofs.Ytadefdmoijkclaa
