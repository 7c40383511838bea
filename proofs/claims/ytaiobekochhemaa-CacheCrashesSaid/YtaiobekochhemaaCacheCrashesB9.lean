/- Texts of this claim, put together: AbortsW, Fused, CCrashM, Cut, CCrashA, CCrashesW; no condition. -/
import Derived.Test.YtaiobekochhemaaCacheCrashesB8
import Derived.WalkKit

/- The law CacheAborts, walked; no condition. -/
namespace Go.Proofs.Ytaiobekochhemaa
open Go.RowKit Go.MapKept

/-- A byte a sector. -/
structure WantOk (G : Nat → Sec) (want : List UInt8) : Prop where
  len : want.length = 100
  at' : ∀ i, 40 ≤ i → i < 100 → G i = fullB (want.getD i 0)
theorem WantOk.start : WantOk (fun _ => zeroSec) (List.replicate 100 0) := by
  refine ⟨by simp, fun i _ h => ?_⟩
  rw [List.getD_eq_getElem?_getD, List.getElem?_replicate, if_pos h]
  rfl
theorem WantOk.put {G : Nat → Sec} {want : List UInt8} (h : WantOk G want) {i : Nat} (c : UInt8) (hi : i < 100) : WantOk (updS G i (fullB c)) (want.set i c) := by
  refine ⟨by simp [h.len], fun j h1 h2 => ?_⟩
  unfold updS
  by_cases e : j = i
  · subst e
    rw [if_pos rfl, List.getD_eq_getElem?_getD, List.getElem?_set_self (by rw [h.len]; exact hi)]
    rfl
  · rw [if_neg e, List.getD_eq_getElem?_getD, List.getElem?_set_ne (Ne.symm e), ← List.getD_eq_getElem?_getD]
    exact h.at' j h1 h2

set_option maxRecDepth 100000 in
set_option maxHeartbeats 4000000 in
theorem aborts_any {R : Assn} {w : World} (h : Bears w R) {l1 l2 : List COpM} {a1 a2 : Option Addr} {c1 c2 : Nat}
    (t1 : R.Tells (fun w => COpsIn w (.slice a1 l1.length c1) l1)) (b1 : l1.length ≤ 9223372036854775807) (hl1 : ∀ k, k < l1.length → (l1.getD k default).Fine)
    (t2 : R.Tells (fun w => COpsIn w (.slice a2 l2.length c2) l2)) (b2 : l2.length ≤ 9223372036854775807) (hl2 : ∀ k, k < l2.length → (l2.getD k default).Fine) :
    Calls Try.prog 6 #[.slice a1 l1.length c1, .slice a2 l2.length c2] w fun e w' => e = .returned (.bool true) ∧ Bears w' R := by
  go_enter Try.func6, Try.ntmps6
  go_wp2_with fail
  refine (shown3_any h).mono ?_
  rintro e w1 ⟨rfl, h1⟩
  go_wp2_with fail
  refine (ground3_any h1 5 (by decide)).mono ?_
  rintro e w2 ⟨p, c, x, d, rfl, L, hdl, hfu, _, _, h2⟩
  have h3 : Bears w2 (cvA c p x 100 0 40 (fun _ => zeroSec) (fun _ => zeroSec) 0 false * (diskA p d * (walObj x p 0 40 ((0 : Nat) : Int) * R))) := Bears.cv.2 ⟨_, CV.new (by decide), h2.c23⟩
  have hw0 := WantOk.start
  have hy0 : ∀ w, (Instr.build 60 #[]).run Try.prog w = .ok (.agg (cellsV (List.replicate 100 0)).toArray) w := fun _ => by kernel_rfl
  have hy1 : ∀ w, (zeroValue 60).run Try.prog w = .ok (.agg (cellsV (List.replicate 100 0)).toArray) w := fun _ => by kernel_rfl
  have hi2 : (Try.prog.info? 60).map (·.size) = some (Value.agg (cellsV (List.replicate 100 0)).toArray).cells.size := by kernel_rfl
  have hone : ∀ v ∈ (cellsV (List.replicate 100 0)).toArray.toList, v.oneCell' = true := fun v hv => oneCell_cellsV _ v (by simpa using hv)
  generalize (fun _ => zeroSec : Nat → Sec) = F0 at L h3 hw0
  generalize List.replicate 100 (0 : UInt8) = ys at hy0 hy1 hi2 hone hw0
  have HL := Lib.hid L
  have Hdl := Lib.hid hdl
  have Hfu := Lib.hid hfu
  clear h h1 h2 L hdl hfu
  go_wp2_with (first
    | (refine wpList_op rfl (exec_build0 rfl (hy0 _)) ?_)
    | (refine wpList_alloc_z rfl rfl (hy1 _) ?_)
    | (refine wpList_store_obj (h3.alloc _) rfl rfl rfl rfl rfl hi2 hone ?_; intro w4 h4))
  generalize w2.heap.size = sb at h4
  refine (vbegin_any h4.pull2).mono ?_
  rintro e w5 ⟨rfl, h5⟩
  clear h3 h4 hy0 hy1 hi2 hone
  go_upto_block 0 with (fail)
  go_cut [] (fun wr => ∃ k want G, k ≤ 30 ∧ WantOk G want ∧ Bears wr (cvA c p x 100 0 40 F0 G k true * (diskA p d * (Assn.obj sb (.cells (cellsV want).toArray 60 (0, 0)) * (walObj x p 0 40 ((0 : Nat) : Int) * R)))))
  case first =>
    go_wp2_with fail
    go_loopw [9] (fun i wr => ∃ k : Nat, k ≤ l1.length ∧ k ≤ 30 ∧ i = .int .i64 k ∧ ∃ want G, WantOk G want ∧ Bears wr (cvA c p x 100 0 40 F0 G k true * (diskA p d * (Assn.obj sb (.cells (cellsV want).toArray 60 (0, 0)) * (walObj x p 0 40 ((0 : Nat) : Int) * R))))) (fun i _ => 30 - (intOf i).toNat)
    case atStart => exact ⟨0, by omega, by omega, rfl, ys, F0, hw0, h5.c23⟩
    case round =>
      clear h5 hw0
      obtain ⟨k, hk, hkN, rfl, want, G, hwo, h6⟩ := hrel
      by_cases hlt : k < l1.length ∧ k < 30
      · obtain ⟨hlt, hltN⟩ := hlt
        obtain ⟨b, o, rfl, cl0, cl1, cl2, cl3⟩ := (t1 _ h6.right.right.right.right).cells hlt
        have hop := hl1 k hlt
        generalize hc : l1.getD k default = op at cl0 cl1 cl2 cl3 hop
        obtain ⟨kd, at', on, ob⟩ := op
        have Hop := Lib.hid hop
        have Hc := Lib.hid hc
        clear hop hc
        unfold byteV at cl3
        simp only at cl0 cl1 cl2 cl3
        generalize hobn : (ob.toNat : Int) = obn at cl3
        have Hobn := Lib.hid hobn
        clear hobn
        obtain ⟨m, hm, hms⟩ := kind_lt at' 60 (by omega)
        rw [show ((60 : Nat) : Int) = 60 from rfl] at hms
        have Hms := Lib.hid hms
        have Hwo := Lib.hid hwo
        clear hms hwo
        go_wp2_with fail
        refine (kind_any at' 60 _ Hop.out.at' (by omega)).mono ?_
        rintro e w' ⟨rfl, rfl⟩
        rw [Hms.out]
        go_wp2_with fail
        refine (full_num h6 ob Hobn.out).mono ?_
        rintro e w7 ⟨g, rfl, h7⟩
        go_wp2_with fail
        refine (vwrite_any (i := 40 + (m : Int)) h7.push3 Hdl.out (BytesIn.tells (l := fullB ob) _ _ (fullB_length ob).symm) (fullB_length ob) (by omega) (by omega) (by omega)).mono ?_
        rintro e w8 ⟨rfl, h8⟩
        rw [show (40 + (m : Int)).toNat = 40 + m by omega] at h8
        have h9 := h8.pull3.right
        obtain ⟨b', o', he, _, _, _, cl3'⟩ := (t1 _ h9.right.right.right.right).cells hlt
        cases he
        rw [Hc.out] at cl3'
        unfold byteV at cl3'
        simp only at cl3'
        rw [Hobn.out] at cl3'
        have q0 := h9.pull3.byteCell (j := 40 + m) (by rw [Hwo.out.len]; omega)
        have f0 := frozen_of_obj h9.pull3.obj (40 + m)
        have h10 := h9.pull3.setByte (40 + m) ob
        generalize want.getD (40 + m) 0 = old at q0
        unfold byteV at q0 h10
        rw [Hobn.out] at h10
        clear h6 h7 h8 cl0 cl1 cl2 cl3
        go_wp2_with fail
        go_roundw
        case rel => exact ⟨k + 1, hlt, hltN, by go_num, want.set (40 + m) ob, _, Hwo.out.put ob (by omega), h10.push3⟩
        case measure => simp [intOf]; omega
      · go_wp2_with fail
        all_goals
          go_meet
          case rel => exact ⟨k, want, G, hkN, hwo, h6⟩
  case rest =>
    obtain ⟨k, want, G, hk30, hwo, h6⟩ := hcut
    have Hwo := Lib.hid hwo
    clear hwo
    go_wp2_with fail
    refine (vcommit_any (g := 0) h6.c34.c23 HL.out Hdl.out Hfu.out (by show k ≤ 37; omega) (by decide)).mono ?_
    rintro e w7 ⟨d2, rfl, L2, hfu2, hdl2, h7⟩
    have HL2 := Lib.hid L2
    have Hdl2 := Lib.hid hdl2
    clear L2 hfu2 hdl2 h6 h5 hw0
    go_wp2_with fail
    refine (vbegin_any h7).mono ?_
    rintro e w8 ⟨rfl, h8⟩
    clear h7
    go_upto_block 2 with (fail)
    go_cut [] (fun wr => ∃ k2 G2, Bears wr (cvA c p x 100 0 40 G G2 k2 true * (diskA p d2 * (walObj x p 0 40 ((0 + 1 : Nat) : Int) * (Assn.obj sb (.cells (cellsV want).toArray 60 (0, 0)) * R)))))
    case first =>
      go_wp2_with fail
      go_loopw [12] (fun i wr => ∃ k : Nat, k ≤ l2.length ∧ k ≤ 60 ∧ i = .int .i64 k ∧ ∃ k2 G2, Bears wr (cvA c p x 100 0 40 G G2 k2 true * (diskA p d2 * (walObj x p 0 40 ((0 + 1 : Nat) : Int) * (Assn.obj sb (.cells (cellsV want).toArray 60 (0, 0)) * R))))) (fun i _ => 60 - (intOf i).toNat)
      case atStart => exact ⟨0, by omega, by omega, rfl, 0, G, h8.c23⟩
      case round =>
        clear h8
        obtain ⟨k, hk, hkN, rfl, k2, G2, h6⟩ := hrel
        by_cases hlt : k < l2.length ∧ k < 60
        · obtain ⟨hlt, hltN⟩ := hlt
          obtain ⟨b, o, rfl, cl0, cl1, cl2, cl3⟩ := (t2 _ h6.right.right.right.right).cells hlt
          have hop := hl2 k hlt
          generalize hc : l2.getD k default = op at cl0 cl1 cl2 cl3 hop
          obtain ⟨kd, at', on, ob⟩ := op
          have Hop := Lib.hid hop
          have Hc := Lib.hid hc
          clear hop hc
          unfold byteV at cl3
          simp only at cl0 cl1 cl2 cl3
          generalize hobn : (ob.toNat : Int) = obn at cl3
          have Hobn := Lib.hid hobn
          clear hobn
          obtain ⟨m, hm, hms⟩ := kind_lt at' 60 (by omega)
          rw [show ((60 : Nat) : Int) = 60 from rfl] at hms
          have Hms := Lib.hid hms
          clear hms
          have cells' : ∀ w', Bears w' R → w'.cell? ⟨b, o + k * 4 + 1, none⟩ = some (.int .i64 at') ∧ w'.cell? ⟨b, o + k * 4 + 3, none⟩ = some (.int .u8 obn) := by
            intro w' hw'
            obtain ⟨b', o', he, _, q1, _, q3⟩ := (t2 _ hw').cells hlt
            cases he
            rw [Hc.out] at q1 q3
            unfold byteV at q3
            simp only at q1 q3
            rw [Hobn.out] at q3
            exact ⟨q1, q3⟩
          have Hcells := Lib.hid cells'
          clear cells'
          go_wp2_with fail
          refine wp_region_L (fun w' => w'.cell? ⟨b, o + k * 4 + 1, none⟩ = some (.int .i64 at') ∧ w'.cell? ⟨b, o + k * 4 + 3, none⟩ = some (.int .u8 obn)) 15
            [(true, 0), (true, 1), (true, 2), (true, 3), (true, 4), (true, 5), (true, 8), (true, 9), (true, 10), (true, 11), (true, 12), (false, 6), (true, 7), (false, 13), (false, 14)] [] (by kernel_rfl) (by kernel_rfl) ⟨cl1, cl3⟩ ?_
          simp only [pick, List.getElem?_cons_zero, List.getElem?_cons_succ]
          refine wpL_yield (v := ?_) rfl (fun w' hS => ?_) ?_
          rotate_left
          · (obtain ⟨cl1, cl3⟩ := hS; go_simp; try with_reducible rfl)
          simp only [Act.put, List.setIfInBounds_toArray, List.set_cons_zero, List.set_cons_succ]
          refine wpL_yield (v := ?_) rfl (fun w' hS => ?_) ?_
          rotate_left
          · (obtain ⟨cl1, cl3⟩ := hS; go_simp; try with_reducible rfl)
          simp only [Act.put, List.setIfInBounds_toArray, List.set_cons_zero, List.set_cons_succ]
          refine wpL_yield (v := ?_) rfl (fun w' hS => ?_) ?_
          rotate_left
          · (obtain ⟨cl1, cl3⟩ := hS; go_simp; try with_reducible rfl)
          simp only [Act.put, List.setIfInBounds_toArray, List.set_cons_zero, List.set_cons_succ]
          refine wpL_yield (v := ?_) rfl (fun w' hS => ?_) ?_
          rotate_left
          · (obtain ⟨cl1, cl3⟩ := hS; go_simp; try with_reducible rfl)
          simp only [Act.put, List.setIfInBounds_toArray, List.set_cons_zero, List.set_cons_succ]
          refine wpL_yield (v := ?_) rfl (fun w' hS => ?_) ?_
          rotate_left
          · (obtain ⟨cl1, cl3⟩ := hS; go_simp; try with_reducible rfl)
          simp only [Act.put, List.setIfInBounds_toArray, List.set_cons_zero, List.set_cons_succ]
          refine wpL_yield (v := ?_) rfl (fun w' hS => ?_) ?_
          rotate_left
          · (obtain ⟨cl1, cl3⟩ := hS; go_simp; try with_reducible rfl)
          simp only [Act.put, List.setIfInBounds_toArray, List.set_cons_zero, List.set_cons_succ]
          refine wpL_yield (v := ?_) rfl (fun w' hS => ?_) ?_
          rotate_left
          · (obtain ⟨cl1, cl3⟩ := hS; go_simp; try with_reducible rfl)
          simp only [Act.put, List.setIfInBounds_toArray, List.set_cons_zero, List.set_cons_succ]
          refine wpL_yield (v := ?_) rfl (fun w' hS => ?_) ?_
          rotate_left
          · (obtain ⟨cl1, cl3⟩ := hS; go_simp; try with_reducible rfl)
          simp only [Act.put, List.setIfInBounds_toArray, List.set_cons_zero, List.set_cons_succ]
          refine wpL_yield (v := ?_) rfl (fun w' hS => ?_) ?_
          rotate_left
          · (obtain ⟨cl1, cl3⟩ := hS; go_simp; try with_reducible rfl)
          simp only [Act.put, List.setIfInBounds_toArray, List.set_cons_zero, List.set_cons_succ]
          refine wpL_yield (v := ?_) rfl (fun w' hS => ?_) ?_
          rotate_left
          · (obtain ⟨cl1, cl3⟩ := hS; go_simp; try with_reducible rfl)
          simp only [Act.put, List.setIfInBounds_toArray, List.set_cons_zero, List.set_cons_succ]
          refine wpL_yield (v := ?_) rfl (fun w' hS => ?_) ?_
          rotate_left
          · (obtain ⟨cl1, cl3⟩ := hS; go_simp; try with_reducible rfl)
          simp only [Act.put, List.setIfInBounds_toArray, List.set_cons_zero, List.set_cons_succ]
          refine wpL_eff rfl ?_
          go_simp
          refine (kind_any at' 60 _ Hop.out.at' (by omega)).mono ?_
          rintro e w' ⟨rfl, rfl⟩
          rw [Hms.out]
          have r1 : IntKind.i64.wrap (40 + (m : Int)) = 40 + (m : Int) := IntWalk.i64_in _ (by omega)
          refine ⟨⟨cl1, cl3⟩, ?_⟩
          refine wpL_yield (v := ?_) rfl (fun w' hS => ?_) ?_
          rotate_left
          · (go_simp; try with_reducible rfl)
          simp only [Act.put, List.setIfInBounds_toArray, List.set_cons_zero, List.set_cons_succ]
          refine wpL_eff rfl ?_
          go_simp
          refine (full_num h6.drew ob Hobn.out).mono ?_
          rintro e w9 ⟨g, rfl, h9⟩
          refine ⟨Hcells.out _ h9.right.right.right.right.right, ?_⟩
          refine wpL_eff rfl ?_
          go_simp
          refine (vwrite_any (i := 40 + (m : Int)) h9.push3 Hdl2.out (BytesIn.tells (l := fullB ob) _ _ (fullB_length ob).symm) (fullB_length ob) (by omega) (by omega) (by omega)).mono ?_
          rintro e w10 ⟨rfl, h10⟩
          refine ⟨Hcells.out _ h10.right.right.right.right.right, ?_⟩
          refine wpL_nil ?_
          refine wpL_nil ?_
          go_wp2_with fail
          go_roundw
          case rel => exact ⟨k + 1, hlt, hltN, by go_num, k2 + 1, _, h10.pull3.right⟩
          case measure => simp [intOf]; omega
        · go_wp2_with fail
          all_goals
            go_meet
            case rel => exact ⟨k2, G2, h6⟩
    case rest =>
      obtain ⟨k2, G2, h9⟩ := hcut
      go_wp2_with fail
      refine (vabort_any h9).mono ?_
      rintro e w10 ⟨rfl, h10⟩
      go_wp2_with fail
      refine (vpinned_any h10).mono ?_
      rintro e w11 ⟨rfl, h11⟩
      clear h8 h9 h10
      go_wp2_with fail
      go_loopw [14] (fun i wr => ∃ j : Nat, 40 ≤ j ∧ j ≤ 100 ∧ i = .int .i64 j ∧ Bears wr (cvA c p x 100 0 40 G G 0 false * (diskA p d2 * (walObj x p 0 40 ((0 + 1 : Nat) : Int) * (Assn.obj sb (.cells (cellsV want).toArray 60 (0, 0)) * R))))) (fun i _ => 100 - (intOf i).toNat)
      case atStart => exact ⟨40, by omega, by omega, rfl, h11⟩
      case round =>
        clear h11
        obtain ⟨j, hj, hj2, rfl, h12⟩ := hrel
        by_cases hlt : j < 100
        · obtain ⟨cb, hcb⟩ : ∃ cb, want.getD j 0 = cb := ⟨_, rfl⟩
          have hg : G ((j : Int)).toNat = fullB cb := by rw [Int.toNat_natCast, Hwo.out.at' j hj hlt, hcb]
          have Hg := Lib.hid hg
          have Hcb := Lib.hid hcb
          clear hg hcb
          go_wp2_with fail
          refine (vread_any (i := (j : Int)) h12 HL2.out Hdl2.out (by omega) (by omega) (by omega) Hg.out).mono ?_
          rintro e w13 ⟨ad, cap, rfl, h13⟩
          have q0 : ∀ w' Q, Bears w' (rowA 5 1 (.slice ad 64 cap) 64 (cellsV (fullB cb)) * (Assn.obj sb (.cells (cellsV want).toArray 60 (0, 0)) * Q)) → w'.cell? ⟨sb, j, none⟩ = some (byteV cb) := by
            intro w' Q h
            have := h.pull2.byteCell (j := j) (by rw [Hwo.out.len]; exact hlt)
            rwa [Hcb.out] at this
          have h14 : Bears w13 (rowA 5 1 (.slice ad 64 cap) 64 (cellsV (fullB cb)) * (Assn.obj sb (.cells (cellsV want).toArray 60 (0, 0)) * (cvA c p x 100 0 40 G G 0 false * (diskA p d2 * (walObj x p 0 40 ((0 + 1 : Nat) : Int) * R))))) := h13.cast (by ac_rfl)
          obtain ⟨cn, hcn⟩ : ∃ cn : Int, (cb.toNat : Int) = cn := ⟨_, rfl⟩
          unfold byteV at q0
          rw [hcn] at q0
          have Hq := Lib.hid q0
          have Hcn := Lib.hid hcn
          clear q0 hcn h12 h13
          go_wp2_with fail
          refine wp_region_L (fun w' => ∃ Q, Bears w' (rowA 5 1 (.slice ad 64 cap) 64 (cellsV (fullB cb)) * (Assn.obj sb (.cells (cellsV want).toArray 60 (0, 0)) * Q))) 12
            [(true, 0), (true, 1), (true, 2), (true, 3), (true, 4), (true, 5), (true, 6), (true, 7), (false, 8), (false, 9), (true, 10), (true, 11)] [] (by kernel_rfl) (by kernel_rfl) ⟨_, h14.drew⟩ ?_
          simp only [pick, List.getElem?_cons_zero, List.getElem?_cons_succ]
          refine wpL_guarded (v := ?_) rfl (fun w' hS => ?_) ?_
          rotate_left
          · (go_simp; try with_reducible rfl)
          simp only [Act.put, List.setIfInBounds_toArray, List.set_cons_zero, List.set_cons_succ]
          refine wpL_guarded (v := ?_) rfl (fun w' hS => ?_) ?_
          rotate_left
          · (go_simp; try with_reducible rfl)
          simp only [Act.put, List.setIfInBounds_toArray, List.set_cons_zero, List.set_cons_succ]
          refine wpL_guarded (v := ?_) rfl (fun w' hS => ?_) ?_
          rotate_left
          · (go_simp; try with_reducible rfl)
          simp only [Act.put, List.setIfInBounds_toArray, List.set_cons_zero, List.set_cons_succ]
          refine wpL_guarded (v := ?_) rfl (fun w' hS => ?_) ?_
          rotate_left
          · (go_simp; try with_reducible rfl)
          simp only [Act.put, List.setIfInBounds_toArray, List.set_cons_zero, List.set_cons_succ]
          refine wpL_guarded rfl (fun w' hS => exec_convert rfl rfl (run_convert_in (by obtain ⟨_, hS⟩ := hS; exact rowA_bytes (fullB_length cb).symm _ hS))) ?_
          simp only [Act.put, List.setIfInBounds_toArray, List.set_cons_zero, List.set_cons_succ]
          refine wpL_guarded (v := ?_) rfl (fun w' hS => ?_) ?_
          rotate_left
          · (obtain ⟨_, hS⟩ := hS; have q0 := Hq.out _ _ hS; go_simp; try with_reducible rfl)
          simp only [Act.put, List.setIfInBounds_toArray, List.set_cons_zero, List.set_cons_succ]
          refine wpL_guarded (v := ?_) rfl (fun w' hS => ?_) ?_
          rotate_left
          · (obtain ⟨_, hS⟩ := hS; have q0 := Hq.out _ _ hS; go_simp; try with_reducible rfl)
          simp only [Act.put, List.setIfInBounds_toArray, List.set_cons_zero, List.set_cons_succ]
          refine wpL_guarded (v := ?_) rfl (fun w' hS => ?_) ?_
          rotate_left
          · (obtain ⟨_, hS⟩ := hS; have q0 := Hq.out _ _ hS; go_simp; try with_reducible rfl)
          simp only [Act.put, List.setIfInBounds_toArray, List.set_cons_zero, List.set_cons_succ]
          refine wpL_effG rfl ?_
          go_simp
          refine (full_num h14.drew cb Hcn.out).mono ?_
          rintro e w15 ⟨g2, rfl, h15⟩
          refine ⟨⟨_, h15.right⟩, ?_⟩
          refine wpL_effG rfl (wp_of_run (exec_convert rfl rfl (run_convert_in (BytesIn.tells _ _ (fullB_length cb).symm _ h15))) ⟨⟨_, h15.right⟩, ?_⟩)
          simp only [Act.put, List.setIfInBounds_toArray, List.set_cons_zero, List.set_cons_succ]
          refine wpL_guarded (v := ?_) rfl (fun w' hS => ?_) ?_
          rotate_left
          · (go_simp; try with_reducible rfl)
          simp only [Act.put, List.setIfInBounds_toArray, List.set_cons_zero, List.set_cons_succ]
          refine wpL_guarded (v := ?_) rfl (fun w' hS => ?_) ?_
          rotate_left
          · (go_simp; try with_reducible rfl)
          simp only [Act.put, List.setIfInBounds_toArray, List.set_cons_zero, List.set_cons_succ]
          refine wpL_nil ?_
          refine wpL_nil ?_
          go_wp2_with fail
          go_roundw
          case rel => exact ⟨j + 1, by omega, hlt, by go_num, h15.right.right.cast (by ac_rfl)⟩
          case measure => simp [intOf]; omega
        · go_wp2_with fail
          go_ret
          exact ⟨rfl, h12.right.right.right.right⟩

end Go.Proofs.Ytaiobekochhemaa

/- A log whose disk has a fuse, or is booted; plain; no condition. -/
namespace Go.Proofs.Ytaiobekochhemaa
open Go.RowKit Go.MapKept

theorem LogOn.boot {d d' : DiskM} {a s g : Nat} {F : Nat → Sec} (h : LogOn d a s g F) (h1 : d'.sure = d.sure) (h2 : d'.waits = []) (h3 : d'.len = d.len) (ks : List Int) : LogOn (d'.boot ks) a s g F := by
  have e : (d'.boot ks).sure = d.sure := by
    unfold DiskM.boot
    rw [h2, h1]
    rfl
  exact ⟨rfl, rfl, h.three, by show a + s ≤ d'.len; rw [h3]; exact h.place, by show d'.len ≤ 8192; rw [h3]; exact h.len, by rw [e]; exact h.rest⟩
theorem LogOn.fused {d : DiskM} {a s g : Nat} {F : Nat → Sec} (h : LogOn d a s g F) (n : Int) : LogOn (d.setFuse n) a s g F := by
  unfold DiskM.setFuse
  rw [h.off, if_neg (by simp)]
  exact ⟨rfl, h.quiet, h.three, h.place, h.len, h.rest⟩
theorem setFuse_len (d : DiskM) (n : Int) : (d.setFuse n).len = d.len := by unfold DiskM.setFuse; split <;> rfl

end Go.Proofs.Ytaiobekochhemaa

/- CacheCrashes: what is there behind a boot; plain; no condition. -/
namespace Go.Proofs.Ytaiobekochhemaa
open Go.RowKit Go.MapKept

/-- Do the first k sectors behind the log have the bytes that are wanted? -/
def okAll (V : Nat → Sec) (want : List UInt8) : Nat → Bool
  | 0 => true
  | k + 1 => okAll V want k && (V (40 + k) == fullB (want.getD (40 + k) 0))
theorem okAll_true {V : Nat → Sec} {want : List UInt8} (h : WantOk V want) : ∀ k, k ≤ 60 → okAll V want k = true
  | 0, _ => rfl
  | k + 1, hk => by
    simp only [okAll]
    rw [okAll_true h k (by omega), h.at' (40 + k) (by omega) (by omega)]
    simp

theorem crash_end {d3 d4 : DiskM} {r : Int} {g : Nat} {G G2 : Nat → Sec} (hL : LogOn d3 0 40 g G) (hl : d3.len = 100) (hg : Goes d3 r d4) (h0 : r = 0 → LogOn d4 0 40 (g + 1) G2)
    (hB : Boots d4 (fun f => At 100 0 40 f g G ∨ At 100 0 40 f (g + 1) G2)) (hg2 : g < 1000000) (ks : List Int) :
    ∃ d6 V g', wOpen (d4.boot ks) 0 40 = (0, d6) ∧ groupsIn ((d4.boot ks).now 0) = ((g' : Nat) : Int) ∧ LogOn d6 0 40 g' V ∧ d6.len = 100 ∧ ((V = G ∧ r ≠ 0) ∨ V = G2) := by
  have hlen : d4.len = 100 := by rw [hg.len, hl]
  have key : ∀ g' V, g' < 9223372036854775808 → At 100 0 40 (d4.boot ks).sure g' V → ∃ d6, wOpen (d4.boot ks) 0 40 = (0, d6) ∧ groupsIn ((d4.boot ks).now 0) = ((g' : Nat) : Int) ∧ LogOn d6 0 40 g' V ∧ d6.len = 100 := by
    intro g' V hgb hA
    have hlen5 : (d4.boot ks).len = 100 := hlen
    obtain ⟨e1, r2, d6, h1, h2, h3, _⟩ := wOpen_goes (d := d4.boot ks) (a := 0) (s := 40) (g := g') (F := V) rfl (by decide) (by rw [hlen5]; decide) (by rw [hlen5]; decide) hgb rfl (by rw [hlen5]; exact hA)
    have hr : r2 = 0 := h2.yes rfl
    subst hr
    obtain ⟨h4, h5⟩ := h3 rfl
    exact ⟨d6, h1, e1, ⟨h2.on, h4, by decide, by rw [h2.len, hlen5]; decide, by rw [h2.len, hlen5]; decide, h5⟩, by rw [h2.len, hlen5]⟩
  by_cases hr : r = 0
  · have hL4 := h0 hr
    have hs : (d4.boot ks).sure = d4.sure := by
      show settle d4.sure (kept ks 0 d4.waits) = d4.sure
      rw [hL4.quiet]
      rfl
    obtain ⟨d6, h1, h2, h3, h4⟩ := key (g + 1) G2 (by omega) (by rw [hs]; exact .inl hL4.rest)
    exact ⟨d6, G2, g + 1, h1, h2, h3, h4, .inr rfl⟩
  · rcases hB.boot ks with hA | hA
    · obtain ⟨d6, h1, h2, h3, h4⟩ := key g G (by omega) hA
      exact ⟨d6, G, g, h1, h2, h3, h4, .inl ⟨rfl, hr⟩⟩
    · obtain ⟨d6, h1, h2, h3, h4⟩ := key (g + 1) G2 (by omega) hA
      exact ⟨d6, G2, g + 1, h1, h2, h3, h4, .inr rfl⟩

end Go.Proofs.Ytaiobekochhemaa

/- Parts of a function's code, taken out of the translation; no condition. -/
namespace Go.Proofs.Ytaiobekochhemaa

/-- Does this code begin with region n? -/
def headIs (n : Nat) : Code → Bool
  | .region id _ _ => id == n
  | .seq a _ => headIs n a
  | _ => false
/-- The rest of a sequence from region n on. -/
def tailAt (n : Nat) : Code → Option Code
  | .seq a b => if headIs n a then some (.seq a b) else match tailAt n b with
    | some c => some c
    | none => tailAt n a
  | .region id o d => if id == n then some (.region id o d) else none
  | .block _ c => tailAt n c
  | .loop c => tailAt n c
  | .scope c => tailAt n c
  | .cond _ a b => match tailAt n a with
    | some c => some c
    | none => tailAt n b
  | _ => none

/-- Block n. -/
def blockAt (n : Nat) : Code → Option Code
  | .block id c => if id == n then some (.block id c) else blockAt n c
  | .seq a b => match blockAt n a with
    | some c => some c
    | none => blockAt n b
  | .loop c => blockAt n c
  | .scope c => blockAt n c
  | .cond _ a b => match blockAt n a with
    | some c => some c
    | none => blockAt n b
  | _ => none

end Go.Proofs.Ytaiobekochhemaa

/- The walk of CacheCrashes: what is there is compared; no condition. -/
namespace Go.Proofs.Ytaiobekochhemaa
open Go.RowKit Go.MapKept

noncomputable def cmpTail : Code := ((Try.f8.body.bind (tailAt 43)).getD .skip)

set_option maxRecDepth 1000000 in
set_option maxHeartbeats 8000000 in
theorem cmp_any {R : Assn} {w : World} {K : Act → World → Prop} {Q : Exit → Act → World → Prop} {u0 u1 u2 u3 u4 u5 u6 u7 u8 u9 u11 u12 u13 u14 u16 u17 u18 u19 u21 u22 u26 u27 u28 u29 u30 u31 u32 u33 u34 u35 u36 u37 u38 u39 u40 u41 u42 u43 u44 u45 u46 u47 u48 u49 u50 u51 u52 u53 u54 u55 u56 u57 u58 u59 u60 u61 u62 u63 u64 u65 u66 u67 u68 u69 u70 u71 u72 u73 u74 u75 u76 u77 u78 u79 u80 u81 u82 u83 u84 u85 u86 u87 u88 u89 u90 u91 u92 u93 u94 u95 u96 u97 u98 u99 u100 u101 u102 u103 u104 u105 u106 u107 u108 u109 u110 u111 u112 u113 u114 u115 u116 u117 u118 u119 u120 u121 u122 u123 u124 u125 u126 u127 u128 u129 u130 u131 u132 u133 u134 u135 u136 u137 u138 u139 u140 u141 u142 u143 u144 u145 u146 u147 u148 u149 u150 u151 u152 u153 u154 u155 u156 u157 u158 u159 u160 u161 u162 u163 u164 u165 u166 u167 u168 u169 u170 u171 u172 u173 u174 u175 u176 u177 u178 u179 u180 u181 u182 u183 u184 u185 u186 u187 u188 u189 u190 u191 u192 u193 u194 u195 u196 u197 u198 u199 u200 u201 u202 u203 u204 u205 u206 u207 u208 u209 u210 u211 u212 u213 u214 u215 u216 u217 u218 u219 : Value} {q ob nb g0 : Nat} {d : DiskM} {V : Nat → Sec} {old next : List UInt8} {r : Int}
    (hL : LogOn d 0 40 g0 V) (hlen : d.len = 100) (wo : old.length = 100) (wn : next.length = 100) (hV : ∀ i, 40 ≤ i → (V i).length = 64) (hgood : (okAll V old 60 = true ∧ r ≠ 0) ∨ okAll V next 60 = true)
    (h : Bears w (diskA q d * (Assn.obj ob (.cells (cellsV old).toArray 60 (0, 0)) * (Assn.obj nb (.cells (cellsV next).toArray 60 (0, 0)) * R))))
    (hEnd : ∀ {y24 y25 y26 y27 y28 y166 y167 y168 y169 y170 y171 y172 y173 y174 y175 y176 y177 y178 y179 y180 y181 y182 y183 y184 y185 y186 y187 y188 y189 y190 y191 y192 y193 y194 y195 y196 y197 y198 y199 y200 y201 y202 y203 y204 y205 y206 y207 y208 y209 y210 y211 y212 y213 y214 y215 y216 y217 y218 y219 : Value} (w' : World), Bears w' (diskA q d * (Assn.obj ob (.cells (cellsV old).toArray 60 (0, 0)) * (Assn.obj nb (.cells (cellsV next).toArray 60 (0, 0)) * R))) → K ⟨#[u0, u1, u2, u3, u4, u5, u6, u7, u8, u9, .pointer (some ⟨ob, 0, none⟩), u11, u12, u13, u14, .pointer (some ⟨q, 0, none⟩), u16, u17, u18, u19, .pointer (some ⟨nb, 0, none⟩), u21, u22, .int .i64 r, y24, y25, y26, y27, y28, u29, u30, u31, u32, u33, u34, u35, u36, u37, u38, u39, u40, u41, u42, u43, u44, u45, u46, u47, u48, u49, u50, u51, u52, u53, u54, u55, u56, u57, u58, u59, u60, u61, u62, u63, u64, u65, u66, u67, u68, u69, u70, u71, u72, u73, u74, u75, u76, u77, u78, u79, u80, u81, u82, u83, u84, u85, u86, u87, u88, u89, u90, u91, u92, u93, u94, u95, u96, u97, u98, u99, u100, u101, u102, u103, u104, u105, u106, u107, u108, u109, u110, u111, u112, u113, u114, u115, u116, u117, u118, u119, u120, u121, u122, u123, u124, u125, u126, u127, u128, u129, u130, u131, u132, u133, u134, u135, u136, u137, u138, u139, u140, u141, u142, u143, u144, u145, u146, u147, u148, u149, u150, u151, u152, u153, u154, u155, u156, u157, u158, u159, u160, u161, u162, u163, u164, u165, y166, y167, y168, y169, y170, y171, y172, y173, y174, y175, y176, y177, y178, y179, y180, y181, y182, y183, y184, y185, y186, y187, y188, y189, y190, y191, y192, y193, y194, y195, y196, y197, y198, y199, y200, y201, y202, y203, y204, y205, y206, y207, y208, y209, y210, y211, y212, y213, y214, y215, y216, y217, y218, y219], []⟩ w') :
    Code.wp Try.prog cmpTail (Exit.inBlock 3 (Exit.then K Q)) ⟨#[u0, u1, u2, u3, u4, u5, u6, u7, u8, u9, .pointer (some ⟨ob, 0, none⟩), u11, u12, u13, u14, .pointer (some ⟨q, 0, none⟩), u16, u17, u18, u19, .pointer (some ⟨nb, 0, none⟩), u21, u22, .int .i64 r, .bool true, .bool true, u26, u27, u28, u29, u30, u31, u32, u33, u34, u35, u36, u37, u38, u39, u40, u41, u42, u43, u44, u45, u46, u47, u48, u49, u50, u51, u52, u53, u54, u55, u56, u57, u58, u59, u60, u61, u62, u63, u64, u65, u66, u67, u68, u69, u70, u71, u72, u73, u74, u75, u76, u77, u78, u79, u80, u81, u82, u83, u84, u85, u86, u87, u88, u89, u90, u91, u92, u93, u94, u95, u96, u97, u98, u99, u100, u101, u102, u103, u104, u105, u106, u107, u108, u109, u110, u111, u112, u113, u114, u115, u116, u117, u118, u119, u120, u121, u122, u123, u124, u125, u126, u127, u128, u129, u130, u131, u132, u133, u134, u135, u136, u137, u138, u139, u140, u141, u142, u143, u144, u145, u146, u147, u148, u149, u150, u151, u152, u153, u154, u155, u156, u157, u158, u159, u160, u161, u162, u163, u164, u165, u166, u167, u168, u169, u170, u171, u172, u173, u174, u175, u176, u177, u178, u179, u180, u181, u182, u183, u184, u185, u186, u187, u188, u189, u190, u191, u192, u193, u194, u195, u196, u197, u198, u199, u200, u201, u202, u203, u204, u205, u206, u207, u208, u209, u210, u211, u212, u213, u214, u215, u216, u217, u218, u219], []⟩ w := by
  conv => arg 2; whnf
  try dsimp only
  have HL := Lib.hid hL
  have Hlen := Lib.hid hlen
  have HV := Lib.hid hV
  have Hgood := Lib.hid hgood
  clear hL hlen hV hgood
  go_wp2_with fail
  go_loopw [24, 25, 26] (fun v24 v25 i wr => ∃ j : Nat, 40 ≤ j ∧ j ≤ 100 ∧ i = .int .i64 j ∧ v24 = .bool (okAll V old (j - 40)) ∧ v25 = .bool (okAll V next (j - 40)) ∧
    Bears wr (diskA q d * (Assn.obj ob (.cells (cellsV old).toArray 60 (0, 0)) * (Assn.obj nb (.cells (cellsV next).toArray 60 (0, 0)) * R)))) (fun _ _ i _ => 100 - (intOf i).toNat)
  case atStart => exact ⟨40, by omega, by omega, rfl, rfl, rfl, h⟩
  case round =>
    clear h
    obtain ⟨j, hj1, hj2, rfl, rfl, rfl, h1⟩ := hrel
    by_cases hlt : j < 100
    · have hck : d.check (j : Int) = 0 := DiskM.on_check (i := j) HL.out.off (by rw [Hlen.out]; exact hlt)
      have hn : d.now j = V j := HL.out.now (by omega)
      have hs64 := HV.out j hj1
      have e24 : okAll V old (j + 1 - 40) = (okAll V old (j - 40) && (V j == fullB (old.getD j 0))) := by
        rw [show j + 1 - 40 = (j - 40) + 1 by omega]; simp only [okAll]; rw [show 40 + (j - 40) = j by omega]
      have e25 : okAll V next (j + 1 - 40) = (okAll V next (j - 40) && (V j == fullB (next.getD j 0))) := by
        rw [show j + 1 - 40 = (j - 40) + 1 by omega]; simp only [okAll]; rw [show 40 + (j - 40) = j by omega]
      obtain ⟨co, hco⟩ : ∃ co, old.getD j 0 = co := ⟨_, rfl⟩
      obtain ⟨cx, hcx⟩ : ∃ cx, next.getD j 0 = cx := ⟨_, rfl⟩
      rw [hco] at e24
      rw [hcx] at e25
      have Hco := Lib.hid hco
      have Hcx := Lib.hid hcx
      clear hco hcx
      generalize okAll V old (j - 40) = b24 at e24
      generalize okAll V next (j - 40) = b25 at e25
      generalize hsv : V j = s at hn hs64 e24 e25
      have Hck := Lib.hid hck
      have Hn := Lib.hid hn
      have E24 := Lib.hid e24
      have E25 := Lib.hid e25
      clear hck hn e24 e25 hsv
      go_wp2_with fail
      refine (read_to (s := s) (j : Int) h1 Hck.out Hn.out).mono ?_
      rintro e w2 ⟨g, rfl, h2⟩
      have h3 : Bears w2 (Assn.obj ob (.cells (cellsV old).toArray 60 (0, 0)) * (Assn.obj nb (.cells (cellsV next).toArray 60 (0, 0)) * (Assn.obj g (.cells (cellsV s).toArray 125 (0, 0)) * (diskA q d * R)))) := h2.cast (by ac_rfl)
      clear h1 h2
      go_upto_region 47 with (fail)
      go_cut [24] from 166 to 205 (fun v wr => v = .bool (b24 && (s == fullB co)) ∧ Bears wr (Assn.obj ob (.cells (cellsV old).toArray 60 (0, 0)) * (Assn.obj nb (.cells (cellsV next).toArray 60 (0, 0)) * (Assn.obj g (.cells (cellsV s).toArray 125 (0, 0)) * (diskA q d * R)))))
      case first =>
        cases b24 with
        | false =>
          go_wp2_with fail
          refine wp_region_L (fun _ => True) 15 [(true, 0), (true, 1), (true, 2), (true, 3), (true, 4), (true, 5), (true, 6), (true, 7), (true, 8), (true, 9), (true, 10), (true, 11), (true, 12), (true, 13), (true, 14)] [(true, 15)] (by kernel_rfl) (by kernel_rfl) trivial ?_
          simp only [pick, List.getElem?_cons_zero, List.getElem?_cons_succ]
          refine wpL_yield (v := ?_) rfl (fun w' hS => ?_) ?_
          rotate_left
          · (go_simp; try with_reducible rfl)
          simp only [Act.put, List.setIfInBounds_toArray, List.set_cons_zero, List.set_cons_succ]
          refine wpL_yield (v := ?_) rfl (fun w' hS => ?_) ?_
          rotate_left
          · (go_simp; try with_reducible rfl)
          simp only [Act.put, List.setIfInBounds_toArray, List.set_cons_zero, List.set_cons_succ]
          refine wpL_skip rfl ?_
          simp only [Act.put, List.setIfInBounds_toArray, List.set_cons_zero, List.set_cons_succ]
          refine wpL_skip rfl ?_
          simp only [Act.put, List.setIfInBounds_toArray, List.set_cons_zero, List.set_cons_succ]
          refine wpL_yield (v := ?_) rfl (fun w' hS => ?_) ?_
          rotate_left
          · (go_simp; try with_reducible rfl)
          simp only [Act.put, List.setIfInBounds_toArray, List.set_cons_zero, List.set_cons_succ]
          refine wpL_yield (v := ?_) rfl (fun w' hS => ?_) ?_
          rotate_left
          · (go_simp; try with_reducible rfl)
          simp only [Act.put, List.setIfInBounds_toArray, List.set_cons_zero, List.set_cons_succ]
          refine wpL_skip rfl ?_
          simp only [Act.put, List.setIfInBounds_toArray, List.set_cons_zero, List.set_cons_succ]
          refine wpL_skip rfl ?_
          simp only [Act.put, List.setIfInBounds_toArray, List.set_cons_zero, List.set_cons_succ]
          refine wpL_skip rfl ?_
          simp only [Act.put, List.setIfInBounds_toArray, List.set_cons_zero, List.set_cons_succ]
          refine wpL_skip rfl ?_
          simp only [Act.put, List.setIfInBounds_toArray, List.set_cons_zero, List.set_cons_succ]
          refine wpL_skip rfl ?_
          simp only [Act.put, List.setIfInBounds_toArray, List.set_cons_zero, List.set_cons_succ]
          refine wpL_skip rfl ?_
          simp only [Act.put, List.setIfInBounds_toArray, List.set_cons_zero, List.set_cons_succ]
          refine wpL_skip rfl ?_
          simp only [Act.put, List.setIfInBounds_toArray, List.set_cons_zero, List.set_cons_succ]
          refine wpL_skip rfl ?_
          simp only [Act.put, List.setIfInBounds_toArray, List.set_cons_zero, List.set_cons_succ]
          refine wpL_yield (v := ?_) rfl (fun w' hS => ?_) ?_
          rotate_left
          · (go_simp; try with_reducible rfl)
          simp only [Act.put, List.setIfInBounds_toArray, List.set_cons_zero, List.set_cons_succ]
          refine wpL_nil ?_
          refine wpL_yield (v := ?_) rfl (fun w' hS => ?_) ?_
          rotate_left
          · (go_simp; try with_reducible rfl)
          simp only [Act.put, List.setIfInBounds_toArray, List.set_cons_zero, List.set_cons_succ]
          refine wpL_nil ?_
          go_wp2_with fail
          go_meet
          case rel => exact ⟨rfl, h3.drew⟩
        | true =>
          have hcb := Hco.out
          have h5 : Bears _ (Assn.obj g (.cells (cellsV s).toArray 125 (0, 0)) * (Assn.obj ob (.cells (cellsV old).toArray 60 (0, 0)) * _)) := (h3.pull3 : Bears _ (Assn.obj g _ * (Assn.obj ob _ * _)))
          obtain ⟨cn, hcn⟩ : ∃ cn : Int, (co.toNat : Int) = cn := ⟨_, rfl⟩
          have q0 : ∀ w' Q, Bears w' (Assn.obj g (.cells (cellsV s).toArray 125 (0, 0)) * (Assn.obj ob (.cells (cellsV old).toArray 60 (0, 0)) * Q)) → w'.cell? ⟨ob, j, none⟩ = some (.int .u8 cn) := by
            intro w' Q h
            have := h.pull2.byteCell (j := j) (by omega)
            rw [hcb] at this
            unfold byteV at this
            rwa [hcn] at this
          have Hq := Lib.hid q0
          have Hcn := Lib.hid hcn
          have H64 := Lib.hid hs64
          clear q0 hcn hcb hs64
          go_wp2_with fail
          refine wp_region_L (fun w' => ∃ Q, Bears w' (Assn.obj g (.cells (cellsV s).toArray 125 (0, 0)) * (Assn.obj ob (.cells (cellsV old).toArray 60 (0, 0)) * Q))) 15
            [(true, 0), (true, 1), (true, 2), (true, 3), (true, 4), (true, 5), (true, 6), (true, 7), (true, 8), (true, 9), (true, 10), (false, 11), (false, 12), (true, 13), (true, 14)] [(true, 15)] (by kernel_rfl) (by kernel_rfl) ⟨_, h5.drew⟩ ?_
          simp only [pick, List.getElem?_cons_zero, List.getElem?_cons_succ]
          refine wpL_guarded (v := ?_) rfl (fun w' hS => ?_) ?_
          rotate_left
          · (go_simp; try with_reducible rfl)
          simp only [Act.put, List.setIfInBounds_toArray, List.set_cons_zero, List.set_cons_succ]
          refine wpL_guarded (v := ?_) rfl (fun w' hS => ?_) ?_
          rotate_left
          · (go_simp; try with_reducible rfl)
          simp only [Act.put, List.setIfInBounds_toArray, List.set_cons_zero, List.set_cons_succ]
          refine wpL_guarded (v := ?_) rfl (fun w' hS => ?_) ?_
          rotate_left
          · (go_simp; try with_reducible rfl)
          simp only [Act.put, List.setIfInBounds_toArray, List.set_cons_zero, List.set_cons_succ]
          refine wpL_guarded (v := ?_) rfl (fun w' hS => ?_) ?_
          rotate_left
          · (go_simp; try with_reducible rfl)
          simp only [Act.put, List.setIfInBounds_toArray, List.set_cons_zero, List.set_cons_succ]
          refine wpL_guarded (v := ?_) rfl (fun w' hS => ?_) ?_
          rotate_left
          · (go_simp; try with_reducible rfl)
          simp only [Act.put, List.setIfInBounds_toArray, List.set_cons_zero, List.set_cons_succ]
          refine wpL_guarded (v := ?_) rfl (fun w' hS => ?_) ?_
          rotate_left
          · (go_simp; try with_reducible rfl)
          simp only [Act.put, List.setIfInBounds_toArray, List.set_cons_zero, List.set_cons_succ]
          refine wpL_guarded (v := ?_) rfl (fun w' hS => ?_) ?_
          rotate_left
          · (go_simp; try with_reducible rfl)
          simp only [Act.put, List.setIfInBounds_toArray, List.set_cons_zero, List.set_cons_succ]
          refine wpL_guarded rfl (fun w' hS => exec_convert rfl rfl (run_convert_in (by obtain ⟨_, hS⟩ := hS; exact BytesIn.tells _ _ H64.out.symm _ hS))) ?_
          simp only [Act.put, List.setIfInBounds_toArray, List.set_cons_zero, List.set_cons_succ]
          refine wpL_guarded (v := ?_) rfl (fun w' hS => ?_) ?_
          rotate_left
          · (obtain ⟨_, hS⟩ := hS; have q0 := Hq.out _ _ hS; go_simp; try with_reducible rfl)
          simp only [Act.put, List.setIfInBounds_toArray, List.set_cons_zero, List.set_cons_succ]
          refine wpL_guarded (v := ?_) rfl (fun w' hS => ?_) ?_
          rotate_left
          · (obtain ⟨_, hS⟩ := hS; have q0 := Hq.out _ _ hS; go_simp; try with_reducible rfl)
          simp only [Act.put, List.setIfInBounds_toArray, List.set_cons_zero, List.set_cons_succ]
          refine wpL_guarded (v := ?_) rfl (fun w' hS => ?_) ?_
          rotate_left
          · (obtain ⟨_, hS⟩ := hS; have q0 := Hq.out _ _ hS; go_simp; try with_reducible rfl)
          simp only [Act.put, List.setIfInBounds_toArray, List.set_cons_zero, List.set_cons_succ]
          refine wpL_effG rfl ?_
          go_simp
          refine (full_num h5.drew co Hcn.out).mono ?_
          rintro e w15 ⟨g2, rfl, h15⟩
          refine ⟨⟨_, h15.right⟩, ?_⟩
          refine wpL_effG rfl (wp_of_run (exec_convert rfl rfl (run_convert_in (BytesIn.tells _ _ (fullB_length co).symm _ h15))) ⟨⟨_, h15.right⟩, ?_⟩)
          simp only [Act.put, List.setIfInBounds_toArray, List.set_cons_zero, List.set_cons_succ]
          refine wpL_guarded (v := ?_) rfl (fun w' hS => ?_) ?_
          rotate_left
          · (go_simp; try with_reducible rfl)
          simp only [Act.put, List.setIfInBounds_toArray, List.set_cons_zero, List.set_cons_succ]
          refine wpL_guarded (v := ?_) rfl (fun w' hS => ?_) ?_
          rotate_left
          · (go_simp; try with_reducible rfl)
          simp only [Act.put, List.setIfInBounds_toArray, List.set_cons_zero, List.set_cons_succ]
          refine wpL_nil ?_
          refine wpL_yield (v := ?_) rfl (fun w' hS => ?_) ?_
          rotate_left
          · (go_simp; try with_reducible rfl)
          simp only [Act.put, List.setIfInBounds_toArray, List.set_cons_zero, List.set_cons_succ]
          refine wpL_nil ?_
          go_wp2_with fail
          go_meet
          case rel => exact ⟨by simp, h15.right.cast (by ac_rfl)⟩
      case rest =>
        obtain ⟨rfl, h4⟩ := hcut
        go_upto_region 48 with (fail)
        cases b25 with
        | false =>
          go_wp2_with fail
          refine wp_region_L (fun _ => True) 15 [(true, 0), (true, 1), (true, 2), (true, 3), (true, 4), (true, 5), (true, 6), (true, 7), (true, 8), (true, 9), (true, 10), (true, 11), (true, 12), (true, 13), (true, 14)] [(true, 15)] (by kernel_rfl) (by kernel_rfl) trivial ?_
          simp only [pick, List.getElem?_cons_zero, List.getElem?_cons_succ]
          refine wpL_yield (v := ?_) rfl (fun w' hS => ?_) ?_
          rotate_left
          · (go_simp; try with_reducible rfl)
          simp only [Act.put, List.setIfInBounds_toArray, List.set_cons_zero, List.set_cons_succ]
          refine wpL_yield (v := ?_) rfl (fun w' hS => ?_) ?_
          rotate_left
          · (go_simp; try with_reducible rfl)
          simp only [Act.put, List.setIfInBounds_toArray, List.set_cons_zero, List.set_cons_succ]
          refine wpL_skip rfl ?_
          simp only [Act.put, List.setIfInBounds_toArray, List.set_cons_zero, List.set_cons_succ]
          refine wpL_skip rfl ?_
          simp only [Act.put, List.setIfInBounds_toArray, List.set_cons_zero, List.set_cons_succ]
          refine wpL_yield (v := ?_) rfl (fun w' hS => ?_) ?_
          rotate_left
          · (go_simp; try with_reducible rfl)
          simp only [Act.put, List.setIfInBounds_toArray, List.set_cons_zero, List.set_cons_succ]
          refine wpL_yield (v := ?_) rfl (fun w' hS => ?_) ?_
          rotate_left
          · (go_simp; try with_reducible rfl)
          simp only [Act.put, List.setIfInBounds_toArray, List.set_cons_zero, List.set_cons_succ]
          refine wpL_skip rfl ?_
          simp only [Act.put, List.setIfInBounds_toArray, List.set_cons_zero, List.set_cons_succ]
          refine wpL_skip rfl ?_
          simp only [Act.put, List.setIfInBounds_toArray, List.set_cons_zero, List.set_cons_succ]
          refine wpL_skip rfl ?_
          simp only [Act.put, List.setIfInBounds_toArray, List.set_cons_zero, List.set_cons_succ]
          refine wpL_skip rfl ?_
          simp only [Act.put, List.setIfInBounds_toArray, List.set_cons_zero, List.set_cons_succ]
          refine wpL_skip rfl ?_
          simp only [Act.put, List.setIfInBounds_toArray, List.set_cons_zero, List.set_cons_succ]
          refine wpL_skip rfl ?_
          simp only [Act.put, List.setIfInBounds_toArray, List.set_cons_zero, List.set_cons_succ]
          refine wpL_skip rfl ?_
          simp only [Act.put, List.setIfInBounds_toArray, List.set_cons_zero, List.set_cons_succ]
          refine wpL_skip rfl ?_
          simp only [Act.put, List.setIfInBounds_toArray, List.set_cons_zero, List.set_cons_succ]
          refine wpL_yield (v := ?_) rfl (fun w' hS => ?_) ?_
          rotate_left
          · (go_simp; try with_reducible rfl)
          simp only [Act.put, List.setIfInBounds_toArray, List.set_cons_zero, List.set_cons_succ]
          refine wpL_nil ?_
          refine wpL_yield (v := ?_) rfl (fun w' hS => ?_) ?_
          rotate_left
          · (go_simp; try with_reducible rfl)
          simp only [Act.put, List.setIfInBounds_toArray, List.set_cons_zero, List.set_cons_succ]
          refine wpL_nil ?_
          go_wp2_with fail
          go_roundw
          case rel => exact ⟨j + 1, by omega, hlt, by go_num, by rw [E24.out], by rw [E25.out]; rfl, (h4.drew).pull3.right.cast (by ac_rfl)⟩
          case measure => simp [intOf]; omega
        | true =>
          have hcb := Hcx.out
          have h5 : Bears _ (Assn.obj g (.cells (cellsV s).toArray 125 (0, 0)) * (Assn.obj nb (.cells (cellsV next).toArray 60 (0, 0)) * _)) := h4.pull3.c23
          obtain ⟨cn, hcn⟩ : ∃ cn : Int, (cx.toNat : Int) = cn := ⟨_, rfl⟩
          have q0 : ∀ w' Q, Bears w' (Assn.obj g (.cells (cellsV s).toArray 125 (0, 0)) * (Assn.obj nb (.cells (cellsV next).toArray 60 (0, 0)) * Q)) → w'.cell? ⟨nb, j, none⟩ = some (.int .u8 cn) := by
            intro w' Q h
            have := h.pull2.byteCell (j := j) (by omega)
            rw [hcb] at this
            unfold byteV at this
            rwa [hcn] at this
          have Hq := Lib.hid q0
          have Hcn := Lib.hid hcn
          have H64 := Lib.hid hs64
          clear q0 hcn hcb hs64
          go_wp2_with fail
          refine wp_region_L (fun w' => ∃ Q, Bears w' (Assn.obj g (.cells (cellsV s).toArray 125 (0, 0)) * (Assn.obj nb (.cells (cellsV next).toArray 60 (0, 0)) * Q))) 15
            [(true, 0), (true, 1), (true, 2), (true, 3), (true, 4), (true, 5), (true, 6), (true, 7), (true, 8), (true, 9), (true, 10), (false, 11), (false, 12), (true, 13), (true, 14)] [(true, 15)] (by kernel_rfl) (by kernel_rfl) ⟨_, h5.drew⟩ ?_
          simp only [pick, List.getElem?_cons_zero, List.getElem?_cons_succ]
          refine wpL_guarded (v := ?_) rfl (fun w' hS => ?_) ?_
          rotate_left
          · (go_simp; try with_reducible rfl)
          simp only [Act.put, List.setIfInBounds_toArray, List.set_cons_zero, List.set_cons_succ]
          refine wpL_guarded (v := ?_) rfl (fun w' hS => ?_) ?_
          rotate_left
          · (go_simp; try with_reducible rfl)
          simp only [Act.put, List.setIfInBounds_toArray, List.set_cons_zero, List.set_cons_succ]
          refine wpL_guarded (v := ?_) rfl (fun w' hS => ?_) ?_
          rotate_left
          · (go_simp; try with_reducible rfl)
          simp only [Act.put, List.setIfInBounds_toArray, List.set_cons_zero, List.set_cons_succ]
          refine wpL_guarded (v := ?_) rfl (fun w' hS => ?_) ?_
          rotate_left
          · (go_simp; try with_reducible rfl)
          simp only [Act.put, List.setIfInBounds_toArray, List.set_cons_zero, List.set_cons_succ]
          refine wpL_guarded (v := ?_) rfl (fun w' hS => ?_) ?_
          rotate_left
          · (go_simp; try with_reducible rfl)
          simp only [Act.put, List.setIfInBounds_toArray, List.set_cons_zero, List.set_cons_succ]
          refine wpL_guarded (v := ?_) rfl (fun w' hS => ?_) ?_
          rotate_left
          · (go_simp; try with_reducible rfl)
          simp only [Act.put, List.setIfInBounds_toArray, List.set_cons_zero, List.set_cons_succ]
          refine wpL_guarded (v := ?_) rfl (fun w' hS => ?_) ?_
          rotate_left
          · (go_simp; try with_reducible rfl)
          simp only [Act.put, List.setIfInBounds_toArray, List.set_cons_zero, List.set_cons_succ]
          refine wpL_guarded rfl (fun w' hS => exec_convert rfl rfl (run_convert_in (by obtain ⟨_, hS⟩ := hS; exact BytesIn.tells _ _ H64.out.symm _ hS))) ?_
          simp only [Act.put, List.setIfInBounds_toArray, List.set_cons_zero, List.set_cons_succ]
          refine wpL_guarded (v := ?_) rfl (fun w' hS => ?_) ?_
          rotate_left
          · (obtain ⟨_, hS⟩ := hS; have q0 := Hq.out _ _ hS; go_simp; try with_reducible rfl)
          simp only [Act.put, List.setIfInBounds_toArray, List.set_cons_zero, List.set_cons_succ]
          refine wpL_guarded (v := ?_) rfl (fun w' hS => ?_) ?_
          rotate_left
          · (obtain ⟨_, hS⟩ := hS; have q0 := Hq.out _ _ hS; go_simp; try with_reducible rfl)
          simp only [Act.put, List.setIfInBounds_toArray, List.set_cons_zero, List.set_cons_succ]
          refine wpL_guarded (v := ?_) rfl (fun w' hS => ?_) ?_
          rotate_left
          · (obtain ⟨_, hS⟩ := hS; have q0 := Hq.out _ _ hS; go_simp; try with_reducible rfl)
          simp only [Act.put, List.setIfInBounds_toArray, List.set_cons_zero, List.set_cons_succ]
          refine wpL_effG rfl ?_
          go_simp
          refine (full_num h5.drew cx Hcn.out).mono ?_
          rintro e w15 ⟨g2, rfl, h15⟩
          refine ⟨⟨_, h15.right⟩, ?_⟩
          refine wpL_effG rfl (wp_of_run (exec_convert rfl rfl (run_convert_in (BytesIn.tells _ _ (fullB_length cx).symm _ h15))) ⟨⟨_, h15.right⟩, ?_⟩)
          simp only [Act.put, List.setIfInBounds_toArray, List.set_cons_zero, List.set_cons_succ]
          refine wpL_guarded (v := ?_) rfl (fun w' hS => ?_) ?_
          rotate_left
          · (go_simp; try with_reducible rfl)
          simp only [Act.put, List.setIfInBounds_toArray, List.set_cons_zero, List.set_cons_succ]
          refine wpL_guarded (v := ?_) rfl (fun w' hS => ?_) ?_
          rotate_left
          · (go_simp; try with_reducible rfl)
          simp only [Act.put, List.setIfInBounds_toArray, List.set_cons_zero, List.set_cons_succ]
          refine wpL_nil ?_
          refine wpL_yield (v := ?_) rfl (fun w' hS => ?_) ?_
          rotate_left
          · (go_simp; try with_reducible rfl)
          simp only [Act.put, List.setIfInBounds_toArray, List.set_cons_zero, List.set_cons_succ]
          refine wpL_nil ?_
          go_wp2_with fail
          go_roundw
          case rel => exact ⟨j + 1, by omega, hlt, by go_num, by rw [E24.out], by rw [E25.out]; simp, h15.right.right.cast (by ac_rfl)⟩
          case measure => simp [intOf]; omega
    · obtain rfl : j = 100 := by omega
      rw [show 100 - 40 = 60 from rfl]
      rcases Hgood.out with ⟨hg1, hg2⟩ | hg1
      · rw [hg1]
        have hr : (r == 0) = false := by rw [beq_eq_false_iff_ne]; exact hg2
        generalize okAll V next 60 = bn
        clear hg1 hg2
        cases bn <;>
        · go_wp2_with fail
          exact h1
      · rw [hg1]
        generalize okAll V old 60 = bo
        clear hg1
        cases hr : (r == 0) <;> cases bo <;>
        · go_wp2_with fail
          exact h1

end Go.Proofs.Ytaiobekochhemaa

/- The law CacheCrashes, walked; no condition. -/
namespace Go.Proofs.Ytaiobekochhemaa
open Go.RowKit Go.MapKept

theorem u_arr100 : Try.prog.underlying 60 = some (.array 100 5) := by kernel_rfl
theorem i_arr100 : (Try.prog.info? 60).map (·.size) = some 100 := by kernel_rfl

set_option maxRecDepth 1000000 in
set_option maxHeartbeats 16000000 in
theorem ccrashes_any {R : Assn} {w : World} (h : Bears w R) {l1 l2 : List COpM} {a1 a2 a3 : Option Addr} {c1 c2 c3 : Nat} {ks : List Int}
    (t1 : R.Tells (fun w => COpsIn w (.slice a1 l1.length c1) l1)) (b1 : l1.length ≤ 9223372036854775807) (hl1 : ∀ k, k < l1.length → (l1.getD k default).Fine)
    (t2 : R.Tells (fun w => COpsIn w (.slice a2 l2.length c2) l2)) (b2 : l2.length ≤ 9223372036854775807) (hl2 : ∀ k, k < l2.length → (l2.getD k default).Fine)
    (t3 : R.Tells (fun w => IntsIn w (.slice a3 ks.length c3) ks)) (hk1 : ∀ x ∈ ks, -9223372036854775808 ≤ x ∧ x ≤ 9223372036854775807) (hk2 : ks.length ≤ 9223372036854775807) :
    Calls Try.prog 8 #[.slice a1 l1.length c1, .slice a2 l2.length c2, .slice a3 ks.length c3] w fun e w' => e = .returned (.bool true) ∧ Bears w' R := by
  go_enter Try.func8, Try.ntmps8
  go_wp2_with fail
  refine (shown3_any h).mono ?_
  rintro e w1 ⟨rfl, h1⟩
  go_wp2_with fail
  refine (ground3_any h1 7 (by decide)).mono ?_
  rintro e w2 ⟨p, c, x, d, rfl, L, hdl, hfu, _, _, h2⟩
  have h3 : Bears w2 (cvA c p x 100 0 40 (fun _ => zeroSec) (fun _ => zeroSec) 0 false * (diskA p d * (walObj x p 0 40 ((0 : Nat) : Int) * R))) := Bears.cv.2 ⟨_, CV.new (by decide), h2.c23⟩
  have hw0 := WantOk.start
  have hy0 : ∀ w, (Instr.build 60 #[]).run Try.prog w = .ok (.agg (cellsV (List.replicate 100 0)).toArray) w := fun _ => by kernel_rfl
  have hy1 : ∀ w, (zeroValue 60).run Try.prog w = .ok (.agg (cellsV (List.replicate 100 0)).toArray) w := fun _ => by kernel_rfl
  have hi2 : (Try.prog.info? 60).map (·.size) = some (Value.agg (cellsV (List.replicate 100 0)).toArray).cells.size := by kernel_rfl
  have hone : ∀ v ∈ (cellsV (List.replicate 100 0)).toArray.toList, v.oneCell' = true := fun v hv => oneCell_cellsV _ v (by simpa using hv)
  generalize (fun _ => zeroSec : Nat → Sec) = F0 at L h3 hw0
  generalize List.replicate 100 (0 : UInt8) = ys at hy0 hy1 hi2 hone hw0
  have HL := Lib.hid L
  have Hdl := Lib.hid hdl
  have Hfu := Lib.hid hfu
  clear h h1 h2 L hdl hfu
  go_wp2_with (first
    | (refine wpList_op rfl (exec_build0 rfl (hy0 _)) ?_)
    | (refine wpList_alloc_z rfl rfl (hy1 _) ?_)
    | (refine wpList_store_obj (h3.alloc _) rfl rfl rfl rfl rfl hi2 hone ?_; intro w4 h4))
  generalize w2.heap.size = sb at h4
  refine (vbegin_any h4.pull2).mono ?_
  rintro e w5 ⟨rfl, h5⟩
  have hys : ys.length = 100 := hw0.len
  have Hy1 := Lib.hid hy1
  clear h3 h4 hy0 hy1 hi2 hone
  go_upto_block 0 with (fail)
  go_cut [] (fun wr => ∃ k want G, k ≤ 20 ∧ WantOk G want ∧ Bears wr (cvA c p x 100 0 40 F0 G k true * (diskA p d * (Assn.obj sb (.cells (cellsV want).toArray 60 (0, 0)) * (walObj x p 0 40 ((0 : Nat) : Int) * R)))))
  case first =>
    go_wp2_with fail
    go_loopw [11] (fun i wr => ∃ k : Nat, k ≤ l1.length ∧ k ≤ 20 ∧ i = .int .i64 k ∧ ∃ want G, WantOk G want ∧ Bears wr (cvA c p x 100 0 40 F0 G k true * (diskA p d * (Assn.obj sb (.cells (cellsV want).toArray 60 (0, 0)) * (walObj x p 0 40 ((0 : Nat) : Int) * R))))) (fun i _ => 20 - (intOf i).toNat)
    case atStart => exact ⟨0, by omega, by omega, rfl, ys, F0, hw0, h5.c23⟩
    case round =>
      clear h5 hw0
      obtain ⟨k, hk, hkN, rfl, want, G, hwo, h6⟩ := hrel
      by_cases hlt : k < l1.length ∧ k < 20
      · obtain ⟨hlt, hltN⟩ := hlt
        obtain ⟨b, o, rfl, cl0, cl1, cl2, cl3⟩ := (t1 _ h6.right.right.right.right).cells hlt
        have hop := hl1 k hlt
        generalize hc : l1.getD k default = op at cl0 cl1 cl2 cl3 hop
        obtain ⟨kd, at', on, ob⟩ := op
        have Hop := Lib.hid hop
        have Hc := Lib.hid hc
        clear hop hc
        unfold byteV at cl3
        simp only at cl0 cl1 cl2 cl3
        generalize hobn : (ob.toNat : Int) = obn at cl3
        have Hobn := Lib.hid hobn
        clear hobn
        obtain ⟨m, hm, hms⟩ := kind_lt at' 60 (by omega)
        rw [show ((60 : Nat) : Int) = 60 from rfl] at hms
        have Hms := Lib.hid hms
        have Hwo := Lib.hid hwo
        clear hms hwo
        go_wp2_with fail
        refine (kind_any at' 60 _ Hop.out.at' (by omega)).mono ?_
        rintro e w' ⟨rfl, rfl⟩
        rw [Hms.out]
        go_wp2_with fail
        refine (full_num h6 ob Hobn.out).mono ?_
        rintro e w7 ⟨g, rfl, h7⟩
        go_wp2_with fail
        refine (vwrite_any (i := 40 + (m : Int)) h7.push3 Hdl.out (BytesIn.tells (l := fullB ob) _ _ (fullB_length ob).symm) (fullB_length ob) (by omega) (by omega) (by omega)).mono ?_
        rintro e w8 ⟨rfl, h8⟩
        rw [show (40 + (m : Int)).toNat = 40 + m by omega] at h8
        have h9 := h8.pull3.right
        obtain ⟨b', o', he, _, _, _, cl3'⟩ := (t1 _ h9.right.right.right.right).cells hlt
        cases he
        rw [Hc.out] at cl3'
        unfold byteV at cl3'
        simp only at cl3'
        rw [Hobn.out] at cl3'
        have q0 := h9.pull3.byteCell (j := 40 + m) (by rw [Hwo.out.len]; omega)
        have f0 := frozen_of_obj h9.pull3.obj (40 + m)
        have h10 := h9.pull3.setByte (40 + m) ob
        generalize want.getD (40 + m) 0 = old at q0
        unfold byteV at q0 h10
        rw [Hobn.out] at h10
        clear h6 h7 h8 cl0 cl1 cl2 cl3
        go_wp2_with fail
        go_roundw
        case rel => exact ⟨k + 1, hlt, hltN, by go_num, want.set (40 + m) ob, _, Hwo.out.put ob (by omega), h10.push3⟩
        case measure => simp [intOf]; omega
      · go_wp2_with fail
        all_goals
          go_meet
          case rel => exact ⟨k, want, G, hkN, hwo, h6⟩
  case rest =>
    obtain ⟨k, old, G, hk30, hwo, h6⟩ := hcut
    have Hwo := Lib.hid hwo
    clear hwo
    go_wp2_with fail
    refine (vcommit_any (g := 0) h6.c34.c23 HL.out Hdl.out Hfu.out (by show k ≤ 37; omega) (by decide)).mono ?_
    rintro e w7 ⟨d2, rfl, L2, hfu2, hdl2, h7⟩
    have HL2 := Lib.hid L2
    have Hdl2 := Lib.hid hdl2
    have h8 : Bears w7 (diskA p d2 * (Assn.obj sb (.cells (cellsV old).toArray 60 (0, 0)) * ((cvA c p x 100 0 40 G G 0 false * walObj x p 0 40 ((0 + 1 : Nat) : Int)) * R))) := h7.cast (by ac_rfl)
    generalize cvA c p x 100 0 40 G G 0 false * walObj x p 0 40 ((0 + 1 : Nat) : Int) = Z at h8
    clear L2 hfu2 hdl2 h6 h5 hw0 h7
    go_wp2_with fail
    go_loopw [14] (fun i wr => ∃ k : Nat, k ≤ 90 ∧ i = .int .i64 k ∧ Bears wr (diskA p d2 * (Assn.obj sb (.cells (cellsV old).toArray 60 (0, 0)) * (Z * R)))) (fun i _ => 90 - (intOf i).toNat)
    case atStart => exact ⟨0, by omega, rfl, h8⟩
    case round =>
      clear h8
      obtain ⟨fz, hfz, rfl, h1⟩ := hrel
      by_cases hlt : fz < 80
      · obtain ⟨o1, g1⟩ := HL2.out.opens (by decide)
        have O1 := Lib.hid o1
        have G1 := Lib.hid g1
        clear o1 g1
        go_wp2_with fail
        refine (clone_any h1 HL2.out.few0).mono ?_
        rintro e w8 ⟨q, rfl, h2⟩
        go_wp2_with fail
        refine (open_yes (a := 0) (s := 40) h2 O1.out G1.out (by omega) (by omega) (HL2.out.few _ (by decide))).mono ?_
        rintro e w9 ⟨x2, rfl, h3⟩
        go_wp2_with fail
        refine (cnew_ok h3 q x2 7 (by omega) (by omega)).mono ?_
        rintro e w10 ⟨y2, rfl, h4⟩
        have h5 : Bears w10 (cvA y2 q x2 100 0 40 G G 0 false * (walObj x2 q 0 40 ((0 + 1 : Nat) : Int) * (diskA q d2 * (diskA p d2 * (Assn.obj sb (.cells (cellsV old).toArray 60 (0, 0)) * (Z * R)))))) := Bears.cv.2 ⟨_, CV.new (by decide), h4⟩
        have hra : w10.rangeAt sb 0 (cellsV old) := by have := rangeAt_of_obj h5.pull5.obj; simpa using this
        have hsz : (cellsV old).toArray.size = (Value.agg (cellsV ys).toArray).cells.size := by simp [Value.cells, Hwo.out.len, hys]
        have hin : (Try.prog.info? 60).map (·.size) = some (Value.agg (cellsV ys).toArray).cells.size := by rw [← hsz]; simp [Hwo.out.len, i_arr100]
        have hon : ∀ v ∈ (cellsV old).toArray.toList, v.oneCell' = true := fun v hv => oneCell_cellsV _ v (by simpa using hv)
        clear h1 h2 h3 h4
        go_wp2_with (first
          | (refine wpList_load_range 60 _ rfl rfl sb 0 rfl (cellsV old) _ hra u_arr100 rfl (by rw [length_cellsV, Hwo.out.len]; exact i_arr100) ?_)
          | (refine wpList_alloc_z rfl rfl (Hy1.out _) ?_)
          | (refine wpList_store_obj (h5.alloc _) rfl rfl rfl rfl hsz hin hon ?_; intro w11 h11))
        generalize w10.heap.size = nb at h11
        refine (vbegin_any h11.pull2).mono ?_
        rintro e w12 ⟨rfl, h12⟩
        clear hra hsz hin hon h5 h11
        have hg0 : WantOk G old := Hwo.out
        go_upto_block 4 with (fail)
        go_cut [] (fun wr => ∃ k want G2, k ≤ 20 ∧ WantOk G2 want ∧ Bears wr (cvA y2 q x2 100 0 40 G G2 k true * (diskA q d2 * (Assn.obj nb (.cells (cellsV want).toArray 60 (0, 0)) * (walObj x2 q 0 40 ((0 + 1 : Nat) : Int) * (diskA p d2 * (Assn.obj sb (.cells (cellsV old).toArray 60 (0, 0)) * (Z * R))))))))
        case first =>
          go_wp2_with fail
          go_loopw [21] (fun i wr => ∃ k : Nat, k ≤ l2.length ∧ k ≤ 20 ∧ i = .int .i64 k ∧ ∃ want G2, WantOk G2 want ∧ Bears wr (cvA y2 q x2 100 0 40 G G2 k true * (diskA q d2 * (Assn.obj nb (.cells (cellsV want).toArray 60 (0, 0)) * (walObj x2 q 0 40 ((0 + 1 : Nat) : Int) * (diskA p d2 * (Assn.obj sb (.cells (cellsV old).toArray 60 (0, 0)) * (Z * R)))))))) (fun i _ => 20 - (intOf i).toNat)
          case atStart => exact ⟨0, by omega, by omega, rfl, old, G, hg0, h12.c34.c23.cast (by ac_rfl)⟩
          case round =>
            obtain ⟨k, hk, hkN, rfl, want, G2, hwo, h6⟩ := hrel
            by_cases hlt : k < l2.length ∧ k < 20
            · obtain ⟨hlt, hltN⟩ := hlt
              obtain ⟨b, o, rfl, cl0, clw, clx, cl3⟩ := (t2 _ h6.right.right.right.right.right.right.right).cells hlt
              have hop := hl2 k hlt
              generalize hc : l2.getD k default = op at cl0 clw clx cl3 hop
              obtain ⟨kd, at', on, ob⟩ := op
              have Hop := Lib.hid hop
              have Hc := Lib.hid hc
              clear hop hc
              unfold byteV at cl3
              simp only at cl0 clw clx cl3
              generalize hobn : (ob.toNat : Int) = obn at cl3
              have Hobn := Lib.hid hobn
              clear hobn
              obtain ⟨m, hm, hms⟩ := kind_lt at' 60 (by omega)
              rw [show ((60 : Nat) : Int) = 60 from rfl] at hms
              have Hms := Lib.hid hms
              have Hwn := Lib.hid hwo
              clear hms hwo
              go_wp2_with fail
              refine (kind_any at' 60 _ Hop.out.at' (by omega)).mono ?_
              rintro e w' ⟨rfl, rfl⟩
              rw [Hms.out]
              go_wp2_with fail
              refine (full_num h6 ob Hobn.out).mono ?_
              rintro e w7 ⟨g, rfl, h7⟩
              go_wp2_with fail
              refine (vwrite_any (i := 40 + (m : Int)) h7.push3 Hdl2.out (BytesIn.tells (l := fullB ob) _ _ (fullB_length ob).symm) (fullB_length ob) (by omega) (by omega) (by omega)).mono ?_
              rintro e w8 ⟨rfl, h8⟩
              rw [show (40 + (m : Int)).toNat = 40 + m by omega] at h8
              have h9 := h8.pull3.right
              obtain ⟨b', o', he, _, _, _, cl3'⟩ := (t2 _ h9.right.right.right.right.right.right.right).cells hlt
              cases he
              rw [Hc.out] at cl3'
              unfold byteV at cl3'
              simp only at cl3'
              rw [Hobn.out] at cl3'
              have q0 := h9.pull3.byteCell (j := 40 + m) (by rw [Hwn.out.len]; omega)
              have f0 := frozen_of_obj h9.pull3.obj (40 + m)
              have h10 := h9.pull3.setByte (40 + m) ob
              generalize want.getD (40 + m) 0 = old at q0
              unfold byteV at q0 h10
              rw [Hobn.out] at h10
              clear h6 h7 h8 cl0 clw clx cl3
              go_wp2_with fail
              go_roundw
              case rel => exact ⟨k + 1, hlt, hltN, by go_num, want.set (40 + m) ob, _, Hwn.out.put ob (by omega), h10.push3⟩
              case measure => simp [intOf]; omega
            · go_wp2_with fail
              all_goals
                go_meet
                case rel => exact ⟨k, want, G2, hkN, hwo, h6⟩
        case rest =>
          obtain ⟨k2, next, G2, hk20, hwn, h13⟩ := hcut
          have Hwn := Lib.hid hwn
          clear hwn h12
          have L3 := HL2.out.fused (fz : Int)
          have n3 : (d2.setFuse (fz : Int)).len = 100 := by rw [setFuse_len, Hdl2.out]
          obtain ⟨d3, hd3⟩ : ∃ d3, d2.setFuse (fz : Int) = d3 := ⟨_, rfl⟩
          rw [hd3] at L3 n3
          have Hd3 := Lib.hid hd3
          have HL3 := Lib.hid L3
          have Hn3 := Lib.hid n3
          clear hd3 L3 n3
          go_wp2_with fail
          refine (fuse_to h13.pull2 Hd3.out (by omega)).mono ?_
          rintro e w14 ⟨rfl, h14⟩
          go_wp2_with fail
          refine (vcommit_cut (g := 0 + 1) (h14.pull4.c34.cast (by ac_rfl) : Bears _ (cvA y2 q x2 100 0 40 G G2 k2 true * (walObj x2 q 0 40 ((0 + 1 : Nat) : Int) * (diskA q d3 * (Assn.obj nb (.cells (cellsV next).toArray 60 (0, 0)) * (diskA p d2 * (Assn.obj sb (.cells (cellsV old).toArray 60 (0, 0)) * (Z * R)))))))) HL3.out Hn3.out (by show k2 ≤ 37; omega) (by decide)).mono ?_
          rintro e w15 ⟨r, d4, rfl, hg4, h04, hB4, hw4, h15⟩
          obtain ⟨d6, V, g6, e6, e7, L6, n6, hV⟩ := crash_end HL3.out Hn3.out hg4 h04 hB4 (by decide) ks
          have E6 := Lib.hid e6
          have E7 := Lib.hid e7
          have HL6 := Lib.hid L6
          have Hn6 := Lib.hid n6
          have HV := Lib.hid hV
          clear e6 e7 L6 n6 hV hg4 h04 hB4 h13 h14
          go_wp2_with fail
          refine (boot_to ks h15 rfl rfl (fun w' hw' => t3 w' hw'.right.right.right.right) hk1 hk2 (by omega)).mono ?_
          rintro e w16 ⟨rfl, h16⟩
          go_wp2_with fail
          refine (open_yes (a := 0) (s := 40) h16 E6.out E7.out (by omega) (by omega) (by show 0 + 20000 < _; decide)).mono ?_
          rintro e w17 ⟨x3, rfl, h17⟩
          have h18 : Bears w17 (diskA q d6 * (Assn.obj sb (.cells (cellsV old).toArray 60 (0, 0)) * (Assn.obj nb (.cells (cellsV next).toArray 60 (0, 0)) * (walObj x3 q 0 40 (g6 : Int) * (diskA p d2 * (Z * R)))))) := h17.cast (by ac_rfl)
          have hV64 : ∀ i, 40 ≤ i → (V i).length = 64 := fun i hi => by
            rw [← HL6.out.now (i := i) (by omega)]
            exact h18.diskWF.now64 i
          have hgood : (okAll V old 60 = true ∧ r ≠ 0) ∨ okAll V next 60 = true := by
            rcases HV.out with ⟨e, hr⟩ | e
            · exact .inl ⟨by rw [e]; exact okAll_true hg0 60 (by decide), hr⟩
            · exact .inr (by rw [e]; exact okAll_true Hwn.out 60 (by decide))
          clear h15 h16 h17
          go_upto_region 42 with (fail)
          go_cut [24, 25] (fun v24 v25 wr => v24 = .bool true ∧ v25 = .bool true ∧ wr = w17)
          case first =>
            go_wp2_with fail
            go_meet
            case rel => exact ⟨rfl, rfl, rfl⟩
          obtain ⟨rfl, rfl, rfl⟩ := hcut
          go_step
          refine cmp_any HL6.out Hn6.out Hwo.out.len Hwn.out.len hV64 hgood h18 (fun w' hI => ?_)
          go_wp2_with fail
          go_roundw
          case rel => exact ⟨fz + 3, by omega, by go_num, (hI.cast (by ac_rfl) : Bears _ (diskA q d6 * (Assn.obj nb _ * (walObj x3 q 0 40 (g6 : Int) * (diskA p d2 * (Assn.obj sb _ * (Z * R))))))).right.right.right⟩
          case measure => simp [intOf]; omega
      · go_wp2_with fail
        go_ret
        exact ⟨rfl, h1.right.right.right⟩

end Go.Proofs.Ytaiobekochhemaa
