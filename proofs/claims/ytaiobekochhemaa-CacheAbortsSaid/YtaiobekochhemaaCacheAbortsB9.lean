/- Texts of this claim, put together: AbortsW; no condition. -/
import Derived.Test.YtaiobekochhemaaCacheAbortsB8

/- The law CacheAborts, walked; no condition. -/
namespace Go.Proofs.Ytaiobekochhemaa
open Go.RowKit Go.MapKept

/-- A byte a sector. -/
structure WantOk (G : Nat → Sec) (want : List UInt8) : Prop where
  len : want.length = 100
  at' : ∀ i, 40 ≤ i → i < 100 → G i = fullB (want.getD i 0)
theorem WantOk.start : WantOk (fun _ => zeroSec) (List.replicate 100 0) := by
  refine ⟨by simp, fun i _ h => ?_⟩
  rw [List.getD_eq_getElem?_getD, List.getElem?_replicate, if_pos h]
  rfl
theorem WantOk.put {G : Nat → Sec} {want : List UInt8} (h : WantOk G want) {i : Nat} (c : UInt8) (hi : i < 100) : WantOk (updS G i (fullB c)) (want.set i c) := by
  refine ⟨by simp [h.len], fun j h1 h2 => ?_⟩
  unfold updS
  by_cases e : j = i
  · subst e
    rw [if_pos rfl, List.getD_eq_getElem?_getD, List.getElem?_set_self (by rw [h.len]; exact hi)]
    rfl
  · rw [if_neg e, List.getD_eq_getElem?_getD, List.getElem?_set_ne (Ne.symm e), ← List.getD_eq_getElem?_getD]
    exact h.at' j h1 h2

set_option maxRecDepth 100000 in
set_option maxHeartbeats 4000000 in
theorem aborts_any {R : Assn} {w : World} (h : Bears w R) {l1 l2 : List COpM} {a1 a2 : Option Addr} {c1 c2 : Nat}
    (t1 : R.Tells (fun w => COpsIn w (.slice a1 l1.length c1) l1)) (b1 : l1.length ≤ 9223372036854775807) (hl1 : ∀ k, k < l1.length → (l1.getD k default).Fine)
    (t2 : R.Tells (fun w => COpsIn w (.slice a2 l2.length c2) l2)) (b2 : l2.length ≤ 9223372036854775807) (hl2 : ∀ k, k < l2.length → (l2.getD k default).Fine) :
    Calls Try.prog 6 #[.slice a1 l1.length c1, .slice a2 l2.length c2] w fun e w' => e = .returned (.bool true) ∧ Bears w' R := by
  go_enter Try.func6, Try.ntmps6
  go_wp2_with fail
  refine (shown3_any h).mono ?_
  rintro e w1 ⟨rfl, h1⟩
  go_wp2_with fail
  refine (ground3_any h1 5 (by decide)).mono ?_
  rintro e w2 ⟨p, c, x, d, rfl, L, hdl, hfu, _, _, h2⟩
  have h3 : Bears w2 (cvA c p x 100 0 40 (fun _ => zeroSec) (fun _ => zeroSec) 0 false * (diskA p d * (walObj x p 0 40 ((0 : Nat) : Int) * R))) := Bears.cv.2 ⟨_, CV.new (by decide), h2.c23⟩
  have hw0 := WantOk.start
  have hy0 : ∀ w, (Instr.build 60 #[]).run Try.prog w = .ok (.agg (cellsV (List.replicate 100 0)).toArray) w := fun _ => by kernel_rfl
  have hy1 : ∀ w, (zeroValue 60).run Try.prog w = .ok (.agg (cellsV (List.replicate 100 0)).toArray) w := fun _ => by kernel_rfl
  have hi2 : (Try.prog.info? 60).map (·.size) = some (Value.agg (cellsV (List.replicate 100 0)).toArray).cells.size := by kernel_rfl
  have hone : ∀ v ∈ (cellsV (List.replicate 100 0)).toArray.toList, v.oneCell' = true := fun v hv => oneCell_cellsV _ v (by simpa using hv)
  generalize (fun _ => zeroSec : Nat → Sec) = F0 at L h3 hw0
  generalize List.replicate 100 (0 : UInt8) = ys at hy0 hy1 hi2 hone hw0
  have HL := Lib.hid L
  have Hdl := Lib.hid hdl
  have Hfu := Lib.hid hfu
  clear h h1 h2 L hdl hfu
  go_wp2_with (first
    | (refine wpList_op rfl (exec_build0 rfl (hy0 _)) ?_)
    | (refine wpList_alloc_z rfl rfl (hy1 _) ?_)
    | (refine wpList_store_obj (h3.alloc _) rfl rfl rfl rfl rfl hi2 hone ?_; intro w4 h4))
  generalize w2.heap.size = sb at h4
  refine (vbegin_any h4.pull2).mono ?_
  rintro e w5 ⟨rfl, h5⟩
  clear h3 h4 hy0 hy1 hi2 hone
  go_upto_block 0 with (fail)
  go_cut [] (fun wr => ∃ k want G, k ≤ 30 ∧ WantOk G want ∧ Bears wr (cvA c p x 100 0 40 F0 G k true * (diskA p d * (Assn.obj sb (.cells (cellsV want).toArray 60 (0, 0)) * (walObj x p 0 40 ((0 : Nat) : Int) * R)))))
  case first =>
    go_wp2_with fail
    go_loopw [9] (fun i wr => ∃ k : Nat, k ≤ l1.length ∧ k ≤ 30 ∧ i = .int .i64 k ∧ ∃ want G, WantOk G want ∧ Bears wr (cvA c p x 100 0 40 F0 G k true * (diskA p d * (Assn.obj sb (.cells (cellsV want).toArray 60 (0, 0)) * (walObj x p 0 40 ((0 : Nat) : Int) * R))))) (fun i _ => 30 - (intOf i).toNat)
    case atStart => exact ⟨0, by omega, by omega, rfl, ys, F0, hw0, h5.c23⟩
    case round =>
      clear h5 hw0
      obtain ⟨k, hk, hkN, rfl, want, G, hwo, h6⟩ := hrel
      by_cases hlt : k < l1.length ∧ k < 30
      · obtain ⟨hlt, hltN⟩ := hlt
        obtain ⟨b, o, rfl, cl0, cl1, cl2, cl3⟩ := (t1 _ h6.right.right.right.right).cells hlt
        have hop := hl1 k hlt
        generalize hc : l1.getD k default = op at cl0 cl1 cl2 cl3 hop
        obtain ⟨kd, at', on, ob⟩ := op
        have Hop := Lib.hid hop
        have Hc := Lib.hid hc
        clear hop hc
        unfold byteV at cl3
        simp only at cl0 cl1 cl2 cl3
        generalize hobn : (ob.toNat : Int) = obn at cl3
        have Hobn := Lib.hid hobn
        clear hobn
        obtain ⟨m, hm, hms⟩ := kind_lt at' 60 (by omega)
        rw [show ((60 : Nat) : Int) = 60 from rfl] at hms
        have Hms := Lib.hid hms
        have Hwo := Lib.hid hwo
        clear hms hwo
        go_wp2_with fail
        refine (kind_any at' 60 _ Hop.out.at' (by omega)).mono ?_
        rintro e w' ⟨rfl, rfl⟩
        rw [Hms.out]
        go_wp2_with fail
        refine (full_num h6 ob Hobn.out).mono ?_
        rintro e w7 ⟨g, rfl, h7⟩
        go_wp2_with fail
        refine (vwrite_any (i := 40 + (m : Int)) h7.push3 Hdl.out (BytesIn.tells (l := fullB ob) _ _ (fullB_length ob).symm) (fullB_length ob) (by omega) (by omega) (by omega)).mono ?_
        rintro e w8 ⟨rfl, h8⟩
        rw [show (40 + (m : Int)).toNat = 40 + m by omega] at h8
        have h9 := h8.pull3.right
        obtain ⟨b', o', he, _, _, _, cl3'⟩ := (t1 _ h9.right.right.right.right).cells hlt
        cases he
        rw [Hc.out] at cl3'
        unfold byteV at cl3'
        simp only at cl3'
        rw [Hobn.out] at cl3'
        have q0 := h9.pull3.byteCell (j := 40 + m) (by rw [Hwo.out.len]; omega)
        have f0 := frozen_of_obj h9.pull3.obj (40 + m)
        have h10 := h9.pull3.setByte (40 + m) ob
        generalize want.getD (40 + m) 0 = old at q0
        unfold byteV at q0 h10
        rw [Hobn.out] at h10
        clear h6 h7 h8 cl0 cl1 cl2 cl3
        go_wp2_with fail
        go_roundw
        case rel => exact ⟨k + 1, hlt, hltN, by go_num, want.set (40 + m) ob, _, Hwo.out.put ob (by omega), h10.push3⟩
        case measure => simp [intOf]; omega
      · go_wp2_with fail
        all_goals
          go_meet
          case rel => exact ⟨k, want, G, hkN, hwo, h6⟩
  case rest =>
    obtain ⟨k, want, G, hk30, hwo, h6⟩ := hcut
    have Hwo := Lib.hid hwo
    clear hwo
    go_wp2_with fail
    refine (vcommit_any (g := 0) h6.c34.c23 HL.out Hdl.out Hfu.out (by show k ≤ 37; omega) (by decide)).mono ?_
    rintro e w7 ⟨d2, rfl, L2, hfu2, hdl2, h7⟩
    have HL2 := Lib.hid L2
    have Hdl2 := Lib.hid hdl2
    clear L2 hfu2 hdl2 h6 h5 hw0
    go_wp2_with fail
    refine (vbegin_any h7).mono ?_
    rintro e w8 ⟨rfl, h8⟩
    clear h7
    go_upto_block 2 with (fail)
    go_cut [] (fun wr => ∃ k2 G2, Bears wr (cvA c p x 100 0 40 G G2 k2 true * (diskA p d2 * (walObj x p 0 40 ((0 + 1 : Nat) : Int) * (Assn.obj sb (.cells (cellsV want).toArray 60 (0, 0)) * R)))))
    case first =>
      go_wp2_with fail
      go_loopw [12] (fun i wr => ∃ k : Nat, k ≤ l2.length ∧ k ≤ 60 ∧ i = .int .i64 k ∧ ∃ k2 G2, Bears wr (cvA c p x 100 0 40 G G2 k2 true * (diskA p d2 * (walObj x p 0 40 ((0 + 1 : Nat) : Int) * (Assn.obj sb (.cells (cellsV want).toArray 60 (0, 0)) * R))))) (fun i _ => 60 - (intOf i).toNat)
      case atStart => exact ⟨0, by omega, by omega, rfl, 0, G, h8.c23⟩
      case round =>
        clear h8
        obtain ⟨k, hk, hkN, rfl, k2, G2, h6⟩ := hrel
        by_cases hlt : k < l2.length ∧ k < 60
        · obtain ⟨hlt, hltN⟩ := hlt
          obtain ⟨b, o, rfl, cl0, cl1, cl2, cl3⟩ := (t2 _ h6.right.right.right.right).cells hlt
          have hop := hl2 k hlt
          generalize hc : l2.getD k default = op at cl0 cl1 cl2 cl3 hop
          obtain ⟨kd, at', on, ob⟩ := op
          have Hop := Lib.hid hop
          have Hc := Lib.hid hc
          clear hop hc
          unfold byteV at cl3
          simp only at cl0 cl1 cl2 cl3
          generalize hobn : (ob.toNat : Int) = obn at cl3
          have Hobn := Lib.hid hobn
          clear hobn
          obtain ⟨m, hm, hms⟩ := kind_lt at' 60 (by omega)
          rw [show ((60 : Nat) : Int) = 60 from rfl] at hms
          have Hms := Lib.hid hms
          clear hms
          have cells' : ∀ w', Bears w' R → w'.cell? ⟨b, o + k * 4 + 1, none⟩ = some (.int .i64 at') ∧ w'.cell? ⟨b, o + k * 4 + 3, none⟩ = some (.int .u8 obn) := by
            intro w' hw'
            obtain ⟨b', o', he, _, q1, _, q3⟩ := (t2 _ hw').cells hlt
            cases he
            rw [Hc.out] at q1 q3
            unfold byteV at q3
            simp only at q1 q3
            rw [Hobn.out] at q3
            exact ⟨q1, q3⟩
          have Hcells := Lib.hid cells'
          clear cells'
          go_wp2_with fail
          refine wp_region_L (fun w' => w'.cell? ⟨b, o + k * 4 + 1, none⟩ = some (.int .i64 at') ∧ w'.cell? ⟨b, o + k * 4 + 3, none⟩ = some (.int .u8 obn)) 15
            [(true, 0), (true, 1), (true, 2), (true, 3), (true, 4), (true, 5), (true, 8), (true, 9), (true, 10), (true, 11), (true, 12), (false, 6), (true, 7), (false, 13), (false, 14)] [] (by kernel_rfl) (by kernel_rfl) ⟨cl1, cl3⟩ ?_
          simp only [pick, List.getElem?_cons_zero, List.getElem?_cons_succ]
          refine wpL_yield (v := ?_) rfl (fun w' hS => ?_) ?_
          rotate_left
          · (obtain ⟨cl1, cl3⟩ := hS; go_simp; try with_reducible rfl)
          simp only [Act.put, List.setIfInBounds_toArray, List.set_cons_zero, List.set_cons_succ]
          refine wpL_yield (v := ?_) rfl (fun w' hS => ?_) ?_
          rotate_left
          · (obtain ⟨cl1, cl3⟩ := hS; go_simp; try with_reducible rfl)
          simp only [Act.put, List.setIfInBounds_toArray, List.set_cons_zero, List.set_cons_succ]
          refine wpL_yield (v := ?_) rfl (fun w' hS => ?_) ?_
          rotate_left
          · (obtain ⟨cl1, cl3⟩ := hS; go_simp; try with_reducible rfl)
          simp only [Act.put, List.setIfInBounds_toArray, List.set_cons_zero, List.set_cons_succ]
          refine wpL_yield (v := ?_) rfl (fun w' hS => ?_) ?_
          rotate_left
          · (obtain ⟨cl1, cl3⟩ := hS; go_simp; try with_reducible rfl)
          simp only [Act.put, List.setIfInBounds_toArray, List.set_cons_zero, List.set_cons_succ]
          refine wpL_yield (v := ?_) rfl (fun w' hS => ?_) ?_
          rotate_left
          · (obtain ⟨cl1, cl3⟩ := hS; go_simp; try with_reducible rfl)
          simp only [Act.put, List.setIfInBounds_toArray, List.set_cons_zero, List.set_cons_succ]
          refine wpL_yield (v := ?_) rfl (fun w' hS => ?_) ?_
          rotate_left
          · (obtain ⟨cl1, cl3⟩ := hS; go_simp; try with_reducible rfl)
          simp only [Act.put, List.setIfInBounds_toArray, List.set_cons_zero, List.set_cons_succ]
          refine wpL_yield (v := ?_) rfl (fun w' hS => ?_) ?_
          rotate_left
          · (obtain ⟨cl1, cl3⟩ := hS; go_simp; try with_reducible rfl)
          simp only [Act.put, List.setIfInBounds_toArray, List.set_cons_zero, List.set_cons_succ]
          refine wpL_yield (v := ?_) rfl (fun w' hS => ?_) ?_
          rotate_left
          · (obtain ⟨cl1, cl3⟩ := hS; go_simp; try with_reducible rfl)
          simp only [Act.put, List.setIfInBounds_toArray, List.set_cons_zero, List.set_cons_succ]
          refine wpL_yield (v := ?_) rfl (fun w' hS => ?_) ?_
          rotate_left
          · (obtain ⟨cl1, cl3⟩ := hS; go_simp; try with_reducible rfl)
          simp only [Act.put, List.setIfInBounds_toArray, List.set_cons_zero, List.set_cons_succ]
          refine wpL_yield (v := ?_) rfl (fun w' hS => ?_) ?_
          rotate_left
          · (obtain ⟨cl1, cl3⟩ := hS; go_simp; try with_reducible rfl)
          simp only [Act.put, List.setIfInBounds_toArray, List.set_cons_zero, List.set_cons_succ]
          refine wpL_yield (v := ?_) rfl (fun w' hS => ?_) ?_
          rotate_left
          · (obtain ⟨cl1, cl3⟩ := hS; go_simp; try with_reducible rfl)
          simp only [Act.put, List.setIfInBounds_toArray, List.set_cons_zero, List.set_cons_succ]
          refine wpL_eff rfl ?_
          go_simp
          refine (kind_any at' 60 _ Hop.out.at' (by omega)).mono ?_
          rintro e w' ⟨rfl, rfl⟩
          rw [Hms.out]
          have r1 : IntKind.i64.wrap (40 + (m : Int)) = 40 + (m : Int) := IntWalk.i64_in _ (by omega)
          refine ⟨⟨cl1, cl3⟩, ?_⟩
          refine wpL_yield (v := ?_) rfl (fun w' hS => ?_) ?_
          rotate_left
          · (go_simp; try with_reducible rfl)
          simp only [Act.put, List.setIfInBounds_toArray, List.set_cons_zero, List.set_cons_succ]
          refine wpL_eff rfl ?_
          go_simp
          refine (full_num h6.drew ob Hobn.out).mono ?_
          rintro e w9 ⟨g, rfl, h9⟩
          refine ⟨Hcells.out _ h9.right.right.right.right.right, ?_⟩
          refine wpL_eff rfl ?_
          go_simp
          refine (vwrite_any (i := 40 + (m : Int)) h9.push3 Hdl2.out (BytesIn.tells (l := fullB ob) _ _ (fullB_length ob).symm) (fullB_length ob) (by omega) (by omega) (by omega)).mono ?_
          rintro e w10 ⟨rfl, h10⟩
          refine ⟨Hcells.out _ h10.right.right.right.right.right, ?_⟩
          refine wpL_nil ?_
          refine wpL_nil ?_
          go_wp2_with fail
          go_roundw
          case rel => exact ⟨k + 1, hlt, hltN, by go_num, k2 + 1, _, h10.pull3.right⟩
          case measure => simp [intOf]; omega
        · go_wp2_with fail
          all_goals
            go_meet
            case rel => exact ⟨k2, G2, h6⟩
    case rest =>
      obtain ⟨k2, G2, h9⟩ := hcut
      go_wp2_with fail
      refine (vabort_any h9).mono ?_
      rintro e w10 ⟨rfl, h10⟩
      go_wp2_with fail
      refine (vpinned_any h10).mono ?_
      rintro e w11 ⟨rfl, h11⟩
      clear h8 h9 h10
      go_wp2_with fail
      go_loopw [14] (fun i wr => ∃ j : Nat, 40 ≤ j ∧ j ≤ 100 ∧ i = .int .i64 j ∧ Bears wr (cvA c p x 100 0 40 G G 0 false * (diskA p d2 * (walObj x p 0 40 ((0 + 1 : Nat) : Int) * (Assn.obj sb (.cells (cellsV want).toArray 60 (0, 0)) * R))))) (fun i _ => 100 - (intOf i).toNat)
      case atStart => exact ⟨40, by omega, by omega, rfl, h11⟩
      case round =>
        clear h11
        obtain ⟨j, hj, hj2, rfl, h12⟩ := hrel
        by_cases hlt : j < 100
        · obtain ⟨cb, hcb⟩ : ∃ cb, want.getD j 0 = cb := ⟨_, rfl⟩
          have hg : G ((j : Int)).toNat = fullB cb := by rw [Int.toNat_natCast, Hwo.out.at' j hj hlt, hcb]
          have Hg := Lib.hid hg
          have Hcb := Lib.hid hcb
          clear hg hcb
          go_wp2_with fail
          refine (vread_any (i := (j : Int)) h12 HL2.out Hdl2.out (by omega) (by omega) (by omega) Hg.out).mono ?_
          rintro e w13 ⟨ad, cap, rfl, h13⟩
          have q0 : ∀ w' Q, Bears w' (rowA 5 1 (.slice ad 64 cap) 64 (cellsV (fullB cb)) * (Assn.obj sb (.cells (cellsV want).toArray 60 (0, 0)) * Q)) → w'.cell? ⟨sb, j, none⟩ = some (byteV cb) := by
            intro w' Q h
            have := h.pull2.byteCell (j := j) (by rw [Hwo.out.len]; exact hlt)
            rwa [Hcb.out] at this
          have h14 : Bears w13 (rowA 5 1 (.slice ad 64 cap) 64 (cellsV (fullB cb)) * (Assn.obj sb (.cells (cellsV want).toArray 60 (0, 0)) * (cvA c p x 100 0 40 G G 0 false * (diskA p d2 * (walObj x p 0 40 ((0 + 1 : Nat) : Int) * R))))) := h13.cast (by ac_rfl)
          obtain ⟨cn, hcn⟩ : ∃ cn : Int, (cb.toNat : Int) = cn := ⟨_, rfl⟩
          unfold byteV at q0
          rw [hcn] at q0
          have Hq := Lib.hid q0
          have Hcn := Lib.hid hcn
          clear q0 hcn h12 h13
          go_wp2_with fail
          refine wp_region_L (fun w' => ∃ Q, Bears w' (rowA 5 1 (.slice ad 64 cap) 64 (cellsV (fullB cb)) * (Assn.obj sb (.cells (cellsV want).toArray 60 (0, 0)) * Q))) 12
            [(true, 0), (true, 1), (true, 2), (true, 3), (true, 4), (true, 5), (true, 6), (true, 7), (false, 8), (false, 9), (true, 10), (true, 11)] [] (by kernel_rfl) (by kernel_rfl) ⟨_, h14.drew⟩ ?_
          simp only [pick, List.getElem?_cons_zero, List.getElem?_cons_succ]
          refine wpL_guarded (v := ?_) rfl (fun w' hS => ?_) ?_
          rotate_left
          · (go_simp; try with_reducible rfl)
          simp only [Act.put, List.setIfInBounds_toArray, List.set_cons_zero, List.set_cons_succ]
          refine wpL_guarded (v := ?_) rfl (fun w' hS => ?_) ?_
          rotate_left
          · (go_simp; try with_reducible rfl)
          simp only [Act.put, List.setIfInBounds_toArray, List.set_cons_zero, List.set_cons_succ]
          refine wpL_guarded (v := ?_) rfl (fun w' hS => ?_) ?_
          rotate_left
          · (go_simp; try with_reducible rfl)
          simp only [Act.put, List.setIfInBounds_toArray, List.set_cons_zero, List.set_cons_succ]
          refine wpL_guarded (v := ?_) rfl (fun w' hS => ?_) ?_
          rotate_left
          · (go_simp; try with_reducible rfl)
          simp only [Act.put, List.setIfInBounds_toArray, List.set_cons_zero, List.set_cons_succ]
          refine wpL_guarded rfl (fun w' hS => exec_convert rfl rfl (run_convert_in (by obtain ⟨_, hS⟩ := hS; exact rowA_bytes (fullB_length cb).symm _ hS))) ?_
          simp only [Act.put, List.setIfInBounds_toArray, List.set_cons_zero, List.set_cons_succ]
          refine wpL_guarded (v := ?_) rfl (fun w' hS => ?_) ?_
          rotate_left
          · (obtain ⟨_, hS⟩ := hS; have q0 := Hq.out _ _ hS; go_simp; try with_reducible rfl)
          simp only [Act.put, List.setIfInBounds_toArray, List.set_cons_zero, List.set_cons_succ]
          refine wpL_guarded (v := ?_) rfl (fun w' hS => ?_) ?_
          rotate_left
          · (obtain ⟨_, hS⟩ := hS; have q0 := Hq.out _ _ hS; go_simp; try with_reducible rfl)
          simp only [Act.put, List.setIfInBounds_toArray, List.set_cons_zero, List.set_cons_succ]
          refine wpL_guarded (v := ?_) rfl (fun w' hS => ?_) ?_
          rotate_left
          · (obtain ⟨_, hS⟩ := hS; have q0 := Hq.out _ _ hS; go_simp; try with_reducible rfl)
          simp only [Act.put, List.setIfInBounds_toArray, List.set_cons_zero, List.set_cons_succ]
          refine wpL_effG rfl ?_
          go_simp
          refine (full_num h14.drew cb Hcn.out).mono ?_
          rintro e w15 ⟨g2, rfl, h15⟩
          refine ⟨⟨_, h15.right⟩, ?_⟩
          refine wpL_effG rfl (wp_of_run (exec_convert rfl rfl (run_convert_in (BytesIn.tells _ _ (fullB_length cb).symm _ h15))) ⟨⟨_, h15.right⟩, ?_⟩)
          simp only [Act.put, List.setIfInBounds_toArray, List.set_cons_zero, List.set_cons_succ]
          refine wpL_guarded (v := ?_) rfl (fun w' hS => ?_) ?_
          rotate_left
          · (go_simp; try with_reducible rfl)
          simp only [Act.put, List.setIfInBounds_toArray, List.set_cons_zero, List.set_cons_succ]
          refine wpL_guarded (v := ?_) rfl (fun w' hS => ?_) ?_
          rotate_left
          · (go_simp; try with_reducible rfl)
          simp only [Act.put, List.setIfInBounds_toArray, List.set_cons_zero, List.set_cons_succ]
          refine wpL_nil ?_
          refine wpL_nil ?_
          go_wp2_with fail
          go_roundw
          case rel => exact ⟨j + 1, by omega, hlt, by go_num, h15.right.right.cast (by ac_rfl)⟩
          case measure => simp [intOf]; omega
        · go_wp2_with fail
          go_ret
          exact ⟨rfl, h12.right.right.right.right⟩

end Go.Proofs.Ytaiobekochhemaa
