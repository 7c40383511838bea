/- The walk of DiskSure; no condition. -/
import Derived.Test.YtcfdnkmllpphfaaPure1
import Derived.Test.YtcfdnkmllpphfaaLawC
import Derived.Deep.DeepCutAuto
import Derived.Deep.CutBlock
namespace Go.Proofs.Ytcfdnkmllpphfaa
open Go.RowKit Go.MapKept

def mod8 (i : Nat) : Nat := i % 8
def mod38 (i : Nat) : Nat := 3 * i % 8

set_option maxRecDepth 100000 in
set_option maxHeartbeats 1000000 in
theorem sure_any {R : Assn} {w : World} (h : Bears w R) (l1 l2 : List UInt8) (ks : List Int) (a1 a2 a3 : Option Addr) (c1 c2 c3 : Nat)
    (t1 : R.Tells (fun w => BytesIn w (.slice a1 l1.length c1) l1)) (t2 : R.Tells (fun w => BytesIn w (.slice a2 l2.length c2) l2)) (t3 : R.Tells (fun w => IntsIn w (.slice a3 ks.length c3) ks))
    (b1 : l1.length ≤ 9223372036854775807) (b2 : l2.length ≤ 9223372036854775807) (b3 : ks.length ≤ 9223372036854775807) (b4 : ∀ x ∈ ks, -9223372036854775808 ≤ x ∧ x ≤ 9223372036854775807) :
    Calls Try.prog 3 #[.slice a1 l1.length c1, .slice a2 l2.length c2, .slice a3 ks.length c3] w fun e w' => e = .returned (.bool true) ∧ Bears w' R := by
  go_enter Try.func3, Try.ntmps3
  go_wp2_with fail
  refine (shown_any h).mono ?_
  rintro e w1 ⟨rfl, h1⟩
  go_wp2_with fail
  refine (new_ok h1 8 (by omega) (by omega)).mono ?_
  rintro e w2 ⟨p, rfl, h2⟩
  clear h h1
  go_upto_block 0 with (fail)
  go_cut [11] (fun _ wr => ∃ d : DiskM, d.Plain ∧ d.len = 8 ∧ d.sure = (fun _ => zeroSec) ∧ d.waits = fulls mod8 l1 (min l1.length 60) ∧
      Bears wr (Assn.obj w2.heap.size (.cells (cellsV (lasts mod8 l1 (min l1.length 60))).toArray 29 (0, 0)) * (diskA p d * R)))
  case first =>
    go_wp2_with fail
    go_loopw [11] (fun i wr => ∃ k : Nat, k ≤ l1.length ∧ k ≤ 60 ∧ i = .int .i64 k ∧ ∃ d : DiskM, d.Plain ∧ d.len = 8 ∧ d.sure = (fun _ => zeroSec) ∧ d.waits = fulls mod8 l1 k ∧
        Bears wr (Assn.obj w2.heap.size (.cells (cellsV (lasts mod8 l1 k)).toArray 29 (0, 0)) * (diskA p d * R)))
      (fun i _ => 60 - (intOf i).toNat)
    case atStart => exact ⟨0, by omega, by omega, rfl, _, DiskM.new_plain 8, rfl, rfl, rfl, (h2.alloc _)⟩
    case round =>
      obtain ⟨k, hk, hk60, rfl, d, hd, hd8, hds, hdw, h3⟩ := hrel
      have hdl : d.waits.length < 1099511627776 := by rw [hdw]; simp [fulls]; omega
      have hw := d.put
      by_cases hlt : k < l1.length ∧ k < 60
      · obtain ⟨hlt, hlt60⟩ := hlt
        obtain ⟨b, o, rfl, hcell⟩ := (t1 _ h3.right.right).cell hlt
        have m0 : (0 : Int) ≤ (k : Int) % 8 := by omega
        have m1 : (k : Int) % 8 < 8 := by omega
        have e1 := fulls_succ mod8 l1 k
        have e2 : lasts mod8 l1 (k + 1) = (lasts mod8 l1 k).set (mod8 k) (l1.getD k 0) := rfl
        generalize hc : l1.getD k 0 = c at hcell e1 e2
        have HW := Lib.hid (hd.write' (i := (k : Int) % 8) (n := mod8 k) (by unfold mod8; omega) (by rw [hd8]; unfold mod8; omega) (fullS_length c))
        have Hdw := Lib.hid hdw
        have Hds := Lib.hid hds
        have Hd8 := Lib.hid hd8
        have E1 := Lib.hid e1
        have E2 := Lib.hid e2
        have Hc := Lib.hid hc
        clear hdw hds hd8 hc e1 e2
        go_wp2_with fail
        refine (full_any h3 c).mono ?_
        rintro e w4 ⟨g, rfl, h4⟩
        go_wp2_with fail
        refine (write_to h4.pull3 HW.out (BytesIn.tells _ _ rfl) hdl).mono ?_
        rintro e w5 ⟨rfl, h5⟩
        have h6 := h5.pull2.right.pull2
        clear h3 h4 h5
        obtain ⟨b', o', he, hcell2⟩ := (t1 _ h6.right.right).cell hlt
        cases he
        rw [Hc.out] at hcell2
        have hc2 := h6.byteCell (j := k % 8) (by rw [lasts_length]; omega)
        have hf2 := frozen_of_obj h6.obj (k % 8)
        generalize (lasts mod8 l1 k).getD (k % 8) 0 = old at hc2
        go_wp2_with fail
        go_roundw
        case rel =>
          refine ⟨k + 1, hlt, hlt60, by go_num, d.put (mod8 k) (fullS c), hd.put _ _, Hd8.out, Hds.out, ?_, ?_⟩
          · rw [E1.out, ← Hdw.out]; rfl
          · rw [E2.out]
            exact h6.setByte (k % 8) c
        case measure => simp [intOf]; omega
      · go_wp2_with fail
        all_goals
          go_meet
          case rel =>
            have hkk : k = min l1.length 60 := by omega
            rw [← hkk]
            exact ⟨d, hd, hd8, hds, hdw, h3⟩
  case rest =>
    obtain ⟨d, hd, hd8, hds, hdw, h3⟩ := hcut
    generalize hn1 : min l1.length 60 = n1 at hdw h3
    have hdl : d.waits.length < 1099511627776 := by rw [hdw]; simp [fulls]; omega
    have Hdw := Lib.hid hdw
    have Hds := Lib.hid hds
    have Hd8 := Lib.hid hd8
    clear hdw hds hd8 hn1
    go_wp2_with fail
    refine (barrier_to h3.pull2 hd.barrier hdl).mono ?_
    rintro e w4 ⟨rfl, h4⟩
    have hb := hd.bar
    have hbs : d.bar.sure = settle (fun _ => zeroSec) (fulls mod8 l1 n1) := by show settle d.sure d.waits = _; rw [Hds.out, Hdw.out]
    have hb8 : d.bar.len = 8 := Hd8.out
    have hbw : d.bar.waits = [] := rfl
    generalize d.bar = d1 at hb hbs hb8 hbw h4
    go_upto_block 2 with (fail)
    go_cut [13] (fun _ wr => ∃ d : DiskM, d.Plain ∧ d.len = 8 ∧ d.sure = settle (fun _ => zeroSec) (fulls mod8 l1 n1) ∧ d.waits = fulls mod38 l2 (min l2.length 60) ∧
      Bears wr (diskA p d * (Assn.obj w2.heap.size (.cells (cellsV (lasts mod8 l1 n1)).toArray 29 (0, 0)) * R)))
    case first =>
      go_wp2_with fail
      go_loopw [13] (fun i wr => ∃ k : Nat, k ≤ l2.length ∧ k ≤ 60 ∧ i = .int .i64 k ∧ ∃ d : DiskM, d.Plain ∧ d.len = 8 ∧ d.sure = settle (fun _ => zeroSec) (fulls mod8 l1 n1) ∧ d.waits = fulls mod38 l2 k ∧
          Bears wr (diskA p d * (Assn.obj w2.heap.size (.cells (cellsV (lasts mod8 l1 n1)).toArray 29 (0, 0)) * R)))
        (fun i _ => 60 - (intOf i).toNat)
      case atStart => exact ⟨0, by omega, by omega, rfl, d1, hb, hb8, hbs, hbw, h4⟩
      case round =>
        obtain ⟨k, hk, hk60, rfl, d, hd, hd8, hds, hdw, h3⟩ := hrel
        have hdl : d.waits.length < 1099511627776 := by rw [hdw]; simp [fulls]; omega
        by_cases hlt : k < l2.length ∧ k < 60
        · obtain ⟨hlt, hlt60⟩ := hlt
          obtain ⟨b, o, rfl, hcell⟩ := (t2 _ h3.right.right).cell hlt
          have m0 : (0 : Int) ≤ 3 * (k : Int) % 8 := by omega
          have m1 : 3 * (k : Int) % 8 < 8 := by omega
          have e1 := fulls_succ mod38 l2 k
          generalize hc : l2.getD k 0 = c at hcell e1
          have HW := Lib.hid (hd.write' (i := 3 * (k : Int) % 8) (n := mod38 k) (by unfold mod38; omega) (by rw [hd8]; unfold mod38; omega) (fullS_length c))
          have Hdw := Lib.hid hdw
          have Hds := Lib.hid hds
          have Hd8 := Lib.hid hd8
          have E1 := Lib.hid e1
          clear hdw hds hd8 hc e1
          go_wp2_with fail
          refine (full_any h3 c).mono ?_
          rintro e w5 ⟨g, rfl, h5⟩
          go_wp2_with fail
          refine (write_to h5.pull2 HW.out (BytesIn.tells _ _ rfl) hdl).mono ?_
          rintro e w6 ⟨rfl, h6⟩
          have h7 := h6.pull2.right
          clear h3 h5 h6
          go_wp2_with fail
          go_roundw
          case rel =>
            refine ⟨k + 1, hlt, hlt60, by go_num, d.put (mod38 k) (fullS c), hd.put _ _, Hd8.out, Hds.out, ?_, h7⟩
            rw [E1.out, ← Hdw.out]; rfl
          case measure => simp [intOf]; omega
        · go_wp2_with fail
          all_goals
            go_meet
            case rel =>
              have hkk : k = min l2.length 60 := by omega
              rw [← hkk]
              exact ⟨d, hd, hd8, hds, hdw, h3⟩
    case rest =>
      obtain ⟨d, hd, hd8, hds, hdw, h5⟩ := hcut
      generalize hn2 : min l2.length 60 = n2 at hdw
      have hdl : d.waits.length < 1099511627776 := by rw [hdw]; simp [fulls]; omega
      have Hdw := Lib.hid hdw
      have Hds := Lib.hid hds
      have Hd8 := Lib.hid hd8
      have Hn2 := Lib.hid hn2
      clear hdw hds hd8 hn2
      go_wp2_with fail
      refine (boot_to (d' := d.boot ks) ks h5 rfl rfl t3.right b4 b3 hdl).mono ?_
      rintro e w6 ⟨rfl, h6⟩
      go_wp2_with fail
      refine (waiting_any h6).mono ?_
      rintro e w' ⟨rfl, rfl⟩
      rw [show (((d.boot ks).waits.length : Nat) : Int) = 0 from rfl]
      go_upto_block 4 with (fail)
      have hb1 := d.boot_plain ks
      have hb8 : (d.boot ks).len = 8 := Hd8.out
      have hall : ∀ j, j < 8 → okB ((d.boot ks).now j) ((lasts mod8 l1 n1).getD j 0) l2 j n2 = true := by
        intro j hj
        have e : (d.boot ks).now j = settle (settle (fun _ => zeroSec) (fulls mod8 l1 n1)) (kept ks 0 (fulls mod38 l2 n2)) j := by
          show settle (settle d.sure (kept ks 0 d.waits)) [] j = _
          rw [Hds.out, Hdw.out]; rfl
        rcases settle_or (settle (fun _ => zeroSec) (fulls mod8 l1 n1)) (kept ks 0 (fulls mod38 l2 n2)) j with h1 | ⟨q, hq, h1, h2⟩
        · exact okB_first _ _ (by rw [e, h1, settle_fulls mod8 l1 n1 j hj]) _
        · have hq2 := kept_sub ks _ _ q hq
          simp only [fulls, List.mem_map, List.mem_range] at hq2
          obtain ⟨i, hi, rfl⟩ := hq2
          exact okB_some _ _ _ h1 (by rw [e, h2]) n2 hi
      generalize d.boot ks = D at h6 hb1 hb8 hall
      go_wp2_with fail
      go_loopw [14] (fun i wr => ∃ j : Nat, j ≤ 8 ∧ i = .int .i64 j ∧ Bears wr (diskA p D * (Assn.obj w2.heap.size (.cells (cellsV (lasts mod8 l1 n1)).toArray 29 (0, 0)) * R)))
        (fun i _ => 8 - (intOf i).toNat)
      case atStart => exact ⟨0, by omega, rfl, h6⟩
      case round =>
        obtain ⟨j, hj, rfl, h7⟩ := hrel
        by_cases hlt : j < 8
        · have hck := hb1.check (i := j) (by omega)
          have hok := hall j hlt
          have Hlast := lasts_length mod8 l1 n1
          generalize lasts mod8 l1 n1 = want at h7 hok Hlast
          have hl64 : Hid ((D.now j).length = 64) := by obtain ⟨_, _, _, _, _, hwf, _⟩ := Bears.disk.1 h7; exact hwf.now j
          have hck' := Lib.hid hck
          have Hok := Lib.hid hok
          have HL := Lib.hid Hlast
          clear hck hok Hlast
          go_wp2_with fail
          refine (read_to (s := D.now j) j h7 hck'.out rfl).mono ?_
          rintro e w8 ⟨g, rfl, h8⟩
          go_wp2_with fail
          have hc8 := h8.pull3.byteCell (j := j) (by rw [HL.out]; omega)
          generalize want.getD j 0 = c at hc8 Hok
          refine wp_region_L (fun w' => Bears w' (Assn.obj g (.cells (cellsV (D.now j)).toArray 61 (0, 0)) * (diskA p D * (Assn.obj w2.heap.size (.cells (cellsV want).toArray 29 (0, 0)) * R)))) 8
            [(true, 0), (true, 1), (true, 2), (true, 3), (false, 4), (false, 5), (false, 6), (true, 7)] [(true, 8)] (by kernel_rfl) (by kernel_rfl) h8.drew ?_
          simp only [pick, List.getElem?_cons_zero, List.getElem?_cons_succ]
          refine wpL_yield (v := ?_) rfl (fun w' hS => ?_) ?_
          rotate_left
          · (go_simp; try with_reducible rfl)
          simp only [Act.put, List.setIfInBounds_toArray, List.set_cons_zero, List.set_cons_succ]
          refine wpL_yield rfl (fun w' hS => exec_convert rfl rfl (run_convert_in (BytesIn.tells _ _ (by rw [hl64.out]) _ hS))) ?_
          simp only [Act.put, List.setIfInBounds_toArray, List.set_cons_zero, List.set_cons_succ]
          refine wpL_yield (v := ?_) rfl (fun w' hS => ?_) ?_
          rotate_left
          · (go_simp; try with_reducible rfl)
          simp only [Act.put, List.setIfInBounds_toArray, List.set_cons_zero, List.set_cons_succ]
          refine wpL_yield (v := ?_) rfl (fun w' hS => ?_) ?_
          rotate_left
          · (go_simp; try with_reducible rfl)
          simp only [Act.put, List.setIfInBounds_toArray, List.set_cons_zero, List.set_cons_succ]
          refine wpL_eff rfl ?_
          go_simp
          refine ⟨h8.drew, ?_⟩
          refine wpL_eff rfl ?_
          go_simp
          refine (full_any h8.drew c).mono ?_
          rintro e w9 ⟨g2, rfl, h9⟩
          refine ⟨h9.right, ?_⟩
          refine wpL_eff rfl (wp_of_run (exec_convert rfl rfl (run_convert_in (BytesIn.tells _ _ rfl _ h9))) ⟨h9.right, ?_⟩)
          simp only [Act.put, List.setIfInBounds_toArray, List.set_cons_zero, List.set_cons_succ]
          refine wpL_yield (v := ?_) rfl (fun w' hS => ?_) ?_
          rotate_left
          · (go_simp; try with_reducible rfl)
          simp only [Act.put, List.setIfInBounds_toArray, List.set_cons_zero, List.set_cons_succ]
          refine wpL_nil ?_
          refine wpL_yield (v := ?_) rfl (fun w' hS => ?_) ?_
          rotate_left
          · (go_simp; try with_reducible rfl)
          simp only [Act.put, List.setIfInBounds_toArray, List.set_cons_zero, List.set_cons_succ]
          refine wpL_nil ?_
          have h10 := h9.right
          clear h8 h9 hc8
          go_upto_block 6 with (fail)
          go_cut [17, 18] (fun s17 _ wr => s17 = .bool true ∧ Bears wr (Assn.obj g (.cells (cellsV (D.now j)).toArray 61 (0, 0)) * (diskA p D * (Assn.obj w2.heap.size (.cells (cellsV want).toArray 29 (0, 0)) * R))))
          case first =>
            go_wp2_with fail
            go_loopw [17, 18] (fun s17 s18 wr => ∃ i : Nat, i ≤ l2.length ∧ i ≤ 60 ∧ s18 = .int .i64 i ∧ s17 = .bool (okB (D.now j) c l2 j i) ∧
                Bears wr (Assn.obj g (.cells (cellsV (D.now j)).toArray 61 (0, 0)) * (diskA p D * (Assn.obj w2.heap.size (.cells (cellsV want).toArray 29 (0, 0)) * R))))
              (fun _ i _ => 60 - (intOf i).toNat)
            case atStart => exact ⟨0, by omega, by omega, rfl, rfl, h10⟩
            case round =>
              obtain ⟨i, hi, hi60, rfl, rfl, h11⟩ := hrel
              by_cases hlt : i < l2.length ∧ i < 60
              · obtain ⟨hlt, hlt60⟩ := hlt
                have e3 : okB (D.now j) c l2 j (i + 1) = (okB (D.now j) c l2 j i || (decide (3 * i % 8 = j) && (D.now j == fullS (l2.getD i 0)))) := rfl
                generalize okB (D.now j) c l2 j i = ob at e3
                have E3 := Lib.hid e3
                clear e3
                cases ob with
                | true =>
                  go_wp2_with fail
                  refine wp_region_L (fun _ => True) 19 [(true, 0), (true, 1), (true, 2), (true, 3), (true, 4), (true, 5), (true, 6), (true, 7), (true, 8), (true, 9), (true, 10), (true, 11), (true, 12), (true, 13), (true, 14), (true, 15), (true, 16), (true, 17), (true, 18)] [(true, 19)] (by kernel_rfl) (by kernel_rfl) trivial ?_
                  simp only [pick, List.getElem?_cons_zero, List.getElem?_cons_succ]
                  refine wpL_yield (v := ?_) rfl (fun w' hS => ?_) ?_
                  rotate_left
                  · (go_simp; try with_reducible rfl)
                  simp only [Act.put, List.setIfInBounds_toArray, List.set_cons_zero, List.set_cons_succ]
                  refine wpL_yield (v := ?_) rfl (fun w' hS => ?_) ?_
                  rotate_left
                  · (go_simp; try with_reducible rfl)
                  simp only [Act.put, List.setIfInBounds_toArray, List.set_cons_zero, List.set_cons_succ]
                  refine wpL_skip rfl ?_
                  simp only [Act.put, List.setIfInBounds_toArray, List.set_cons_zero, List.set_cons_succ]
                  refine wpL_skip rfl ?_
                  simp only [Act.put, List.setIfInBounds_toArray, List.set_cons_zero, List.set_cons_succ]
                  refine wpL_skip rfl ?_
                  simp only [Act.put, List.setIfInBounds_toArray, List.set_cons_zero, List.set_cons_succ]
                  refine wpL_skip rfl ?_
                  simp only [Act.put, List.setIfInBounds_toArray, List.set_cons_zero, List.set_cons_succ]
                  refine wpL_skip rfl ?_
                  simp only [Act.put, List.setIfInBounds_toArray, List.set_cons_zero, List.set_cons_succ]
                  refine wpL_skip rfl ?_
                  simp only [Act.put, List.setIfInBounds_toArray, List.set_cons_zero, List.set_cons_succ]
                  refine wpL_skip rfl ?_
                  simp only [Act.put, List.setIfInBounds_toArray, List.set_cons_zero, List.set_cons_succ]
                  refine wpL_skip rfl ?_
                  simp only [Act.put, List.setIfInBounds_toArray, List.set_cons_zero, List.set_cons_succ]
                  refine wpL_skip rfl ?_
                  simp only [Act.put, List.setIfInBounds_toArray, List.set_cons_zero, List.set_cons_succ]
                  refine wpL_skip rfl ?_
                  simp only [Act.put, List.setIfInBounds_toArray, List.set_cons_zero, List.set_cons_succ]
                  refine wpL_skip rfl ?_
                  simp only [Act.put, List.setIfInBounds_toArray, List.set_cons_zero, List.set_cons_succ]
                  refine wpL_skip rfl ?_
                  simp only [Act.put, List.setIfInBounds_toArray, List.set_cons_zero, List.set_cons_succ]
                  refine wpL_skip rfl ?_
                  simp only [Act.put, List.setIfInBounds_toArray, List.set_cons_zero, List.set_cons_succ]
                  refine wpL_skip rfl ?_
                  simp only [Act.put, List.setIfInBounds_toArray, List.set_cons_zero, List.set_cons_succ]
                  refine wpL_skip rfl ?_
                  simp only [Act.put, List.setIfInBounds_toArray, List.set_cons_zero, List.set_cons_succ]
                  refine wpL_skip rfl ?_
                  simp only [Act.put, List.setIfInBounds_toArray, List.set_cons_zero, List.set_cons_succ]
                  refine wpL_yield (v := ?_) rfl (fun w' hS => ?_) ?_
                  rotate_left
                  · (go_simp; try with_reducible rfl)
                  simp only [Act.put, List.setIfInBounds_toArray, List.set_cons_zero, List.set_cons_succ]
                  refine wpL_nil ?_
                  refine wpL_yield (v := ?_) rfl (fun w' hS => ?_) ?_
                  rotate_left
                  · (go_simp; try with_reducible rfl)
                  simp only [Act.put, List.setIfInBounds_toArray, List.set_cons_zero, List.set_cons_succ]
                  refine wpL_nil ?_
                  go_wp2
                  go_roundw
                  case rel => exact ⟨i + 1, hlt, hlt60, by go_num, by rw [E3.out]; rfl, h11.drew⟩
                  case measure => simp [intOf]; omega
                | false =>
                  by_cases hij : 3 * i % 8 = j
                  · have q1 : ((3 * (i : Int) % 8) == (j : Int)) = true := by rw [beq_iff_eq]; omega
                    have hw1 : IntKind.i64.wrap (3 * (i : Int)) = 3 * (i : Int) := IntWalk.i64_in _ (by omega)
                    have hw2 : (3 * (i : Int)).tmod 8 = 3 * (i : Int) % 8 := Int.tmod_eq_emod_of_nonneg (by omega)
                    have Hij := Lib.hid hij
                    clear hij
                    obtain ⟨b, o, rfl, hcell⟩ := (t2 _ h11.right.right.right).cell hlt
                    generalize l2.getD i 0 = c' at hcell E3
                    go_wp2_with fail
                    refine wp_region_L (fun w' => Bears w' (Assn.obj g (.cells (cellsV (D.now j)).toArray 61 (0, 0)) * (diskA p D * (Assn.obj w2.heap.size (.cells (cellsV want).toArray 29 (0, 0)) * R)))) 19
                      [(true, 0), (true, 1), (true, 2), (true, 3), (true, 4), (true, 5), (true, 6), (true, 7), (true, 8), (true, 9), (true, 10), (true, 11), (true, 12), (false, 13), (false, 14), (false, 15), (true, 16), (true, 17), (true, 18)] [(true, 19)] (by kernel_rfl) (by kernel_rfl) h11.drew ?_
                    simp only [pick, List.getElem?_cons_zero, List.getElem?_cons_succ]
                    refine wpL_guarded (v := ?_) rfl (fun w' hS => ?_) ?_
                    rotate_left
                    · (go_simp; try with_reducible rfl)
                    simp only [Act.put, List.setIfInBounds_toArray, List.set_cons_zero, List.set_cons_succ]
                    refine wpL_guarded (v := ?_) rfl (fun w' hS => ?_) ?_
                    rotate_left
                    · (go_simp; try with_reducible rfl)
                    simp only [Act.put, List.setIfInBounds_toArray, List.set_cons_zero, List.set_cons_succ]
                    refine wpL_guarded (v := ?_) rfl (fun w' hS => ?_) ?_
                    rotate_left
                    · (go_simp; try with_reducible rfl)
                    simp only [Act.put, List.setIfInBounds_toArray, List.set_cons_zero, List.set_cons_succ]
                    refine wpL_guarded (v := ?_) rfl (fun w' hS => ?_) ?_
                    rotate_left
                    · (go_simp; try with_reducible rfl)
                    simp only [Act.put, List.setIfInBounds_toArray, List.set_cons_zero, List.set_cons_succ]
                    refine wpL_guarded (v := ?_) rfl (fun w' hS => ?_) ?_
                    rotate_left
                    · (go_simp; try with_reducible rfl)
                    simp only [Act.put, List.setIfInBounds_toArray, List.set_cons_zero, List.set_cons_succ]
                    refine wpL_guarded (v := ?_) rfl (fun w' hS => ?_) ?_
                    rotate_left
                    · (go_simp; try with_reducible rfl)
                    simp only [Act.put, List.setIfInBounds_toArray, List.set_cons_zero, List.set_cons_succ]
                    refine wpL_guarded (v := ?_) rfl (fun w' hS => ?_) ?_
                    rotate_left
                    · (go_simp; try with_reducible rfl)
                    simp only [Act.put, List.setIfInBounds_toArray, List.set_cons_zero, List.set_cons_succ]
                    refine wpL_guarded (v := ?_) rfl (fun w' hS => ?_) ?_
                    rotate_left
                    · (go_simp; try with_reducible rfl)
                    simp only [Act.put, List.setIfInBounds_toArray, List.set_cons_zero, List.set_cons_succ]
                    refine wpL_guarded (v := ?_) rfl (fun w' hS => ?_) ?_
                    rotate_left
                    · (go_simp; try with_reducible rfl)
                    simp only [Act.put, List.setIfInBounds_toArray, List.set_cons_zero, List.set_cons_succ]
                    refine wpL_guarded rfl (fun w' hS => exec_convert rfl rfl (run_convert_in (BytesIn.tells _ _ (by rw [hl64.out]) _ hS))) ?_
                    simp only [Act.put, List.setIfInBounds_toArray, List.set_cons_zero, List.set_cons_succ]
                    refine wpL_guarded (v := ?_) rfl (fun w' hS => ?_) ?_
                    rotate_left
                    · (go_simp; try with_reducible rfl)
                    simp only [Act.put, List.setIfInBounds_toArray, List.set_cons_zero, List.set_cons_succ]
                    refine wpL_guarded (v := ?_) rfl (fun w' hS => ?_) ?_
                    rotate_left
                    · (go_simp; try with_reducible rfl)
                    simp only [Act.put, List.setIfInBounds_toArray, List.set_cons_zero, List.set_cons_succ]
                    refine wpL_guarded (v := ?_) rfl (fun w' hS => ?_) ?_
                    rotate_left
                    · (go_simp; try with_reducible rfl)
                    simp only [Act.put, List.setIfInBounds_toArray, List.set_cons_zero, List.set_cons_succ]
                    refine wpL_effG rfl ?_
                    go_simp
                    refine ⟨h11.drew, ?_⟩
                    refine wpL_effG rfl ?_
                    go_simp
                    refine (full_any h11.drew c').mono ?_
                    rintro e w9 ⟨g2, rfl, h9⟩
                    refine ⟨h9.right, ?_⟩
                    refine wpL_effG rfl (wp_of_run (exec_convert rfl rfl (run_convert_in (BytesIn.tells _ _ rfl _ h9))) ⟨h9.right, ?_⟩)
                    simp only [Act.put, List.setIfInBounds_toArray, List.set_cons_zero, List.set_cons_succ]
                    refine wpL_guarded (v := ?_) rfl (fun w' hS => ?_) ?_
                    rotate_left
                    · (go_simp; try with_reducible rfl)
                    simp only [Act.put, List.setIfInBounds_toArray, List.set_cons_zero, List.set_cons_succ]
                    refine wpL_guarded (v := ?_) rfl (fun w' hS => ?_) ?_
                    rotate_left
                    · (go_simp; try with_reducible rfl)
                    simp only [Act.put, List.setIfInBounds_toArray, List.set_cons_zero, List.set_cons_succ]
                    refine wpL_guarded (v := ?_) rfl (fun w' hS => ?_) ?_
                    rotate_left
                    · (go_simp; try with_reducible rfl)
                    simp only [Act.put, List.setIfInBounds_toArray, List.set_cons_zero, List.set_cons_succ]
                    refine wpL_nil ?_
                    refine wpL_yield (v := ?_) rfl (fun w' hS => ?_) ?_
                    rotate_left
                    · (go_simp; try with_reducible rfl)
                    simp only [Act.put, List.setIfInBounds_toArray, List.set_cons_zero, List.set_cons_succ]
                    refine wpL_nil ?_
                    go_wp2
                    go_roundw
                    case rel => exact ⟨i + 1, hlt, hlt60, by go_num, by rw [E3.out]; simp [Hij.out], h9.right⟩
                    case measure => simp [intOf]; omega
                  · have q1 : ((3 * (i : Int) % 8) == (j : Int)) = false := by rw [beq_eq_false_iff_ne]; omega
                    have hw1 : IntKind.i64.wrap (3 * (i : Int)) = 3 * (i : Int) := IntWalk.i64_in _ (by omega)
                    have hw2 : (3 * (i : Int)).tmod 8 = 3 * (i : Int) % 8 := Int.tmod_eq_emod_of_nonneg (by omega)
                    have Hij := Lib.hid hij
                    clear hij
                    go_wp2_with fail
                    refine wp_region_L (fun _ => True) 19 [(true, 0), (true, 1), (true, 2), (true, 3), (true, 4), (true, 5), (true, 6), (true, 7), (true, 8), (true, 9), (true, 10), (true, 11), (true, 12), (true, 13), (true, 14), (true, 15), (true, 16), (true, 17), (true, 18)] [(true, 19)] (by kernel_rfl) (by kernel_rfl) trivial ?_
                    simp only [pick, List.getElem?_cons_zero, List.getElem?_cons_succ]
                    refine wpL_guarded (v := ?_) rfl (fun w' hS => ?_) ?_
                    rotate_left
                    · (go_simp; try with_reducible rfl)
                    simp only [Act.put, List.setIfInBounds_toArray, List.set_cons_zero, List.set_cons_succ]
                    refine wpL_guarded (v := ?_) rfl (fun w' hS => ?_) ?_
                    rotate_left
                    · (go_simp; try with_reducible rfl)
                    simp only [Act.put, List.setIfInBounds_toArray, List.set_cons_zero, List.set_cons_succ]
                    refine wpL_guarded (v := ?_) rfl (fun w' hS => ?_) ?_
                    rotate_left
                    · (go_simp; try with_reducible rfl)
                    simp only [Act.put, List.setIfInBounds_toArray, List.set_cons_zero, List.set_cons_succ]
                    refine wpL_guarded (v := ?_) rfl (fun w' hS => ?_) ?_
                    rotate_left
                    · (go_simp; try with_reducible rfl)
                    simp only [Act.put, List.setIfInBounds_toArray, List.set_cons_zero, List.set_cons_succ]
                    refine wpL_guarded (v := ?_) rfl (fun w' hS => ?_) ?_
                    rotate_left
                    · (go_simp; try with_reducible rfl)
                    simp only [Act.put, List.setIfInBounds_toArray, List.set_cons_zero, List.set_cons_succ]
                    refine wpL_guarded (v := ?_) rfl (fun w' hS => ?_) ?_
                    rotate_left
                    · (go_simp; try with_reducible rfl)
                    simp only [Act.put, List.setIfInBounds_toArray, List.set_cons_zero, List.set_cons_succ]
                    refine wpL_guarded (v := ?_) rfl (fun w' hS => ?_) ?_
                    rotate_left
                    · (go_simp; try with_reducible rfl)
                    simp only [Act.put, List.setIfInBounds_toArray, List.set_cons_zero, List.set_cons_succ]
                    refine wpL_guarded (v := ?_) rfl (fun w' hS => ?_) ?_
                    rotate_left
                    · (go_simp; try with_reducible rfl)
                    simp only [Act.put, List.setIfInBounds_toArray, List.set_cons_zero, List.set_cons_succ]
                    refine wpL_skip rfl ?_
                    simp only [Act.put, List.setIfInBounds_toArray, List.set_cons_zero, List.set_cons_succ]
                    refine wpL_skip rfl ?_
                    simp only [Act.put, List.setIfInBounds_toArray, List.set_cons_zero, List.set_cons_succ]
                    refine wpL_skip rfl ?_
                    simp only [Act.put, List.setIfInBounds_toArray, List.set_cons_zero, List.set_cons_succ]
                    refine wpL_skip rfl ?_
                    simp only [Act.put, List.setIfInBounds_toArray, List.set_cons_zero, List.set_cons_succ]
                    refine wpL_skip rfl ?_
                    simp only [Act.put, List.setIfInBounds_toArray, List.set_cons_zero, List.set_cons_succ]
                    refine wpL_skip rfl ?_
                    simp only [Act.put, List.setIfInBounds_toArray, List.set_cons_zero, List.set_cons_succ]
                    refine wpL_skip rfl ?_
                    simp only [Act.put, List.setIfInBounds_toArray, List.set_cons_zero, List.set_cons_succ]
                    refine wpL_skip rfl ?_
                    simp only [Act.put, List.setIfInBounds_toArray, List.set_cons_zero, List.set_cons_succ]
                    refine wpL_skip rfl ?_
                    simp only [Act.put, List.setIfInBounds_toArray, List.set_cons_zero, List.set_cons_succ]
                    refine wpL_guarded (v := ?_) rfl (fun w' hS => ?_) ?_
                    rotate_left
                    · (go_simp; try with_reducible rfl)
                    simp only [Act.put, List.setIfInBounds_toArray, List.set_cons_zero, List.set_cons_succ]
                    refine wpL_guarded (v := ?_) rfl (fun w' hS => ?_) ?_
                    rotate_left
                    · (go_simp; try with_reducible rfl)
                    simp only [Act.put, List.setIfInBounds_toArray, List.set_cons_zero, List.set_cons_succ]
                    refine wpL_nil ?_
                    refine wpL_yield (v := ?_) rfl (fun w' hS => ?_) ?_
                    rotate_left
                    · (go_simp; try with_reducible rfl)
                    simp only [Act.put, List.setIfInBounds_toArray, List.set_cons_zero, List.set_cons_succ]
                    refine wpL_nil ?_
                    go_wp2
                    go_roundw
                    case rel => exact ⟨i + 1, hlt, hlt60, by go_num, by rw [E3.out]; simp [Hij.out], h11.drew⟩
                    case measure => simp [intOf]; omega
              · go_wp2_with fail
                all_goals
                  go_meet
                  case rel =>
                    have hkk : i = n2 := by have := Hn2.out; omega
                    subst hkk
                    exact ⟨by rw [Hok.out], h11⟩
          case rest =>
            obtain ⟨rfl, h11⟩ := hcut
            go_wp2_with fail
            go_roundw
            case rel => exact ⟨j + 1, by omega, by go_num, h11.right⟩
            case measure => simp [intOf]; omega
        · go_wp2
          go_ret
          exact ⟨rfl, h7.right.right⟩

end Go.Proofs.Ytcfdnkmllpphfaa
