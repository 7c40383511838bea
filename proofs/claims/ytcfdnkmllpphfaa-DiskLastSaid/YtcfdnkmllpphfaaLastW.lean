/- The walk of DiskLast; no condition. -/
import Derived.Test.YtcfdnkmllpphfaaApartW
import Derived.Test.YtcfdnkmllpphfaaOps
namespace Go.Proofs.Ytcfdnkmllpphfaa
open Go.RowKit Go.MapKept

theorem Full8.bar {d : DiskM} {l : List UInt8} {n : Nat} (h : Full8 d l n) : Full8 d.bar l n :=
  ⟨h.plain.bar, h.len, h.eight, h.now, Nat.zero_le _⟩

theorem kind_lt (c : Int) (n : Nat) (hn : 0 < n) : ∃ m : Nat, m < n ∧ (if c < 0 then (-(c + 1)) % (n : Int) else c % (n : Int)) = (m : Int) := by
  have h : 0 ≤ (if c < 0 then (-(c + 1)) % (n : Int) else c % (n : Int)) ∧ (if c < 0 then (-(c + 1)) % (n : Int) else c % (n : Int)) < (n : Int) := by
    split
    · exact ⟨Int.emod_nonneg _ (by omega), Int.emod_lt_of_pos _ (by omega)⟩
    · exact ⟨Int.emod_nonneg _ (by omega), Int.emod_lt_of_pos _ (by omega)⟩
  exact ⟨(if c < 0 then (-(c + 1)) % (n : Int) else c % (n : Int)).toNat, by omega, by omega⟩

set_option maxRecDepth 100000 in
set_option maxHeartbeats 1600000 in
theorem last_any {R : Assn} {w : World} (h : Bears w R) (l : List OpM) (a0 : Option Addr) (c0 : Nat)
    (t0 : R.Tells (fun w => OpsIn w (.slice a0 l.length c0) l)) (b0 : l.length ≤ 9223372036854775807) (hl : ∀ k, k < l.length → (l.getD k default).Fine) :
    Calls Try.prog 4 #[.slice a0 l.length c0] w fun e w' => e = .returned (.bool true) ∧ Bears w' R := by
  go_enter Try.func4, Try.ntmps4
  go_wp2_with fail
  refine (shown_any h).mono ?_
  rintro e w1 ⟨rfl, h1⟩
  go_wp2_with fail
  refine (new_ok h1 8 (by omega) (by omega)).mono ?_
  rintro e w2 ⟨p, rfl, h2⟩
  clear h h1
  have hd := Full8.new
  generalize DiskM.new 8 = d0 at h2 hd
  go_upto_block 0 with (fail)
  have h4 := h2.alloc (.cells (cellsV (List.replicate 8 0)).toArray 29)
  clear h2
  go_wp2_with fail
  go_loopw [7] (fun i wr => ∃ k : Nat, k ≤ l.length ∧ k ≤ 100 ∧ i = .int .i64 k ∧ ∃ (d : DiskM) (has : List UInt8), Full8 d has k ∧ Bears wr (Assn.obj w2.heap.size (.cells (cellsV has).toArray 29 (0, 0)) * (diskA p d * R)))
    (fun i _ => 100 - (intOf i).toNat)
  case atStart => exact ⟨0, by omega, by omega, rfl, _, _, hd, h4⟩
  case round =>
    obtain ⟨k, hk, hkN, rfl, d, has, hd, h5⟩ := hrel
    by_cases hlt : k < l.length ∧ k < 100
    · obtain ⟨hlt, hltN⟩ := hlt
      obtain ⟨b, o, rfl, cl0, cl1, _, cl3, _⟩ := (t0 _ h5.right.right).cells hlt
      have hop := hl k hlt
      generalize hc : l.getD k default = op at cl0 cl1 cl3 hop
      obtain ⟨s, hs, hks⟩ := kind_lt op.at' 8 (by omega)
      rw [show ((8 : Nat) : Int) = 8 from rfl] at hks
      have HW := Lib.hid (hd.write (i := (s : Int)) (k := s) rfl hs op.byte)
      have hdl : d.waits.length < 1099511627776 := by have := hd.few; omega
      have hd2 := hd.put s hs op.byte
      have Hc := Lib.hid hc
      have Hks := Lib.hid hks
      have Hd2 := Lib.hid hd2
      clear hc hks hd2
      go_wp2_with fail
      refine (kind_any op.at' 8 _ hop.at' (by omega)).mono ?_
      rintro e w' ⟨rfl, rfl⟩
      rw [Hks.out]
      go_wp2_with fail
      refine (full_any h5 op.byte).mono ?_
      rintro e w5 ⟨g, rfl, h6⟩
      go_wp2_with fail
      refine (write_to h6.pull3 HW.out (BytesIn.tells _ _ rfl) hdl).mono ?_
      rintro e w6 ⟨rfl, h7⟩
      have h8 := h7.pull2.right
      clear h5 h6 h7
      obtain ⟨b', o', he, dl0, _, _, _, _⟩ := (t0 _ h8.right.right).cells hlt
      cases he
      rw [Hc.out] at dl0
      go_upto_if 59 with (fail)
      go_cut [7, 8, 9] (fun s7 s8 s9 wr => s7 = .int .i64 k ∧ s8 = .int .i64 s ∧ s9 = .int .i64 0 ∧ ∃ d : DiskM, Full8 d (has.set s op.byte) (k + 1) ∧
        Bears wr (diskA p d * (Assn.obj w2.heap.size (.cells (cellsV has).toArray 29 (0, 0)) * R)))
      case first =>
        by_cases hk3 : op.kind = 3
        · have q1 : (op.kind == 3) = true := by rw [beq_iff_eq]; exact hk3
          have hd2 := Hd2.out
          have hdl2 : (d.put s (fullS op.byte)).waits.length < 1099511627776 := by have := hd2.few; omega
          generalize d.put s (fullS op.byte) = d2 at h8 hd2 hdl2
          have HB := Lib.hid hd2.plain.barrier
          have Hk3 := Lib.hid hk3
          clear hk3
          go_wp2_with fail
          refine (barrier_to h8 HB.out hdl2).mono ?_
          rintro e w7 ⟨rfl, h9⟩
          go_wp2_with fail
          go_meet
          case rel => exact ⟨rfl, rfl, rfl, _, hd2.bar, h9⟩
        · have q1 : (op.kind == 3) = false := by rw [beq_eq_false_iff_ne]; exact hk3
          go_wp2_with fail
          go_meet
          case rel => exact ⟨rfl, rfl, rfl, _, Hd2.out, h8⟩
      case rest =>
        obtain ⟨rfl, rfl, rfl, D, hD, h9⟩ := hcut
        obtain ⟨b', o', he, _, _, _, cl3', _⟩ := (t0 _ h9.right.right).cells hlt
        cases he
        rw [Hc.out] at cl3'
        have h10 := h9.pull2
        have d0 := h10.byteCell (j := s) (by rw [hd.eight]; exact hs)
        have f0 := frozen_of_obj h10.obj s
        have h11 := h10.setByte s op.byte
        generalize has.set s op.byte = has' at hD h11
        generalize has.getD s 0 = old at d0
        have HD := Lib.hid hD
        clear h8 h9 HW Hd2
        go_wp2_with fail
        go_loopw [10] (fun i wr => ∃ j : Nat, j ≤ 8 ∧ i = .int .i64 j ∧ Bears wr (diskA p D * (Assn.obj w2.heap.size (.cells (cellsV has').toArray 29 (0, 0)) * R))) (fun i _ => 8 - (intOf i).toNat)
        case atStart => exact ⟨0, by omega, rfl, h11.pull2⟩
        case round =>
          obtain ⟨j, hj, rfl, h7⟩ := hrel
          by_cases hlt8 : j < 8
          · have f1 : Hid (D.check (j : Int) = 0) := HD.out.plain.check (by rw [HD.out.len]; exact hlt8)
            have f2 : Hid (D.now j = fullS (has'.getD j 0)) := HD.out.now j hlt8
            go_wp2_with fail
            refine (read_to (s := fullS (has'.getD j 0)) j h7 f1.out f2.out).mono ?_
            rintro e w8 ⟨g', rfl, h8⟩
            go_wp2_with fail
            have hc8 := h8.pull3.byteCell (j := j) (by rw [HD.out.eight]; omega)
            have hf := fullS_length (has'.getD j 0)
            generalize has'.getD j 0 = c at hc8 h8 hf
            refine wp_region_L (fun w' => Bears w' (Assn.obj g' (.cells (cellsV (fullS c)).toArray 61 (0, 0)) * (diskA p D * (Assn.obj w2.heap.size (.cells (cellsV has').toArray 29 (0, 0)) * R)))) 16
              [(true, 0), (true, 1), (true, 2), (true, 3), (true, 4), (true, 5), (true, 6), (true, 7), (true, 8), (true, 9), (true, 10), (false, 11), (false, 12), (false, 13), (true, 14), (true, 15)] [] (by kernel_rfl) (by kernel_rfl) h8.drew ?_
            simp only [pick, List.getElem?_cons_zero, List.getElem?_cons_succ]
            refine wpL_guarded (v := ?_) rfl (fun w' hS => ?_) ?_
            rotate_left
            · (go_simp; try with_reducible rfl)
            simp only [Act.put, List.setIfInBounds_toArray, List.set_cons_zero, List.set_cons_succ]
            refine wpL_guarded (v := ?_) rfl (fun w' hS => ?_) ?_
            rotate_left
            · (go_simp; try with_reducible rfl)
            simp only [Act.put, List.setIfInBounds_toArray, List.set_cons_zero, List.set_cons_succ]
            refine wpL_guarded (v := ?_) rfl (fun w' hS => ?_) ?_
            rotate_left
            · (go_simp; try with_reducible rfl)
            simp only [Act.put, List.setIfInBounds_toArray, List.set_cons_zero, List.set_cons_succ]
            refine wpL_guarded (v := ?_) rfl (fun w' hS => ?_) ?_
            rotate_left
            · (go_simp; try with_reducible rfl)
            simp only [Act.put, List.setIfInBounds_toArray, List.set_cons_zero, List.set_cons_succ]
            refine wpL_guarded (v := ?_) rfl (fun w' hS => ?_) ?_
            rotate_left
            · (go_simp; try with_reducible rfl)
            simp only [Act.put, List.setIfInBounds_toArray, List.set_cons_zero, List.set_cons_succ]
            refine wpL_guarded (v := ?_) rfl (fun w' hS => ?_) ?_
            rotate_left
            · (go_simp; try with_reducible rfl)
            simp only [Act.put, List.setIfInBounds_toArray, List.set_cons_zero, List.set_cons_succ]
            refine wpL_guarded (v := ?_) rfl (fun w' hS => ?_) ?_
            rotate_left
            · (go_simp; try with_reducible rfl)
            simp only [Act.put, List.setIfInBounds_toArray, List.set_cons_zero, List.set_cons_succ]
            refine wpL_guarded (v := ?_) rfl (fun w' hS => ?_) ?_
            rotate_left
            · (go_simp; try with_reducible rfl)
            simp only [Act.put, List.setIfInBounds_toArray, List.set_cons_zero, List.set_cons_succ]
            refine wpL_guarded rfl (fun w' hS => exec_convert rfl rfl (run_convert_in (BytesIn.tells _ _ (by rw [hf]) _ hS))) ?_
            simp only [Act.put, List.setIfInBounds_toArray, List.set_cons_zero, List.set_cons_succ]
            refine wpL_guarded (v := ?_) rfl (fun w' hS => ?_) ?_
            rotate_left
            · (go_simp; try with_reducible rfl)
            simp only [Act.put, List.setIfInBounds_toArray, List.set_cons_zero, List.set_cons_succ]
            refine wpL_guarded (v := ?_) rfl (fun w' hS => ?_) ?_
            rotate_left
            · (go_simp; try with_reducible rfl)
            simp only [Act.put, List.setIfInBounds_toArray, List.set_cons_zero, List.set_cons_succ]
            refine wpL_effG rfl ?_
            go_simp
            refine ⟨h8.drew, ?_⟩
            refine wpL_effG rfl ?_
            go_simp
            refine (full_any h8.drew c).mono ?_
            rintro e w9 ⟨g2, rfl, h9⟩
            refine ⟨h9.right, ?_⟩
            refine wpL_effG rfl (wp_of_run (exec_convert rfl rfl (run_convert_in (BytesIn.tells _ _ rfl _ h9))) ⟨h9.right, ?_⟩)
            simp only [Act.put, List.setIfInBounds_toArray, List.set_cons_zero, List.set_cons_succ]
            refine wpL_guarded (v := ?_) rfl (fun w' hS => ?_) ?_
            rotate_left
            · (go_simp; try with_reducible rfl)
            simp only [Act.put, List.setIfInBounds_toArray, List.set_cons_zero, List.set_cons_succ]
            refine wpL_guarded (v := ?_) rfl (fun w' hS => ?_) ?_
            rotate_left
            · (go_simp; try with_reducible rfl)
            simp only [Act.put, List.setIfInBounds_toArray, List.set_cons_zero, List.set_cons_succ]
            refine wpL_nil ?_
            refine wpL_nil ?_
            go_wp2_with fail
            go_roundw
            case rel => exact ⟨j + 1, hlt8, by go_num, h9.right.right⟩
            case measure => simp [intOf]; omega
          · go_wp2_with fail
            go_roundw
            case rel => exact ⟨k + 1, hlt, hltN, by go_num, D, has', HD.out, h7.pull2⟩
            case measure => simp [intOf]; omega
    · go_wp2_with fail
      all_goals
        go_ret
        exact ⟨rfl, h5.right.right⟩

end Go.Proofs.Ytcfdnkmllpphfaa
