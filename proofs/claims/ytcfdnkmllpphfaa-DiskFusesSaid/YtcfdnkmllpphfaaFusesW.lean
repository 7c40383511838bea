/- The walk of DiskFuses; no condition. -/
import Derived.Test.YtcfdnkmllpphfaaPure1
import Derived.Test.YtcfdnkmllpphfaaLawC
import Derived.Deep.DeepCutAuto
import Derived.Deep.CutBlock
namespace Go.Proofs.Ytcfdnkmllpphfaa
open Go.RowKit Go.MapKept

/-- A disk of 16 sectors with a fuse of n, behind k rounds of a write and a barrier. -/
structure Fused (n k : Nat) (d : DiskM) (want : List UInt8) : Prop where
  len : d.len = 16
  sixteen : want.length = 16
  sure : ∀ j, j < 16 → d.sure j = fullS (want.getD j 0)
  few : d.waits.length ≤ 1
  state : (2 * k ≤ n ∧ d.off = false ∧ d.fuse = (n : Int) - 2 * (k : Int) ∧ d.steps = 2 * (k : Int) ∧ d.waits = []) ∨ (n < 2 * k ∧ d.off = true ∧ d.steps = (n : Int))

theorem fused_check {d : DiskM} {i : Nat} (h : d.off = false) (hl : d.len = 16) (hi : i < 16) : d.check (i : Int) = 0 := by
  unfold DiskM.check
  rw [h, hl, if_neg (by simp), if_neg (by omega)]

theorem step_pos {d : DiskM} (h : 0 < d.fuse) : d.step = (0, { d with fuse := d.fuse - 1, steps := wrap64 (d.steps + 1) }) := by
  have h3 : d.fuse ≠ 0 := by omega
  simp [DiskM.step, h3, h]

theorem Fused.round {n k : Nat} {d : DiskM} {want : List UInt8} (h : Fused n k d want) (hk : k < 20) (c : UInt8) {s : Nat} (hc16 : s < 16) :
    ∃ d' d'', d.write ((s : Nat) : Int) (fullS c) = (if 2 * k < n then 0 else 2, d') ∧ d'.barrier = (if 2 * k + 1 < n then 0 else 2, d'') ∧ d'.waits.length ≤ 2 ∧
      Fused n (k + 1) d'' (if 2 * k + 1 < n then want.set (s) c else want) := by
  have hf := fullS_length c
  rcases h.state with ⟨h1, ho, hfu, hst, hw⟩ | ⟨h1, ho, hst⟩
  · have hck := fused_check ho h.len hc16
    by_cases h2 : 2 * k < n
    · have hs1 : d.step = (0, { d with fuse := d.fuse - 1, steps := wrap64 (d.steps + 1) }) := by
        have h3 : d.fuse ≠ 0 := by omega
        have h4 : 0 < d.fuse := by omega
        simp [DiskM.step, h3, h4]
      have hw1 : d.write ((s : Nat) : Int) (fullS c) = (0, { d with fuse := d.fuse - 1, steps := wrap64 (d.steps + 1), waits := [(s, fullS c)] }) := by
        simp only [DiskM.write, hck, hf, hs1, hw]
        simp
      by_cases h3 : 2 * k + 1 < n
      · refine ⟨_, { d with fuse := d.fuse - 1 - 1, steps := wrap64 (wrap64 (d.steps + 1) + 1), sure := updS d.sure (s) (fullS c), waits := [] }, by rw [hw1, if_pos h2], ?_, by simp, ?_⟩
        · have h5 := step_pos (d := { d with fuse := d.fuse - 1, steps := wrap64 (d.steps + 1), waits := [(s, fullS c)] }) (by simp only; omega)
          rw [ho] at h5
          simp [DiskM.barrier, ho, h5, DiskM.now, settle, h3]
        · rw [if_pos h3]
          refine ⟨h.len, by simp [h.sixteen], fun j hj => ?_, by simp, .inl ⟨by omega, ho, by simp only; omega, by simp only; unfold wrap64; omega, rfl⟩⟩
          simp only [updS]
          by_cases e : j = s
          · subst e
            rw [if_pos rfl]
            simp [List.getD_eq_getElem?_getD, h.sixteen, hc16]
          · rw [if_neg e]
            refine (h.sure j hj).trans ?_
            simp [List.getD_eq_getElem?_getD, Ne.symm e]
      · refine ⟨_, { d with fuse := -1, off := true, steps := wrap64 (d.steps + 1), waits := [(s, fullS c)] }, by rw [hw1, if_pos h2], ?_, by simp, ?_⟩
        · have h4 : d.fuse - 1 = 0 := by omega
          simp [DiskM.barrier, ho, DiskM.step, h4, h3]
        · rw [if_neg h3]
          exact ⟨h.len, h.sixteen, h.sure, by simp, .inr ⟨by omega, rfl, by simp only; unfold wrap64; omega⟩⟩
    · have h4 : d.fuse = 0 := by omega
      have hs1 : d.step = (2, { d with off := true, fuse := -1 }) := by simp [DiskM.step, h4]
      have hw1 : d.write ((s : Nat) : Int) (fullS c) = (2, { d with off := true, fuse := -1 }) := by
        simp only [DiskM.write, hck, hf, hs1]
        simp
      refine ⟨_, { d with off := true, fuse := -1 }, by rw [hw1, if_neg h2], ?_, by simp [hw], ?_⟩
      · rw [if_neg (by omega)]
        simp [DiskM.barrier]
      · rw [if_neg (by omega)]
        exact ⟨h.len, h.sixteen, h.sure, by simp [hw], .inr ⟨by omega, rfl, by simp only; omega⟩⟩
  · have hck : d.check ((s : Nat) : Int) = 2 := by simp [DiskM.check, ho]
    refine ⟨d, d, ?_, ?_, by have := h.few; omega, ?_⟩
    · rw [if_neg (by omega)]
      simp [DiskM.write, hck]
    · rw [if_neg (by omega)]
      simp [DiskM.barrier, ho]
    · rw [if_neg (by omega)]
      exact ⟨h.len, h.sixteen, h.sure, h.few, .inr ⟨by omega, ho, hst⟩⟩

theorem Fused.start (n : Nat) : Fused n 0 ((DiskM.new 16).setFuse n) (List.replicate 16 0) := by
  refine ⟨rfl, by simp, fun j hj => ?_, by simp [DiskM.setFuse, DiskM.new], .inl ⟨by omega, rfl, ?_, rfl, rfl⟩⟩
  · show zeroSec = _
    rw [List.getD_eq_getElem?_getD, List.getElem?_replicate]
    simp [hj, zeroSec, fullS]
  · show max (n : Int) (-1) = _
    omega

theorem Fused.steps {n k : Nat} {d : DiskM} {want : List UInt8} (h : Fused n k d want) : d.steps = ((min n (2 * k) : Nat) : Int) := by
  rcases h.state with ⟨h1, _, _, h2, _⟩ | ⟨h1, _, h2⟩ <;> omega

theorem Fused.boot {n k : Nat} {d : DiskM} {want : List UInt8} (h : Fused n k d want) : (d.boot []).len = 16 ∧ (∀ j, j < 16 → (d.boot []).now j = fullS (want.getD j 0)) ∧ (d.boot []).Plain := by
  refine ⟨h.len, fun j hj => ?_, d.boot_plain []⟩
  rw [← h.sure j hj]
  have hw := h.few
  show settle (settle d.sure (kept [] 0 d.waits)) [] j = _
  match hq : d.waits, hw with
  | [], _ => rfl
  | [x], _ => simp [kept, keeps, settle]
  | _ :: _ :: _, hw => simp at hw

theorem kind_nat (c : Int) (n : Nat) (hn : 0 < n) : ∃ m : Nat, m < n ∧ (if c < 0 then (-(c + 1)) % (n : Int) else c % (n : Int)) = (m : Int) := by
  have h : 0 ≤ (if c < 0 then (-(c + 1)) % (n : Int) else c % (n : Int)) ∧ (if c < 0 then (-(c + 1)) % (n : Int) else c % (n : Int)) < (n : Int) := by
    split
    · exact ⟨Int.emod_nonneg _ (by omega), Int.emod_lt_of_pos _ (by omega)⟩
    · exact ⟨Int.emod_nonneg _ (by omega), Int.emod_lt_of_pos _ (by omega)⟩
  exact ⟨(if c < 0 then (-(c + 1)) % (n : Int) else c % (n : Int)).toNat, by omega, by omega⟩

set_option maxRecDepth 100000 in
set_option maxHeartbeats 1600000 in
theorem fuses_any {R : Assn} {w : World} (h : Bears w R) (l : List UInt8) (fz : Int) (a0 : Option Addr) (c0 : Nat)
    (t0 : R.Tells (fun w => BytesIn w (.slice a0 l.length c0) l)) (b0 : l.length ≤ 9223372036854775807) (bf : -9223372036854775808 ≤ fz ∧ fz ≤ 9223372036854775807) :
    Calls Try.prog 5 #[.slice a0 l.length c0, .int .i64 fz] w fun e w' => e = .returned (.bool true) ∧ Bears w' R := by
  obtain ⟨n, hn, hkn⟩ := kind_nat fz 30 (by omega)
  rw [show ((30 : Nat) : Int) = 30 from rfl] at hkn
  have Hkn := Lib.hid hkn
  clear hkn
  go_enter Try.func5, Try.ntmps5
  go_wp2_with fail
  refine (shown_any h).mono ?_
  rintro e w1 ⟨rfl, h1⟩
  go_wp2_with fail
  refine (new_ok h1 16 (by omega) (by omega)).mono ?_
  rintro e w2 ⟨p, rfl, h2⟩
  clear h h1
  go_wp2_with fail
  refine (kind_any fz 30 w2 bf (by omega)).mono ?_
  rintro e w' ⟨rfl, rfl⟩
  rw [Hkn.out]
  go_wp2_with fail
  refine (fuse_to (d' := (DiskM.new 16).setFuse n) h2 rfl (by omega)).mono ?_
  rintro e w3 ⟨rfl, h3⟩
  have hd := Fused.start n
  generalize (DiskM.new 16).setFuse (n : Int) = d0 at hd h3
  have hmk : ∀ w, (Instr.makeSlice 22 (.int .i64 16) (.int .i64 16)).run Try.prog w = .ok (.slice (some ⟨w.heap.size, 0, none⟩) 16 16) (w.alloc (.cells (cellsV (List.replicate 16 0)).toArray 5)) := fun _ => by kernel_rfl
  clear h2
  go_upto_block 0 with (fail)
  have h4 := h3.alloc (.cells (cellsV (List.replicate 16 0)).toArray 5)
  clear hmk h3
  go_cut [10] (fun _ wr => ∃ (d : DiskM) (want : List UInt8), Fused n (min l.length 20) d want ∧ Bears wr (Assn.obj w3.heap.size (.cells (cellsV want).toArray 5 (0, 0)) * (diskA p d * R)))
  case first =>
    go_wp2_with fail
    go_loopw [10] (fun i wr => ∃ k : Nat, k ≤ l.length ∧ k ≤ 20 ∧ i = .int .i64 k ∧ ∃ (d : DiskM) (want : List UInt8), Fused n k d want ∧ Bears wr (Assn.obj w3.heap.size (.cells (cellsV want).toArray 5 (0, 0)) * (diskA p d * R)))
      (fun i _ => 20 - (intOf i).toNat)
    case atStart => exact ⟨0, by omega, by omega, rfl, _, _, hd, h4⟩
    case round =>
      obtain ⟨k, hk, hkN, rfl, d, want, hd, h5⟩ := hrel
      by_cases hlt : k < l.length ∧ k < 20
      · obtain ⟨hlt, hltN⟩ := hlt
        obtain ⟨b, o, rfl, hcell⟩ := (t0 _ h5.right.right).cell hlt
        have hk16 : k % 16 < 16 := by omega
        have m0 : (0 : Int) ≤ (k : Int) % 16 := by omega
        have m1 : (k : Int) % 16 < 16 := by omega
        generalize hc : l.getD k 0 = c at hcell
        obtain ⟨d', d'', q1, q2, q3, q4⟩ := hd.round hltN c hk16
        have hdl : d.waits.length < 1099511627776 := by have := hd.few; omega
        have hdl' : d'.waits.length < 1099511627776 := by omega
        have hs := hd.sixteen
        have Hs := Lib.hid hs
        have Hc := Lib.hid hc
        have e16 : ((k % 16 : Nat) : Int) = (k : Int) % 16 := by omega
        rw [e16] at q1
        by_cases g1 : 2 * k + 1 < n
        · have g2 : 2 * k < n := by omega
          have z1 : decide (2 * (k : Int) < (n : Int)) = true := by rw [decide_eq_true_eq]; omega
          have z2 : decide (2 * (k : Int) + 1 < (n : Int)) = true := by rw [decide_eq_true_eq]; omega
          rw [if_pos g2] at q1
          rw [if_pos g1] at q2 q4
          have Q1 := Lib.hid q1
          have Q2 := Lib.hid q2
          clear q1 q2 hc e16 hs
          go_wp2_with fail
          refine (full_any h5 c).mono ?_
          rintro e w5 ⟨g, rfl, h6⟩
          go_wp2_with fail
          refine (write_to h6.pull3 Q1.out (BytesIn.tells _ _ rfl) hdl).mono ?_
          rintro e w6 ⟨rfl, h7⟩
          go_wp2_with fail
          refine (barrier_to h7 Q2.out hdl').mono ?_
          rintro e w7 ⟨rfl, h8⟩
          have h9 := h8.pull2.right.pull2
          clear h5 h6 h7 h8
          have d0 := h9.byteCell (j := k % 16) (by rw [Hs.out]; exact hk16)
          have f0 := frozen_of_obj h9.obj (k % 16)
          obtain ⟨b', o', he, hcell2⟩ := (t0 _ h9.right.right).cell hlt
          cases he
          rw [Hc.out] at hcell2
          go_wp2_with fail
          go_roundw
          case rel => exact ⟨k + 1, hlt, hltN, by go_num, d'', _, q4, h9.setByte (k % 16) c⟩
          case measure => simp [intOf]; omega
        · rw [if_neg g1] at q2 q4
          have z2 : decide (2 * (k : Int) + 1 < (n : Int)) = false := by rw [decide_eq_false_iff_not]; omega
          by_cases g2 : 2 * k < n
          · rw [if_pos g2] at q1
            have z1 : decide (2 * (k : Int) < (n : Int)) = true := by rw [decide_eq_true_eq]; omega
            have Q1 := Lib.hid q1
            have Q2 := Lib.hid q2
            clear q1 q2 hc e16 hs
            go_wp2_with fail
            refine (full_any h5 c).mono ?_
            rintro e w5 ⟨g, rfl, h6⟩
            go_wp2_with fail
            refine (write_to h6.pull3 Q1.out (BytesIn.tells _ _ rfl) hdl).mono ?_
            rintro e w6 ⟨rfl, h7⟩
            go_wp2_with fail
            refine (barrier_to h7 Q2.out hdl').mono ?_
            rintro e w7 ⟨rfl, h8⟩
            have h9 := h8.pull2.right.pull2
            clear h5 h6 h7 h8
            go_wp2_with fail
            go_roundw
            case rel => exact ⟨k + 1, hlt, hltN, by go_num, d'', _, q4, h9⟩
            case measure => simp [intOf]; omega
          · rw [if_neg g2] at q1
            have z1 : decide (2 * (k : Int) < (n : Int)) = false := by rw [decide_eq_false_iff_not]; omega
            have Q1 := Lib.hid q1
            have Q2 := Lib.hid q2
            clear q1 q2 hc e16 hs
            go_wp2_with fail
            refine (full_any h5 c).mono ?_
            rintro e w5 ⟨g, rfl, h6⟩
            go_wp2_with fail
            refine (write_to h6.pull3 Q1.out (BytesIn.tells _ _ rfl) hdl).mono ?_
            rintro e w6 ⟨rfl, h7⟩
            go_wp2_with fail
            refine (barrier_to h7 Q2.out hdl').mono ?_
            rintro e w7 ⟨rfl, h8⟩
            have h9 := h8.pull2.right.pull2
            clear h5 h6 h7 h8
            go_wp2_with fail
            go_roundw
            case rel => exact ⟨k + 1, hlt, hltN, by go_num, d'', _, q4, h9⟩
            case measure => simp [intOf]; omega
      · go_wp2_with fail
        all_goals
          go_meet
          case rel =>
            have hkk : k = min l.length 20 := by omega
            rw [← hkk]
            exact ⟨d, want, hd, h5⟩
  case rest =>
    obtain ⟨d, want, hd, h5⟩ := hcut
    have hst := hd.steps
    have hdl : d.waits.length < 1099511627776 := by have := hd.few; omega
    obtain ⟨hb1, hb2, hb3⟩ := hd.boot
    have hw16 := hd.sixteen
    have hst : ((l.length : Int) ≤ 20 ∧ (n : Int) ≤ 2 * (l.length : Int) ∧ d.steps = (n : Int)) ∨ ((l.length : Int) ≤ 20 ∧ 2 * (l.length : Int) < (n : Int) ∧ d.steps = 2 * (l.length : Int)) ∨ (20 < (l.length : Int) ∧ (n : Int) ≤ 40 ∧ d.steps = (n : Int)) := by omega
    clear h4
    rcases hst with ⟨z1, z2, z3⟩ | ⟨z1, z2, z3⟩ | ⟨z1, z2, z3⟩
    all_goals
      have Hst := Lib.hid z3
      clear z3
      go_wp2_with fail
      refine (steps_any h5.pull2).mono ?_
      rintro e w' ⟨rfl, rfl⟩
      rw [Hst.out]
      go_wp2_with fail
      refine (boot_to (d' := d.boot []) [] h5.pull2 rfl rfl (IntsIn.nil _) (by decide) (by decide) hdl).mono ?_
      rintro e w5 ⟨rfl, h6⟩
      generalize d.boot [] = D at hb1 hb2 hb3 h6
      have HB1 := Lib.hid hb1
      have HW := Lib.hid hw16
      clear h5 hw16 hb1 hd
      go_wp2_with fail
      go_loopw [13] (fun i wr => ∃ j : Nat, j ≤ 16 ∧ i = .int .i64 j ∧ Bears wr (diskA p D * (Assn.obj w3.heap.size (.cells (cellsV want).toArray 5 (0, 0)) * R))) (fun i _ => 16 - (intOf i).toNat)
      case atStart => exact ⟨0, by omega, rfl, h6⟩
      case round =>
        obtain ⟨j, hj, rfl, h7⟩ := hrel
        by_cases hlt : j < 16
        · have f1 : Hid (D.check (j : Int) = 0) := hb3.check (by rw [HB1.out]; exact hlt)
          have f2 : Hid (D.now j = fullS (want.getD j 0)) := hb2 j hlt
          go_wp2_with fail
          refine (read_to (s := fullS (want.getD j 0)) j h7 f1.out f2.out).mono ?_
          rintro e w8 ⟨g, rfl, h8⟩
          go_wp2_with fail
          have hc8 := h8.pull3.byteCell (j := j) (by rw [HW.out]; omega)
          have hf := fullS_length (want.getD j 0)
          generalize want.getD j 0 = c at hc8 h8 hf
          refine wp_region_L (fun w' => Bears w' (Assn.obj g (.cells (cellsV (fullS c)).toArray 61 (0, 0)) * (diskA p D * (Assn.obj w3.heap.size (.cells (cellsV want).toArray 5 (0, 0)) * R)))) 13
            [(true, 0), (true, 1), (true, 2), (true, 3), (true, 4), (true, 5), (true, 6), (true, 7), (false, 8), (false, 9), (false, 10), (true, 11), (true, 12)] [] (by kernel_rfl) (by kernel_rfl) h8.drew ?_
          simp only [pick, List.getElem?_cons_zero, List.getElem?_cons_succ]
          refine wpL_guarded (v := ?_) rfl (fun w' hS => ?_) ?_
          rotate_left
          · (go_simp; try with_reducible rfl)
          simp only [Act.put, List.setIfInBounds_toArray, List.set_cons_zero, List.set_cons_succ]
          refine wpL_guarded (v := ?_) rfl (fun w' hS => ?_) ?_
          rotate_left
          · (go_simp; try with_reducible rfl)
          simp only [Act.put, List.setIfInBounds_toArray, List.set_cons_zero, List.set_cons_succ]
          refine wpL_guarded (v := ?_) rfl (fun w' hS => ?_) ?_
          rotate_left
          · (go_simp; try with_reducible rfl)
          simp only [Act.put, List.setIfInBounds_toArray, List.set_cons_zero, List.set_cons_succ]
          refine wpL_guarded (v := ?_) rfl (fun w' hS => ?_) ?_
          rotate_left
          · (go_simp; try with_reducible rfl)
          simp only [Act.put, List.setIfInBounds_toArray, List.set_cons_zero, List.set_cons_succ]
          refine wpL_guarded rfl (fun w' hS => exec_convert rfl rfl (run_convert_in (BytesIn.tells _ _ (by rw [hf]) _ hS))) ?_
          simp only [Act.put, List.setIfInBounds_toArray, List.set_cons_zero, List.set_cons_succ]
          refine wpL_guarded (v := ?_) rfl (fun w' hS => ?_) ?_
          rotate_left
          · (go_simp; try with_reducible rfl)
          simp only [Act.put, List.setIfInBounds_toArray, List.set_cons_zero, List.set_cons_succ]
          refine wpL_guarded (v := ?_) rfl (fun w' hS => ?_) ?_
          rotate_left
          · (go_simp; try with_reducible rfl)
          simp only [Act.put, List.setIfInBounds_toArray, List.set_cons_zero, List.set_cons_succ]
          refine wpL_guarded (v := ?_) rfl (fun w' hS => ?_) ?_
          rotate_left
          · (go_simp; try with_reducible rfl)
          simp only [Act.put, List.setIfInBounds_toArray, List.set_cons_zero, List.set_cons_succ]
          refine wpL_effG rfl ?_
          go_simp
          refine ⟨h8.drew, ?_⟩
          refine wpL_effG rfl ?_
          go_simp
          refine (full_any h8.drew c).mono ?_
          rintro e w9 ⟨g2, rfl, h9⟩
          refine ⟨h9.right, ?_⟩
          refine wpL_effG rfl (wp_of_run (exec_convert rfl rfl (run_convert_in (BytesIn.tells _ _ rfl _ h9))) ⟨h9.right, ?_⟩)
          simp only [Act.put, List.setIfInBounds_toArray, List.set_cons_zero, List.set_cons_succ]
          refine wpL_guarded (v := ?_) rfl (fun w' hS => ?_) ?_
          rotate_left
          · (go_simp; try with_reducible rfl)
          simp only [Act.put, List.setIfInBounds_toArray, List.set_cons_zero, List.set_cons_succ]
          refine wpL_guarded (v := ?_) rfl (fun w' hS => ?_) ?_
          rotate_left
          · (go_simp; try with_reducible rfl)
          simp only [Act.put, List.setIfInBounds_toArray, List.set_cons_zero, List.set_cons_succ]
          refine wpL_nil ?_
          refine wpL_nil ?_
          go_wp2_with fail
          go_roundw
          case rel => exact ⟨j + 1, hlt, by go_num, h9.right.right⟩
          case measure => simp [intOf]; omega
        · go_wp2_with fail
          refine (on_any h7).mono ?_
          rintro e w' ⟨rfl, rfl⟩
          go_wp2_with fail
          go_ret
          exact ⟨by rw [hb3.off]; rfl, h7.right.right⟩

end Go.Proofs.Ytcfdnkmllpphfaa
