/- The walk of DiskApart; no condition. -/
import Derived.Test.YtcfdnkmllpphfaaPure1
import Derived.Test.YtcfdnkmllpphfaaLawC
import Derived.Deep.DeepCutAuto
import Derived.Deep.CutBlock
namespace Go.Proofs.Ytcfdnkmllpphfaa
open Go.RowKit Go.MapKept

def mod8 (i : Nat) : Nat := i % 8

/-- A disk of 8 sectors that are full of the bytes l, and few writes wait. -/
structure Full8 (d : DiskM) (l : List UInt8) (n : Nat) : Prop where
  plain : d.Plain
  len : d.len = 8
  eight : l.length = 8
  now : ∀ j, j < 8 → d.now j = fullS (l.getD j 0)
  few : d.waits.length ≤ n

theorem Full8.put {d : DiskM} {l : List UInt8} {n : Nat} (h : Full8 d l n) (i : Nat) (hi : i < 8) (c : UInt8) : Full8 (d.put i (fullS c)) (l.set i c) (n + 1) := by
  refine ⟨h.plain.put _ _, h.len, by simp [h.eight], fun j hj => ?_, by have := h.few; simp [DiskM.put]; omega⟩
  show settle d.sure (d.waits ++ [(i, fullS c)]) j = _
  rw [settle_append]
  unfold updS
  by_cases e : j = i
  · subst e
    rw [if_pos rfl]
    simp [List.getD_eq_getElem?_getD, h.eight, hj]
  · rw [if_neg e]
    refine (h.now j hj).trans ?_
    simp [List.getD_eq_getElem?_getD, Ne.symm e]

theorem Full8.mono {d : DiskM} {l : List UInt8} {n m : Nat} (h : Full8 d l n) (hm : n ≤ m) : Full8 d l m := ⟨h.plain, h.len, h.eight, h.now, Nat.le_trans h.few hm⟩

theorem Full8.write {d : DiskM} {l : List UInt8} {n : Nat} (h : Full8 d l n) {i : Int} {k : Nat} (e : i = k) (hk : k < 8) (c : UInt8) : d.write i (fullS c) = (0, d.put k (fullS c)) :=
  h.plain.write' e (by rw [h.len]; exact hk) (fullS_length c)

theorem Full8.new : Full8 (DiskM.new 8) (List.replicate 8 0) 0 := by
  refine ⟨DiskM.new_plain 8, rfl, by simp, fun j hj => ?_, by simp [DiskM.new]⟩
  show zeroSec = _
  rw [List.getD_eq_getElem?_getD, List.getElem?_replicate]
  simp [hj, zeroSec, fullS]

theorem Full8.settled {d : DiskM} {l : List UInt8} {n : Nat} (h : Full8 d l n) : Full8 (d.bar.boot []) l 0 :=
  ⟨DiskM.boot_plain _ _, h.len, h.eight, fun j hj => h.now j hj, by simp [DiskM.boot]⟩

theorem pair_cell {w : World} {b : Nat} {la lb : List UInt8} {t : TypeId} {R : Assn} (h : Bears w (Assn.obj b (.cells (cellsV (la ++ lb)).toArray t (0, 0)) * R)) (ha : la.length = 8) (hb : lb.length = 8) {j : Nat} (hj : j < 8) :
    w.cell? ⟨b, j, none⟩ = some (byteV (la.getD j 0)) ∧ w.cell? ⟨b, 8 + j, none⟩ = some (byteV (lb.getD j 0)) := by
  have h1 := h.byteCell (j := j) (by simp; omega)
  have h2 := h.byteCell (j := 8 + j) (by simp; omega)
  rw [h1, h2]
  constructor
  · simp [List.getD_eq_getElem?_getD, List.getElem?_append, ha, hj]
  · have : ¬ 8 + j < 8 := by omega
    simp [List.getD_eq_getElem?_getD, List.getElem?_append, ha, this]

theorem pair_set0 {w : World} {b : Nat} {la lb : List UInt8} {t : TypeId} {R : Assn} (h : Bears w (Assn.obj b (.cells (cellsV (la ++ lb)).toArray t (0, 0)) * R)) (ha : la.length = 8) (j : Nat) (hj : j < 8) (c : UInt8) :
    Bears (w.setCell ⟨b, j, none⟩ (byteV c)) (Assn.obj b (.cells (cellsV (la.set j c ++ lb)).toArray t (0, 0)) * R) :=
  (h.setByte j c).cast (by rw [List.set_append_left _ _ (by omega)])

theorem pair_set1 {w : World} {b : Nat} {la lb : List UInt8} {t : TypeId} {R : Assn} (h : Bears w (Assn.obj b (.cells (cellsV (la ++ lb)).toArray t (0, 0)) * R)) (ha : la.length = 8) (j : Nat) (c : UInt8) :
    Bears (w.setCell ⟨b, 8 + j, none⟩ (byteV c)) (Assn.obj b (.cells (cellsV (la ++ lb.set j c)).toArray t (0, 0)) * R) :=
  (h.setByte (8 + j) c).cast (by rw [List.set_append_right _ _ (by omega), ha, Nat.add_sub_cancel_left])

set_option maxRecDepth 100000 in
set_option maxHeartbeats 1600000 in
theorem apart_any {R : Assn} {w : World} (h : Bears w R) (l0 l1 l2 : List UInt8) (a0 a1 a2 : Option Addr) (c0 c1 c2 : Nat)
    (t0 : R.Tells (fun w => BytesIn w (.slice a0 l0.length c0) l0)) (t1 : R.Tells (fun w => BytesIn w (.slice a1 l1.length c1) l1)) (t2 : R.Tells (fun w => BytesIn w (.slice a2 l2.length c2) l2))
    (b0 : l0.length ≤ 9223372036854775807) (_b1 : l1.length ≤ 9223372036854775807) (_b2 : l2.length ≤ 9223372036854775807) :
    Calls Try.prog 6 #[.slice a0 l0.length c0, .slice a1 l1.length c1, .slice a2 l2.length c2] w fun e w' => e = .returned (.bool true) ∧ Bears w' R := by
  go_enter Try.func6, Try.ntmps6
  go_wp2_with fail
  refine (shown_any h).mono ?_
  rintro e w1 ⟨rfl, h1⟩
  go_wp2_with fail
  refine (new_ok h1 8 (by omega) (by omega)).mono ?_
  rintro e w2 ⟨p, rfl, h2⟩
  clear h h1
  go_upto_block 0 with (fail)
  go_cut [10] (fun _ wr => ∃ d : DiskM, Full8 d (lasts mod8 l0 (min l0.length 40)) 40 ∧ Bears wr (diskA p d * R))
  case first =>
    go_wp2_with fail
    go_loopw [10] (fun i wr => ∃ k : Nat, k ≤ l0.length ∧ k ≤ 40 ∧ i = .int .i64 k ∧ ∃ d : DiskM, Full8 d (lasts mod8 l0 k) k ∧ Bears wr (diskA p d * R)) (fun i _ => 40 - (intOf i).toNat)
    case atStart => exact ⟨0, by omega, by omega, rfl, _, Full8.new, h2⟩
    case round =>
      obtain ⟨k, hk, hkN, rfl, d, hd, h3⟩ := hrel
      have hdl : d.waits.length < 1099511627776 := by have := hd.few; omega
      by_cases hlt : k < l0.length ∧ k < 40
      · obtain ⟨hlt, hltN⟩ := hlt
        obtain ⟨b, o, rfl, hcell⟩ := (t0 _ h3.right).cell hlt
        have m0 : (0 : Int) ≤ (k : Int) % 8 := by omega
        have m1 : (k : Int) % 8 < 8 := by omega
        have e2 : lasts mod8 l0 (k + 1) = (lasts mod8 l0 k).set (mod8 k) (l0.getD k 0) := rfl
        generalize hc : l0.getD k 0 = c at hcell e2
        have HW := Lib.hid (hd.write (i := (k : Int) % 8) (k := mod8 k) (by unfold mod8; omega) (by unfold mod8; omega) c)
        have E2 := Lib.hid e2
        clear hc e2
        go_wp2_with fail
        refine (full_any h3 c).mono ?_
        rintro e w5 ⟨g, rfl, h5⟩
        go_wp2_with fail
        refine (write_to h5.pull2 HW.out (BytesIn.tells _ _ rfl) hdl).mono ?_
        rintro e w6 ⟨rfl, h6⟩
        have h7 := h6.pull2.right
        clear h3 h5 h6
        go_wp2_with fail
        go_roundw
        case rel => exact ⟨k + 1, hlt, hltN, by go_num, d.put (mod8 k) (fullS c), by rw [E2.out]; exact hd.put _ (by unfold mod8; omega) c, h7⟩
        case measure => simp [intOf]; omega
      · go_wp2_with fail
        all_goals
          go_meet
          case rel =>
            have hkk : k = min l0.length 40 := by omega
            rw [← hkk]
            exact ⟨d, hd.mono hkN, h3⟩
  case rest =>
    obtain ⟨d, hd, h3⟩ := hcut
    generalize hwl : lasts mod8 l0 (min l0.length 40) = wl at hd
    have Hwl := Lib.hid hwl
    clear hwl
    have hdl : d.waits.length < 1099511627776 := by have := hd.few; omega
    go_wp2_with fail
    refine (clone_any h3 hdl).mono ?_
    rintro e w4 ⟨q, rfl, h4⟩
    go_wp2_with fail
    refine (waiting_any h4).mono ?_
    rintro e w' ⟨rfl, rfl⟩
    go_wp2_with fail
    refine (waiting_any h4.pull2).mono ?_
    rintro e w' ⟨rfl, rfl⟩
    go_upto_block 2 with (fail)
    go_cut [13] (fun _ wr => Bears wr (Assn.obj w4.heap.size (.cells (cellsV (wl ++ wl)).toArray 46 (0, 0)) * (diskA q d * (diskA p d * R))))
    case first =>
      go_wp2_with fail
      go_loopw [13] (fun i wr => ∃ k : Nat, k ≤ l0.length ∧ k ≤ 40 ∧ i = .int .i64 k ∧ Bears wr (Assn.obj w4.heap.size (.cells (cellsV (lasts mod8 l0 k ++ lasts mod8 l0 k)).toArray 46 (0, 0)) * (diskA q d * (diskA p d * R))))
        (fun i _ => 40 - (intOf i).toNat)
      case atStart => exact ⟨0, by omega, by omega, rfl, h4.alloc _⟩
      case round =>
        obtain ⟨k, hk, hkN, rfl, h5⟩ := hrel
        by_cases hlt : k < l0.length ∧ k < 40
        · obtain ⟨hlt, hltN⟩ := hlt
          obtain ⟨b, o, rfl, hcell⟩ := (t0 _ h5.right.right.right).cell hlt
          have hk8 : k % 8 < 8 := by omega
          have m0 : (0 : Int) ≤ (k : Int) % 8 := by omega
          have m1 : (k : Int) % 8 < 8 := by omega
          have e2 : lasts mod8 l0 (k + 1) = (lasts mod8 l0 k).set (k % 8) (l0.getD k 0) := rfl
          generalize hc : l0.getD k 0 = c at hcell e2
          have hla := lasts_length mod8 l0 k
          generalize lasts mod8 l0 k = la at h5 e2 hla
          have HL := Lib.hid hla
          have E2 := Lib.hid e2
          have Hc := Lib.hid hc
          clear hc e2 hla
          obtain ⟨d0, d1⟩ := pair_cell h5 HL.out HL.out hk8
          have f0 := frozen_of_obj h5.obj (k % 8)
          have f1 := frozen_of_obj h5.obj (8 + k % 8)
          have h6 := pair_set0 h5 HL.out (k % 8) hk8 c
          have h7 := pair_set1 h6 (by simp [HL.out]) (k % 8) c
          obtain ⟨b', o', he, hcell2⟩ := (t0 _ h6.right.right.right).cell hlt
          cases he
          rw [Hc.out] at hcell2
          go_wp2_with fail
          go_roundw
          case rel => exact ⟨k + 1, hlt, hltN, by go_num, by rw [E2.out]; exact h7⟩
          case measure => simp [intOf]; omega
        · go_wp2_with fail
          all_goals
            go_meet
            case rel =>
              have hkk : k = min l0.length 40 := by omega
              rw [← Hwl.out, ← hkk]
              exact h5
    case rest =>
      have h5 := hcut
      go_upto_block 4 with (fail)
      have hf := hd
      go_cut [14] (fun _ wr => ∃ (d1 d2 : DiskM) (wa wb : List UInt8), Full8 d1 wa 80 ∧ Full8 d2 wb 80 ∧
        Bears wr (Assn.obj w4.heap.size (.cells (cellsV (wa ++ wb)).toArray 46 (0, 0)) * (diskA q d2 * (diskA p d1 * R))))
      case first =>
        go_wp2_with fail
        go_loopw [14] (fun i wr => ∃ k : Nat, k ≤ 40 ∧ i = .int .i64 k ∧ ∃ (d1 d2 : DiskM) (wa wb : List UInt8), Full8 d1 wa (40 + k) ∧ Full8 d2 wb (40 + k) ∧
            Bears wr (Assn.obj w4.heap.size (.cells (cellsV (wa ++ wb)).toArray 46 (0, 0)) * (diskA q d2 * (diskA p d1 * R))))
          (fun i _ => 40 - (intOf i).toNat)
        case atStart => exact ⟨0, by omega, rfl, d, d, wl, wl, hd, hd, h5⟩
        case round =>
          obtain ⟨k, hk, rfl, d1, d2, wa, wb, hd1, hd2, h6⟩ := hrel
          by_cases hlt : k < 40
          · have hdl1 : d1.waits.length < 1099511627776 := by have := hd1.few; omega
            have hdl2 : d2.waits.length < 1099511627776 := by have := hd2.few; omega
            go_upto_if 99 with (fail)
            go_cut [14] (fun s14 wr => s14 = .int .i64 k ∧ ∃ (d1 : DiskM) (wa : List UInt8), Full8 d1 wa (41 + k) ∧
              Bears wr (Assn.obj w4.heap.size (.cells (cellsV (wa ++ wb)).toArray 46 (0, 0)) * (diskA q d2 * (diskA p d1 * R))))
            case first =>
              by_cases hl1 : k < l1.length
              · obtain ⟨b, o, rfl, hcell⟩ := (t1 _ h6.right.right.right).cell hl1
                have hk8 : 3 * k % 8 < 8 := by omega
                have m0 : (0 : Int) ≤ 3 * (k : Int) % 8 := by omega
                have m1 : 3 * (k : Int) % 8 < 8 := by omega
                generalize hc : l1.getD k 0 = c at hcell
                have HW := Lib.hid (hd1.write (i := 3 * (k : Int) % 8) (k := 3 * k % 8) (by omega) hk8 c)
                have Hc := Lib.hid hc
                clear hc
                go_wp2_with fail
                refine (full_any h6 c).mono ?_
                rintro e w5 ⟨g, rfl, h7⟩
                go_wp2_with fail
                refine (write_to h7.pull4 HW.out (BytesIn.tells _ _ rfl) hdl1).mono ?_
                rintro e w6 ⟨rfl, h8⟩
                have h9 := h8.pull2.right.pull2
                clear h6 h7 h8
                obtain ⟨d0, _⟩ := pair_cell h9 hd1.eight hd2.eight hk8
                have f0 := frozen_of_obj h9.obj (3 * k % 8)
                obtain ⟨b', o', he, hcell2⟩ := (t1 _ h9.right.right.right).cell hl1
                cases he
                rw [Hc.out] at hcell2
                go_wp2_with fail
                go_meet
                case rel => exact ⟨rfl, _, _, (hd1.put _ hk8 c).mono (by omega), (pair_set0 h9 hd1.eight (3 * k % 8) hk8 c).cast (by ac_rfl)⟩
              · go_wp2_with fail
                go_meet
                case rel => exact ⟨rfl, d1, wa, hd1.mono (by omega), h6⟩
            case rest =>
              obtain ⟨rfl, d1, wa, hd1, h6⟩ := hcut
              by_cases hl2 : k < l2.length
              · obtain ⟨b, o, rfl, hcell⟩ := (t2 _ h6.right.right.right).cell hl2
                have hk8 : 5 * k % 8 < 8 := by omega
                have m0 : (0 : Int) ≤ 5 * (k : Int) % 8 := by omega
                have m1 : 5 * (k : Int) % 8 < 8 := by omega
                generalize hc : l2.getD k 0 = c at hcell
                have HW := Lib.hid (hd2.write (i := 5 * (k : Int) % 8) (k := 5 * k % 8) (by omega) hk8 c)
                have Hc := Lib.hid hc
                clear hc
                go_wp2_with fail
                refine (full_any h6 c).mono ?_
                rintro e w5 ⟨g, rfl, h7⟩
                go_wp2_with fail
                refine (write_to h7.pull3 HW.out (BytesIn.tells _ _ rfl) hdl2).mono ?_
                rintro e w6 ⟨rfl, h8⟩
                have h9 := h8.pull2.right.pull2
                clear h6 h7 h8
                obtain ⟨_, d0⟩ := pair_cell h9 hd1.eight hd2.eight hk8
                have f0 := frozen_of_obj h9.obj (8 + 5 * k % 8)
                obtain ⟨b', o', he, hcell2⟩ := (t2 _ h9.right.right.right).cell hl2
                cases he
                rw [Hc.out] at hcell2
                go_wp2_with fail
                go_roundw
                case rel => exact ⟨k + 1, hlt, by go_num, _, _, _, _, hd1.mono (by omega), (hd2.put _ hk8 c).mono (by omega), pair_set1 h9 hd1.eight (5 * k % 8) c⟩
                case measure => simp [intOf]; omega
              · go_wp2_with fail
                go_roundw
                case rel => exact ⟨k + 1, hlt, by go_num, d1, d2, wa, wb, hd1.mono (by omega), hd2.mono (by omega), h6⟩
                case measure => simp [intOf]; omega
          · go_wp2_with fail
            go_meet
            case rel => exact ⟨d1, d2, wa, wb, hd1.mono (by omega), hd2.mono (by omega), h6⟩
      case rest =>
        obtain ⟨d1, d2, wa, wb, hd1, hd2, h6⟩ := hcut
        have hdl1 : d1.waits.length < 1099511627776 := by have := hd1.few; omega
        go_wp2_with fail
        refine (barrier_to h6.pull3 hd1.plain.barrier hdl1).mono ?_
        rintro e w7 ⟨rfl, h7⟩
        go_wp2_with fail
        refine (boot_to (d' := d1.bar.boot []) [] h7 rfl rfl (IntsIn.nil _) (by decide) (by decide) (by simp [DiskM.bar])).mono ?_
        rintro e w8 ⟨rfl, h8⟩
        have hs := hd1.settled
        generalize d1.bar.boot [] = D at h8 hs
        clear h7 h6 h5 hd1 hdl1 hf
        go_wp2_with fail
        go_loopw [15] (fun i wr => ∃ j : Nat, j ≤ 8 ∧ i = .int .i64 j ∧ Bears wr (diskA p D * (Assn.obj w4.heap.size (.cells (cellsV (wa ++ wb)).toArray 46 (0, 0)) * (diskA q d2 * R)))) (fun i _ => 8 - (intOf i).toNat)
        case atStart => exact ⟨0, by omega, rfl, h8⟩
        case round =>
          obtain ⟨j, hj, rfl, h1⟩ := hrel
          by_cases hlt : j < 8
          · have f1 : Hid (D.check (j : Int) = 0) := hs.plain.check (by rw [hs.len]; exact hlt)
            have f2 : Hid (d2.check (j : Int) = 0) := hd2.plain.check (by rw [hd2.len]; exact hlt)
            have e1 : D.now ((j : Int)).toNat = fullS (wa.getD j 0) := hs.now j hlt
            have e2 : d2.now ((j : Int)).toNat = fullS (wb.getD j 0) := hd2.now j hlt
            obtain ⟨q1, q2⟩ := pair_cell h1.pull2 hs.eight hd2.eight hlt
            generalize hA : wa.getD j 0 = ca at e1 q1
            generalize hB : wb.getD j 0 = cb at e2 q2
            have HA := Lib.hid hA
            have HB := Lib.hid hB
            have E1 := Lib.hid e1
            have E2 := Lib.hid e2
            clear hA hB e1 e2 q1 q2
            go_wp2_with fail
            refine (read_to (s := fullS ca) j h1 f1.out E1.out).mono ?_
            rintro e w2 ⟨o1, rfl, h2⟩
            go_wp2_with fail
            refine (read_to (s := fullS cb) j h2.pull4 f2.out E2.out).mono ?_
            rintro e w3 ⟨o2, rfl, h3⟩
            go_wp2_with fail
            have h4 : Bears w3 (Assn.obj w4.heap.size (.cells (cellsV (wa ++ wb)).toArray 46 (0, 0)) * (Assn.obj o2 (.cells (cellsV (fullS cb)).toArray 61 (0, 0)) * (diskA q d2 *
              (Assn.obj o1 (.cells (cellsV (fullS ca)).toArray 61 (0, 0)) * (diskA p D * R))))) := h3.cast (by ac_rfl)
            obtain ⟨q1, q2⟩ := pair_cell h4 hs.eight hd2.eight hlt
            rw [HA.out] at q1
            rw [HB.out] at q2
            clear h1 h2 h3
            refine wp_region_L (fun w' => Bears w' (Assn.obj w4.heap.size (.cells (cellsV (wa ++ wb)).toArray 46 (0, 0)) * (Assn.obj o2 (.cells (cellsV (fullS cb)).toArray 61 (0, 0)) * (diskA q d2 *
              (Assn.obj o1 (.cells (cellsV (fullS ca)).toArray 61 (0, 0)) * (diskA p D * R)))))) 28 [(true, 0), (true, 1), (true, 2), (true, 3), (true, 4), (true, 5), (true, 6), (true, 7), (true, 8), (true, 9), (true, 10), (true, 11), (false, 12), (false, 13), (false, 14), (true, 15), (true, 16), (true, 17), (true, 18), (true, 19), (true, 20), (true, 21), (true, 22), (false, 23), (false, 24), (false, 25), (true, 26), (true, 27)] [] (by kernel_rfl) (by kernel_rfl) h4.drew ?_
            simp only [pick, List.getElem?_cons_zero, List.getElem?_cons_succ]
            refine wpL_guarded (v := ?_) rfl (fun w' hS => ?_) ?_
            rotate_left
            · (go_simp; try with_reducible rfl)
            simp only [Act.put, List.setIfInBounds_toArray, List.set_cons_zero, List.set_cons_succ]
            refine wpL_guarded (v := ?_) rfl (fun w' hS => ?_) ?_
            rotate_left
            · (go_simp; try with_reducible rfl)
            simp only [Act.put, List.setIfInBounds_toArray, List.set_cons_zero, List.set_cons_succ]
            refine wpL_guarded (v := ?_) rfl (fun w' hS => ?_) ?_
            rotate_left
            · (go_simp; try with_reducible rfl)
            simp only [Act.put, List.setIfInBounds_toArray, List.set_cons_zero, List.set_cons_succ]
            refine wpL_guarded (v := ?_) rfl (fun w' hS => ?_) ?_
            rotate_left
            · (go_simp; try with_reducible rfl)
            simp only [Act.put, List.setIfInBounds_toArray, List.set_cons_zero, List.set_cons_succ]
            refine wpL_guarded (v := ?_) rfl (fun w' hS => ?_) ?_
            rotate_left
            · (go_simp; try with_reducible rfl)
            simp only [Act.put, List.setIfInBounds_toArray, List.set_cons_zero, List.set_cons_succ]
            refine wpL_guarded (v := ?_) rfl (fun w' hS => ?_) ?_
            rotate_left
            · (go_simp; try with_reducible rfl)
            simp only [Act.put, List.setIfInBounds_toArray, List.set_cons_zero, List.set_cons_succ]
            refine wpL_guarded (v := ?_) rfl (fun w' hS => ?_) ?_
            rotate_left
            · (go_simp; try with_reducible rfl)
            simp only [Act.put, List.setIfInBounds_toArray, List.set_cons_zero, List.set_cons_succ]
            refine wpL_guarded (v := ?_) rfl (fun w' hS => ?_) ?_
            rotate_left
            · (go_simp; try with_reducible rfl)
            simp only [Act.put, List.setIfInBounds_toArray, List.set_cons_zero, List.set_cons_succ]
            refine wpL_guarded rfl (fun w' hS => exec_convert rfl rfl (run_convert_in (BytesIn.tells _ _ rfl _ hS.pull4))) ?_
            simp only [Act.put, List.setIfInBounds_toArray, List.set_cons_zero, List.set_cons_succ]
            refine wpL_guarded (v := ?_) rfl (fun w' hS => ?_) ?_
            rotate_left
            · (go_simp; try with_reducible rfl)
            simp only [Act.put, List.setIfInBounds_toArray, List.set_cons_zero, List.set_cons_succ]
            refine wpL_guarded (v := ?_) rfl (fun w' hS => ?_) ?_
            rotate_left
            · (go_simp; try with_reducible rfl)
            simp only [Act.put, List.setIfInBounds_toArray, List.set_cons_zero, List.set_cons_succ]
            refine wpL_guarded (v := ?_) rfl (fun w' hS => ?_) ?_
            rotate_left
            · (go_simp; try with_reducible rfl)
            simp only [Act.put, List.setIfInBounds_toArray, List.set_cons_zero, List.set_cons_succ]
            refine wpL_effG rfl ?_
            go_simp
            refine ⟨h4.drew, ?_⟩
            refine wpL_effG rfl ?_
            go_simp
            refine (full_any h4.drew ca).mono ?_
            rintro e w9 ⟨g2, rfl, h9⟩
            refine ⟨h9.right, ?_⟩
            refine wpL_effG rfl (wp_of_run (exec_convert rfl rfl (run_convert_in (BytesIn.tells _ _ rfl _ h9))) ⟨h9.right, ?_⟩)
            simp only [Act.put, List.setIfInBounds_toArray, List.set_cons_zero, List.set_cons_succ]
            refine wpL_guarded (v := ?_) rfl (fun w' hS => ?_) ?_
            rotate_left
            · (go_simp; try with_reducible rfl)
            simp only [Act.put, List.setIfInBounds_toArray, List.set_cons_zero, List.set_cons_succ]
            refine wpL_guarded (v := ?_) rfl (fun w' hS => ?_) ?_
            rotate_left
            · (go_simp; try with_reducible rfl)
            simp only [Act.put, List.setIfInBounds_toArray, List.set_cons_zero, List.set_cons_succ]
            refine wpL_guarded (v := ?_) rfl (fun w' hS => ?_) ?_
            rotate_left
            · (go_simp; try with_reducible rfl)
            simp only [Act.put, List.setIfInBounds_toArray, List.set_cons_zero, List.set_cons_succ]
            refine wpL_guarded (v := ?_) rfl (fun w' hS => ?_) ?_
            rotate_left
            · (go_simp; try with_reducible rfl)
            simp only [Act.put, List.setIfInBounds_toArray, List.set_cons_zero, List.set_cons_succ]
            have h10 := h9.right
            clear h9 h4 q1 q2
            refine wpL_guarded rfl (fun w' hS => exec_convert rfl rfl (run_convert_in (BytesIn.tells _ _ rfl _ hS.pull2))) ?_
            simp only [Act.put, List.setIfInBounds_toArray, List.set_cons_zero, List.set_cons_succ]
            refine wpL_guarded (v := ?_) rfl (fun w' hS => ?_) ?_
            rotate_left
            · (go_simp; try with_reducible rfl)
            simp only [Act.put, List.setIfInBounds_toArray, List.set_cons_zero, List.set_cons_succ]
            refine wpL_guarded (v := ?_) rfl (fun w' hS => ?_) ?_
            rotate_left
            · (go_simp; try with_reducible rfl)
            simp only [Act.put, List.setIfInBounds_toArray, List.set_cons_zero, List.set_cons_succ]
            refine wpL_guarded (v := ?_) rfl (fun w' hS => ?_) ?_
            rotate_left
            · (go_simp; try with_reducible rfl)
            simp only [Act.put, List.setIfInBounds_toArray, List.set_cons_zero, List.set_cons_succ]
            obtain ⟨q1, q2⟩ := pair_cell h10 hs.eight hd2.eight hlt
            rw [HB.out] at q2
            clear q1
            refine wpL_effG rfl ?_
            go_simp
            refine wpL_effG rfl ?_
            go_simp
            refine (full_any h10 cb).mono ?_
            rintro e w11 ⟨g3, rfl, h11⟩
            refine ⟨h11.right, ?_⟩
            refine wpL_effG rfl (wp_of_run (exec_convert rfl rfl (run_convert_in (BytesIn.tells _ _ rfl _ h11))) ⟨h11.right, ?_⟩)
            simp only [Act.put, List.setIfInBounds_toArray, List.set_cons_zero, List.set_cons_succ]
            refine wpL_guarded (v := ?_) rfl (fun w' hS => ?_) ?_
            rotate_left
            · (go_simp; try with_reducible rfl)
            simp only [Act.put, List.setIfInBounds_toArray, List.set_cons_zero, List.set_cons_succ]
            refine wpL_guarded (v := ?_) rfl (fun w' hS => ?_) ?_
            rotate_left
            · (go_simp; try with_reducible rfl)
            simp only [Act.put, List.setIfInBounds_toArray, List.set_cons_zero, List.set_cons_succ]
            refine wpL_nil ?_
            refine wpL_nil ?_
            have h12 := h11.right
            clear h10 h11 q2
            go_wp2_with fail
            go_roundw
            case rel => exact ⟨j + 1, hlt, by go_num, (h12.pull2.right.pull3.right).cast (by ac_rfl)⟩
            case measure => simp [intOf]; omega
          · go_wp2
            go_ret
            exact ⟨rfl, h1.right.right.right⟩

end Go.Proofs.Ytcfdnkmllpphfaa
