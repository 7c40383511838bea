/- The log's head between two barriers; the making of a log; no condition. -/
import Derived.Test.YtaiobekochhemaaWalW1
import Derived.Test.YtaiobekochhemaaRegion
namespace Go.Proofs.Ytaiobekochhemaa
open Go.RowKit Go.MapKept

/-! ### How many writes wait -/
theorem barrier_waits (d : DiskM) : d.barrier.2.waits.length ≤ d.waits.length := by
  unfold DiskM.barrier
  split
  · simp
  · split
    · rw [step_waits]; omega
    · simp
theorem write_waits (d : DiskM) (i : Int) (s : Sec) : (d.write i s).2.waits.length ≤ d.waits.length + 1 := by
  unfold DiskM.write
  split
  · simp
  · split
    · simp
    · split
      · rw [step_waits]; omega
      · simp

theorem wBoth_no1 {d d1 : DiskM} {at' size : Nat} {g hand r1 : Int} (h1 : d.barrier = (r1, d1)) (h : r1 ≠ 0) : wBoth d at' size g hand = (r1, d1) := by
  unfold wBoth; rw [h1, if_pos h]
theorem wBoth_no2 {d d1 d2 : DiskM} {at' size : Nat} {g hand r2 : Int} (h1 : d.barrier = (0, d1)) (h2 : d1.write at' (headB size g hand) = (r2, d2)) (h : r2 ≠ 0) : wBoth d at' size g hand = (r2, d2) := by
  unfold wBoth; rw [h1]; simp only [h2]; rw [if_neg (by simp), if_pos h]
theorem wBoth_yes {d d1 d2 : DiskM} {at' size : Nat} {g hand : Int} (h1 : d.barrier = (0, d1)) (h2 : d1.write at' (headB size g hand) = (0, d2)) : wBoth d at' size g hand = d2.barrier := by
  unfold wBoth; rw [h1]; simp only [h2]; rw [if_neg (by simp), if_neg (by simp)]

/-- A log in memory. -/
abbrev walObj (x p at' size : Nat) (g : Int) : Assn := Assn.obj x (.cells #[.pointer (some ⟨p, 0, none⟩), .int .i64 at', .int .i64 size, .int .i64 g] 132 (0, 0))
theorem wal_cells {w : World} {x p at' size : Nat} {g : Int} {R : Assn} (h : Bears w (walObj x p at' size g * R)) :
    w.cell? ⟨x, 0, none⟩ = some (.pointer (some ⟨p, 0, none⟩)) ∧ w.cell? ⟨x, 1, none⟩ = some (.int .i64 at') ∧ w.cell? ⟨x, 2, none⟩ = some (.int .i64 size) ∧ w.cell? ⟨x, 3, none⟩ = some (.int .i64 g) ∧ w.frozen? ⟨x, 3, none⟩ = false :=
  ⟨cell_of_obj h.obj 0, cell_of_obj h.obj 1, cell_of_obj h.obj 2, cell_of_obj h.obj 3, frozen_of_obj h.obj 3⟩

set_option maxRecDepth 100000 in
set_option maxHeartbeats 800000 in
theorem both_any {x p at' size : Nat} {g : Int} {d : DiskM} {R : Assn} {w : World} (h : Bears w (walObj x p at' size g * (diskA p d * R))) (hand : Int) (hroom : d.waits.length + 1 < 1099511627776) :
    Calls Try.prog 103 #[.pointer (some ⟨x, 0, none⟩), .int .i64 hand] w fun e w' => e = .returned (.int .i64 (wBoth d at' size g hand).1) ∧ Bears w' (walObj x p at' size g * (diskA p (wBoth d at' size g hand).2 * R)) := by
  obtain ⟨r1, d1, e1⟩ : ∃ r1 d1, d.barrier = (r1, d1) := ⟨_, _, rfl⟩
  have hw1 : d1.waits.length ≤ d.waits.length := by have := barrier_waits d; rw [e1] at this; exact this
  obtain ⟨c0, c1, c2, c3, _⟩ := wal_cells h
  by_cases hr1 : r1 = 0
  · subst hr1
    obtain ⟨r2, d2, e2⟩ : ∃ r2 d2, d1.write at' (headB size g hand) = (r2, d2) := ⟨_, _, rfl⟩
    have hw2 : d2.waits.length ≤ d1.waits.length + 1 := by have := write_waits d1 at' (headB size g hand); rw [e2] at this; exact this
    have hfin1 := fun h => wBoth_no2 (r2 := r2) e1 e2 h
    have hfin2 : r2 = 0 → wBoth d at' size g hand = d2.barrier := by rintro rfl; exact wBoth_yes e1 e2
    generalize wBoth d at' size g hand = fin at hfin1 hfin2 ⊢
    have E1 := Lib.hid e1
    have E2 := Lib.hid e2
    have F1 := Lib.hid hfin1
    have F2 := Lib.hid hfin2
    have hl := headB_length size g hand
    have Hl := Lib.hid hl
    clear e1 e2 hfin1 hfin2 hl
    go_enter Try.func103, Try.ntmps103
    go_wp2_with fail
    refine (barrier_to h.pull2 E1.out (by omega)).mono ?_
    rintro e w1 ⟨rfl, h1⟩
    have h2 := h1.pull2
    clear h h1 c0 c1 c2 c3
    go_wp2_with fail
    refine wp_region_L (fun w' => ∃ d', Bears w' (walObj x p at' size g * (diskA p d' * R))) 19
      [(true, 0), (true, 1), (true, 2), (true, 3), (true, 4), (true, 5), (true, 6), (true, 7), (true, 8), (true, 9), (true, 10), (true, 11), (true, 12), (true, 13), (true, 14), (true, 15), (true, 16), (false, 17), (false, 18)] [(true, 19)] (by kernel_rfl) (by kernel_rfl) ⟨_, h2.drew⟩ ?_
    simp only [pick, List.getElem?_cons_zero, List.getElem?_cons_succ]
    refine wpL_yield (v := ?_) rfl (fun w' hS => ?_) ?_
    rotate_left
    · (obtain ⟨_, hS⟩ := hS; obtain ⟨c0, c1, c2, c3, _⟩ := wal_cells hS; go_simp; try with_reducible rfl)
    simp only [Act.put, List.setIfInBounds_toArray, List.set_cons_zero, List.set_cons_succ]
    refine wpL_yield (v := ?_) rfl (fun w' hS => ?_) ?_
    rotate_left
    · (obtain ⟨_, hS⟩ := hS; obtain ⟨c0, c1, c2, c3, _⟩ := wal_cells hS; go_simp; try with_reducible rfl)
    simp only [Act.put, List.setIfInBounds_toArray, List.set_cons_zero, List.set_cons_succ]
    refine wpL_yield (v := ?_) rfl (fun w' hS => ?_) ?_
    rotate_left
    · (obtain ⟨_, hS⟩ := hS; obtain ⟨c0, c1, c2, c3, _⟩ := wal_cells hS; go_simp; try with_reducible rfl)
    simp only [Act.put, List.setIfInBounds_toArray, List.set_cons_zero, List.set_cons_succ]
    refine wpL_yield (v := ?_) rfl (fun w' hS => ?_) ?_
    rotate_left
    · (obtain ⟨_, hS⟩ := hS; obtain ⟨c0, c1, c2, c3, _⟩ := wal_cells hS; go_simp; try with_reducible rfl)
    simp only [Act.put, List.setIfInBounds_toArray, List.set_cons_zero, List.set_cons_succ]
    refine wpL_yield (v := ?_) rfl (fun w' hS => ?_) ?_
    rotate_left
    · (obtain ⟨_, hS⟩ := hS; obtain ⟨c0, c1, c2, c3, _⟩ := wal_cells hS; go_simp; try with_reducible rfl)
    simp only [Act.put, List.setIfInBounds_toArray, List.set_cons_zero, List.set_cons_succ]
    refine wpL_yield (v := ?_) rfl (fun w' hS => ?_) ?_
    rotate_left
    · (obtain ⟨_, hS⟩ := hS; obtain ⟨c0, c1, c2, c3, _⟩ := wal_cells hS; go_simp; try with_reducible rfl)
    simp only [Act.put, List.setIfInBounds_toArray, List.set_cons_zero, List.set_cons_succ]
    refine wpL_yield (v := ?_) rfl (fun w' hS => ?_) ?_
    rotate_left
    · (obtain ⟨_, hS⟩ := hS; obtain ⟨c0, c1, c2, c3, _⟩ := wal_cells hS; go_simp; try with_reducible rfl)
    simp only [Act.put, List.setIfInBounds_toArray, List.set_cons_zero, List.set_cons_succ]
    refine wpL_yield (v := ?_) rfl (fun w' hS => ?_) ?_
    rotate_left
    · (obtain ⟨_, hS⟩ := hS; obtain ⟨c0, c1, c2, c3, _⟩ := wal_cells hS; go_simp; try with_reducible rfl)
    simp only [Act.put, List.setIfInBounds_toArray, List.set_cons_zero, List.set_cons_succ]
    refine wpL_yield (v := ?_) rfl (fun w' hS => ?_) ?_
    rotate_left
    · (obtain ⟨_, hS⟩ := hS; obtain ⟨c0, c1, c2, c3, _⟩ := wal_cells hS; go_simp; try with_reducible rfl)
    simp only [Act.put, List.setIfInBounds_toArray, List.set_cons_zero, List.set_cons_succ]
    refine wpL_yield (v := ?_) rfl (fun w' hS => ?_) ?_
    rotate_left
    · (obtain ⟨_, hS⟩ := hS; obtain ⟨c0, c1, c2, c3, _⟩ := wal_cells hS; go_simp; try with_reducible rfl)
    simp only [Act.put, List.setIfInBounds_toArray, List.set_cons_zero, List.set_cons_succ]
    refine wpL_yield (v := ?_) rfl (fun w' hS => ?_) ?_
    rotate_left
    · (obtain ⟨_, hS⟩ := hS; obtain ⟨c0, c1, c2, c3, _⟩ := wal_cells hS; go_simp; try with_reducible rfl)
    simp only [Act.put, List.setIfInBounds_toArray, List.set_cons_zero, List.set_cons_succ]
    refine wpL_yield (v := ?_) rfl (fun w' hS => ?_) ?_
    rotate_left
    · (obtain ⟨_, hS⟩ := hS; obtain ⟨c0, c1, c2, c3, _⟩ := wal_cells hS; go_simp; try with_reducible rfl)
    simp only [Act.put, List.setIfInBounds_toArray, List.set_cons_zero, List.set_cons_succ]
    refine wpL_yield (v := ?_) rfl (fun w' hS => ?_) ?_
    rotate_left
    · (obtain ⟨_, hS⟩ := hS; obtain ⟨c0, c1, c2, c3, _⟩ := wal_cells hS; go_simp; try with_reducible rfl)
    simp only [Act.put, List.setIfInBounds_toArray, List.set_cons_zero, List.set_cons_succ]
    refine wpL_yield (v := ?_) rfl (fun w' hS => ?_) ?_
    rotate_left
    · (obtain ⟨_, hS⟩ := hS; obtain ⟨c0, c1, c2, c3, _⟩ := wal_cells hS; go_simp; try with_reducible rfl)
    simp only [Act.put, List.setIfInBounds_toArray, List.set_cons_zero, List.set_cons_succ]
    refine wpL_yield (v := ?_) rfl (fun w' hS => ?_) ?_
    rotate_left
    · (obtain ⟨_, hS⟩ := hS; obtain ⟨c0, c1, c2, c3, _⟩ := wal_cells hS; go_simp; try with_reducible rfl)
    simp only [Act.put, List.setIfInBounds_toArray, List.set_cons_zero, List.set_cons_succ]
    refine wpL_yield (v := ?_) rfl (fun w' hS => ?_) ?_
    rotate_left
    · (obtain ⟨_, hS⟩ := hS; obtain ⟨c0, c1, c2, c3, _⟩ := wal_cells hS; go_simp; try with_reducible rfl)
    simp only [Act.put, List.setIfInBounds_toArray, List.set_cons_zero, List.set_cons_succ]
    refine wpL_yield (v := ?_) rfl (fun w' hS => ?_) ?_
    rotate_left
    · (obtain ⟨_, hS⟩ := hS; obtain ⟨c0, c1, c2, c3, _⟩ := wal_cells hS; go_simp; try with_reducible rfl)
    simp only [Act.put, List.setIfInBounds_toArray, List.set_cons_zero, List.set_cons_succ]
    refine wpL_eff rfl ?_
    go_simp
    refine (whead_any h2.drew size g hand).mono ?_
    rintro e w2 ⟨b, rfl, h3⟩
    refine ⟨⟨_, h3.right⟩, ?_⟩
    refine wpL_eff rfl ?_
    go_simp
    refine (write_to h3.pull3 E2.out (BytesIn.tells _ _ (by rw [Hl.out])) (by omega)).mono ?_
    rintro e w3 ⟨rfl, h4⟩
    have h5 := h4.pull2.right
    have h6 := h5.pull2
    clear h2 h3 h4
    refine ⟨⟨_, h6⟩, ?_⟩
    refine wpL_nil ?_
    refine wpL_yield (v := ?_) rfl (fun w' hS => ?_) ?_
    rotate_left
    · (go_simp; try with_reducible rfl)
    simp only [Act.put, List.setIfInBounds_toArray, List.set_cons_zero, List.set_cons_succ]
    refine wpL_nil ?_
    obtain ⟨c0, c1, c2, c3, _⟩ := wal_cells h6
    by_cases hr2 : r2 = 0
    · have F := Lib.hid (F2.out hr2)
      subst hr2
      obtain ⟨r3, d3, e3⟩ : ∃ r3 d3, d2.barrier = (r3, d3) := ⟨_, _, rfl⟩
      have E3 := Lib.hid e3
      clear e3
      go_wp2_with fail
      refine (barrier_to h5 E3.out (by omega)).mono ?_
      rintro e w4 ⟨rfl, h7⟩
      go_wp2_with fail
      go_ret
      rw [F.out, E3.out]
      exact ⟨rfl, h7.pull2⟩
    · go_wp2_with fail
      go_ret
      rw [F1.out hr2]
      exact ⟨rfl, h6⟩
  · rw [wBoth_no1 e1 hr1]
    have E1 := Lib.hid e1
    clear e1
    go_enter Try.func103, Try.ntmps103
    go_wp2_with fail
    refine (barrier_to h.pull2 E1.out (by omega)).mono ?_
    rintro e w1 ⟨rfl, h1⟩
    go_wp2_with fail
    go_ret
    exact ⟨rfl, h1.pull2⟩

end Go.Proofs.Ytaiobekochhemaa
