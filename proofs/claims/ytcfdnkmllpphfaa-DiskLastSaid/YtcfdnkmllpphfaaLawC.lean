/- The disk's statements: the examples at their head; no condition. -/
import Derived.Test.YtcfdnkmllpphfaaLawB
namespace Go.Proofs.Ytcfdnkmllpphfaa
open Go.RowKit Go.MapKept

def ex0 : DiskM := DiskM.new 4
def ex1 : DiskM := (ex0.write 1 (fullS 1)).2
def ex2 : DiskM := ex1.barrier.2
def ex3 : DiskM := (ex2.write 1 (fullS 2)).2
def ex4 : DiskM := (ex3.write 2 (fullS 3)).2
def ex5 : DiskM := ex4.boot [0, 1]
def ex6 : DiskM := ex5.setFuse 1
def ex7 : DiskM := (ex6.write 0 (fullS 4)).2
def ex8 : DiskM := ex7.barrier.2
def ex9 : DiskM := ex8.boot []
theorem ex1_eq : ex0.write 1 (fullS 1) = (0, ex1) := rfl
theorem ex2_eq : ex1.barrier = (0, ex2) := rfl
theorem ex3_eq : ex2.write 1 (fullS 2) = (0, ex3) := rfl
theorem ex4_eq : ex3.write 2 (fullS 3) = (0, ex4) := rfl
theorem ex7_eq : ex6.write 0 (fullS 4) = (0, ex7) := rfl
theorem ex8_eq : ex7.barrier = (2, ex8) := rfl

set_option maxRecDepth 100000 in
set_option maxHeartbeats 400000 in
theorem shown_any {R : Assn} {w : World} (h : Bears w R) :
    Calls Try.prog 9 #[] w fun e w' => e = .returned (.bool true) ∧ Bears w' R := by
  go_enter Try.func9, Try.ntmps9
  go_wp2_with fail
  refine (new_ok h 4 (by omega) (by omega)).mono ?_
  rintro e w1 ⟨p, rfl, h1⟩
  go_wp2_with fail
  refine (new_no w1 0 (by omega)).mono ?_
  rintro e w' ⟨rfl, rfl⟩
  go_wp2_with fail
  refine (full_any h1 1).mono ?_
  rintro e w2 ⟨g, rfl, h2⟩
  go_wp2_with fail
  refine (write_to h2.pull2 ex1_eq (BytesIn.tells _ _ rfl) (by decide)).mono ?_
  rintro e w3 ⟨rfl, h3⟩
  have h4 := h3.pull2.right
  clear h1 h2 h3
  go_wp2_with fail
  refine (barrier_to h4 ex2_eq (by decide)).mono ?_
  rintro e w5 ⟨rfl, h5⟩
  go_wp2_with fail
  refine (full_any h5 2).mono ?_
  rintro e w2 ⟨g, rfl, h2⟩
  go_wp2_with fail
  refine (write_to h2.pull2 ex3_eq (BytesIn.tells _ _ rfl) (by decide)).mono ?_
  rintro e w3 ⟨rfl, h3⟩
  have h6 := h3.pull2.right
  clear h4 h2 h3 h5
  go_wp2_with fail
  refine (full_any h6 3).mono ?_
  rintro e w2 ⟨g, rfl, h2⟩
  go_wp2_with fail
  refine (write_to h2.pull2 ex4_eq (BytesIn.tells _ _ rfl) (by decide)).mono ?_
  rintro e w3 ⟨rfl, h3⟩
  have h7 := h3.pull2.right
  clear h6 h2 h3
  go_wp2_with fail
  refine (waiting_any h7).mono ?_
  rintro e w' ⟨rfl, rfl⟩
  rw [show ((ex4.waits.length : Nat) : Int) = 2 from rfl]
  go_wp2_with fail
  have h8 := h7.alloc (.cells #[.int .i64 0, .int .i64 1] 3)
  clear h7
  go_wp2_with fail
  refine (boot_to (d' := ex5) [0, 1] h8.pull2 rfl rfl (IntsIn.tells (l := [0, 1]) _ _ rfl) (by decide) (by decide) (by decide)).mono ?_
  rintro e w1 ⟨rfl, h1⟩
  have h2 := h1.pull2.right
  clear h8 h1
  go_wp2_with fail
  refine (read_to (s := fullS 1) 1 h2 rfl rfl).mono ?_
  rintro e w3 ⟨gx, rfl, h3⟩
  go_wp2_with fail
  refine (read_to (s := fullS 3) 2 h3.pull2 rfl rfl).mono ?_
  rintro e w4 ⟨gy, rfl, h4⟩
  go_wp2_with fail
  refine (fuse_to (d' := ex6) h4.pull2 rfl (by decide)).mono ?_
  rintro e w5 ⟨rfl, h5⟩
  go_wp2_with fail
  refine (full_any h5 4).mono ?_
  rintro e w6 ⟨g, rfl, h6⟩
  go_wp2_with fail
  refine (write_to h6.pull2 ex7_eq (BytesIn.tells _ _ rfl) (by decide)).mono ?_
  rintro e w7 ⟨rfl, h7⟩
  go_wp2_with fail
  refine (barrier_to h7 ex8_eq (by decide)).mono ?_
  rintro e w8 ⟨rfl, h8⟩
  clear h2 h3 h4 h5 h6 h7
  go_wp2_with fail
  refine (on_any h8).mono ?_
  rintro e w' ⟨rfl, rfl⟩
  rw [show (!ex8.off) = false from rfl]
  go_wp2_with fail
  refine (boot_to (d' := ex9) [] h8 rfl rfl (IntsIn.nil _) (by decide) (by decide) (by decide)).mono ?_
  rintro e w9 ⟨rfl, h9⟩
  go_wp2_with fail
  refine (read_to (s := fullS 0) 0 h9 rfl rfl).mono ?_
  rintro e w10 ⟨gz, rfl, h10⟩
  clear h8 h9
  go_wp2_with fail
  refine wp_region_L (fun w' => Bears w' (Assn.obj gz (.cells (cellsV (fullS 0)).toArray 61 (0, 0)) * (diskA p ex9 * (Assn.obj g (.cells (cellsV (fullS 4)).toArray 5 (0, 0)) *
      (Assn.obj gy (.cells (cellsV (fullS 3)).toArray 61 (0, 0)) * (Assn.obj gx (.cells (cellsV (fullS 1)).toArray 61 (0, 0)) * R)))))) 51
    [(true, 0), (true, 1), (true, 2), (true, 3), (true, 4), (true, 5), (true, 6), (true, 7), (true, 8), (true, 9), (true, 10), (true, 11), (true, 12), (false, 13), (false, 14), (true, 15), (true, 16), (true, 17), (true, 18), (true, 19), (true, 20), (true, 21), (true, 22), (true, 23), (false, 24), (false, 25), (true, 26), (true, 27), (true, 28), (true, 29), (true, 30), (true, 31), (true, 32), (true, 33), (true, 34), (true, 35), (true, 36), (true, 37), (true, 38), (true, 39), (true, 40), (true, 41), (true, 42), (false, 43), (false, 44), (true, 45), (true, 46), (true, 47), (true, 48), (true, 49), (true, 50)] [(true, 51)]
    (by kernel_rfl) (by kernel_rfl) h10.drew ?_
  simp only [pick, List.getElem?_cons_zero, List.getElem?_cons_succ]
  refine wpL_guarded (v := ?_) rfl (fun w' hS => ?_) ?_
  rotate_left
  · (go_simp; try with_reducible rfl)
  simp only [Act.put, List.setIfInBounds_toArray, List.set_cons_zero, List.set_cons_succ]
  refine wpL_guarded (v := ?_) rfl (fun w' hS => ?_) ?_
  rotate_left
  · (go_simp; try with_reducible rfl)
  simp only [Act.put, List.setIfInBounds_toArray, List.set_cons_zero, List.set_cons_succ]
  refine wpL_guarded (v := ?_) rfl (fun w' hS => ?_) ?_
  rotate_left
  · (go_simp; try with_reducible rfl)
  simp only [Act.put, List.setIfInBounds_toArray, List.set_cons_zero, List.set_cons_succ]
  refine wpL_guarded (v := ?_) rfl (fun w' hS => ?_) ?_
  rotate_left
  · (go_simp; try with_reducible rfl)
  simp only [Act.put, List.setIfInBounds_toArray, List.set_cons_zero, List.set_cons_succ]
  refine wpL_guarded (v := ?_) rfl (fun w' hS => ?_) ?_
  rotate_left
  · (go_simp; try with_reducible rfl)
  simp only [Act.put, List.setIfInBounds_toArray, List.set_cons_zero, List.set_cons_succ]
  refine wpL_guarded (v := ?_) rfl (fun w' hS => ?_) ?_
  rotate_left
  · (go_simp; try with_reducible rfl)
  simp only [Act.put, List.setIfInBounds_toArray, List.set_cons_zero, List.set_cons_succ]
  refine wpL_guarded (v := ?_) rfl (fun w' hS => ?_) ?_
  rotate_left
  · (go_simp; try with_reducible rfl)
  simp only [Act.put, List.setIfInBounds_toArray, List.set_cons_zero, List.set_cons_succ]
  refine wpL_guarded (v := ?_) rfl (fun w' hS => ?_) ?_
  rotate_left
  · (go_simp; try with_reducible rfl)
  simp only [Act.put, List.setIfInBounds_toArray, List.set_cons_zero, List.set_cons_succ]
  refine wpL_guarded (v := ?_) rfl (fun w' hS => ?_) ?_
  rotate_left
  · (go_simp; try with_reducible rfl)
  simp only [Act.put, List.setIfInBounds_toArray, List.set_cons_zero, List.set_cons_succ]
  refine wpL_guarded (v := ?_) rfl (fun w' hS => ?_) ?_
  rotate_left
  · (go_simp; try with_reducible rfl)
  simp only [Act.put, List.setIfInBounds_toArray, List.set_cons_zero, List.set_cons_succ]
  refine wpL_guarded (v := ?_) rfl (fun w' hS => ?_) ?_
  rotate_left
  · (go_simp; try with_reducible rfl)
  simp only [Act.put, List.setIfInBounds_toArray, List.set_cons_zero, List.set_cons_succ]
  refine wpL_guarded (v := ?_) rfl (fun w' hS => ?_) ?_
  rotate_left
  · (go_simp; try with_reducible rfl)
  simp only [Act.put, List.setIfInBounds_toArray, List.set_cons_zero, List.set_cons_succ]
  refine wpL_guarded rfl (fun w' hS => exec_convert rfl rfl (run_convert_in (BytesIn.tells _ _ rfl _ hS.pull5))) ?_
  refine wpL_effG rfl ?_
  go_simp
  refine (full_any h10.drew 1).mono ?_
  rintro e w11 ⟨ga, rfl, h11⟩
  refine ⟨h11.right, ?_⟩
  refine wpL_effG rfl (wp_of_run (exec_convert rfl rfl (run_convert_in (BytesIn.tells _ _ rfl _ h11))) ⟨h11.right, ?_⟩)
  simp only [Act.put, List.setIfInBounds_toArray, List.set_cons_zero, List.set_cons_succ]
  refine wpL_guarded (v := ?_) rfl (fun w' hS => ?_) ?_
  rotate_left
  · (go_simp; try with_reducible rfl)
  simp only [Act.put, List.setIfInBounds_toArray, List.set_cons_zero, List.set_cons_succ]
  refine wpL_guarded (v := ?_) rfl (fun w' hS => ?_) ?_
  rotate_left
  · (go_simp; try with_reducible rfl)
  simp only [Act.put, List.setIfInBounds_toArray, List.set_cons_zero, List.set_cons_succ]
  refine wpL_guarded (v := ?_) rfl (fun w' hS => ?_) ?_
  rotate_left
  · (go_simp; try with_reducible rfl)
  simp only [Act.put, List.setIfInBounds_toArray, List.set_cons_zero, List.set_cons_succ]
  refine wpL_guarded (v := ?_) rfl (fun w' hS => ?_) ?_
  rotate_left
  · (go_simp; try with_reducible rfl)
  simp only [Act.put, List.setIfInBounds_toArray, List.set_cons_zero, List.set_cons_succ]
  refine wpL_guarded (v := ?_) rfl (fun w' hS => ?_) ?_
  rotate_left
  · (go_simp; try with_reducible rfl)
  simp only [Act.put, List.setIfInBounds_toArray, List.set_cons_zero, List.set_cons_succ]
  refine wpL_guarded (v := ?_) rfl (fun w' hS => ?_) ?_
  rotate_left
  · (go_simp; try with_reducible rfl)
  simp only [Act.put, List.setIfInBounds_toArray, List.set_cons_zero, List.set_cons_succ]
  refine wpL_guarded (v := ?_) rfl (fun w' hS => ?_) ?_
  rotate_left
  · (go_simp; try with_reducible rfl)
  simp only [Act.put, List.setIfInBounds_toArray, List.set_cons_zero, List.set_cons_succ]
  refine wpL_guarded (v := ?_) rfl (fun w' hS => ?_) ?_
  rotate_left
  · (go_simp; try with_reducible rfl)
  simp only [Act.put, List.setIfInBounds_toArray, List.set_cons_zero, List.set_cons_succ]
  refine wpL_guarded rfl (fun w' hS => exec_convert rfl rfl (run_convert_in (BytesIn.tells _ _ rfl _ hS.pull4))) ?_
  refine wpL_effG rfl ?_
  go_simp
  refine (full_any h11.right 3).mono ?_
  rintro e w12 ⟨gb, rfl, h12⟩
  clear h11 h10
  refine ⟨h12.right, ?_⟩
  refine wpL_effG rfl (wp_of_run (exec_convert rfl rfl (run_convert_in (BytesIn.tells _ _ rfl _ h12))) ⟨h12.right, ?_⟩)
  simp only [Act.put, List.setIfInBounds_toArray, List.set_cons_zero, List.set_cons_succ]
  refine wpL_guarded (v := ?_) rfl (fun w' hS => ?_) ?_
  rotate_left
  · (go_simp; try with_reducible rfl)
  simp only [Act.put, List.setIfInBounds_toArray, List.set_cons_zero, List.set_cons_succ]
  refine wpL_guarded (v := ?_) rfl (fun w' hS => ?_) ?_
  rotate_left
  · (go_simp; try with_reducible rfl)
  simp only [Act.put, List.setIfInBounds_toArray, List.set_cons_zero, List.set_cons_succ]
  refine wpL_guarded (v := ?_) rfl (fun w' hS => ?_) ?_
  rotate_left
  · (go_simp; try with_reducible rfl)
  simp only [Act.put, List.setIfInBounds_toArray, List.set_cons_zero, List.set_cons_succ]
  refine wpL_guarded (v := ?_) rfl (fun w' hS => ?_) ?_
  rotate_left
  · (go_simp; try with_reducible rfl)
  simp only [Act.put, List.setIfInBounds_toArray, List.set_cons_zero, List.set_cons_succ]
  refine wpL_guarded (v := ?_) rfl (fun w' hS => ?_) ?_
  rotate_left
  · (go_simp; try with_reducible rfl)
  simp only [Act.put, List.setIfInBounds_toArray, List.set_cons_zero, List.set_cons_succ]
  refine wpL_guarded (v := ?_) rfl (fun w' hS => ?_) ?_
  rotate_left
  · (go_simp; try with_reducible rfl)
  simp only [Act.put, List.setIfInBounds_toArray, List.set_cons_zero, List.set_cons_succ]
  refine wpL_guarded (v := ?_) rfl (fun w' hS => ?_) ?_
  rotate_left
  · (go_simp; try with_reducible rfl)
  simp only [Act.put, List.setIfInBounds_toArray, List.set_cons_zero, List.set_cons_succ]
  refine wpL_guarded (v := ?_) rfl (fun w' hS => ?_) ?_
  rotate_left
  · (go_simp; try with_reducible rfl)
  simp only [Act.put, List.setIfInBounds_toArray, List.set_cons_zero, List.set_cons_succ]
  refine wpL_guarded (v := ?_) rfl (fun w' hS => ?_) ?_
  rotate_left
  · (go_simp; try with_reducible rfl)
  simp only [Act.put, List.setIfInBounds_toArray, List.set_cons_zero, List.set_cons_succ]
  refine wpL_guarded (v := ?_) rfl (fun w' hS => ?_) ?_
  rotate_left
  · (go_simp; try with_reducible rfl)
  simp only [Act.put, List.setIfInBounds_toArray, List.set_cons_zero, List.set_cons_succ]
  refine wpL_guarded (v := ?_) rfl (fun w' hS => ?_) ?_
  rotate_left
  · (go_simp; try with_reducible rfl)
  simp only [Act.put, List.setIfInBounds_toArray, List.set_cons_zero, List.set_cons_succ]
  refine wpL_guarded (v := ?_) rfl (fun w' hS => ?_) ?_
  rotate_left
  · (go_simp; try with_reducible rfl)
  simp only [Act.put, List.setIfInBounds_toArray, List.set_cons_zero, List.set_cons_succ]
  refine wpL_guarded (v := ?_) rfl (fun w' hS => ?_) ?_
  rotate_left
  · (go_simp; try with_reducible rfl)
  simp only [Act.put, List.setIfInBounds_toArray, List.set_cons_zero, List.set_cons_succ]
  refine wpL_guarded (v := ?_) rfl (fun w' hS => ?_) ?_
  rotate_left
  · (go_simp; try with_reducible rfl)
  simp only [Act.put, List.setIfInBounds_toArray, List.set_cons_zero, List.set_cons_succ]
  refine wpL_guarded (v := ?_) rfl (fun w' hS => ?_) ?_
  rotate_left
  · (go_simp; try with_reducible rfl)
  simp only [Act.put, List.setIfInBounds_toArray, List.set_cons_zero, List.set_cons_succ]
  refine wpL_guarded (v := ?_) rfl (fun w' hS => ?_) ?_
  rotate_left
  · (go_simp; try with_reducible rfl)
  simp only [Act.put, List.setIfInBounds_toArray, List.set_cons_zero, List.set_cons_succ]
  refine wpL_guarded rfl (fun w' hS => exec_convert rfl rfl (run_convert_in (BytesIn.tells _ _ rfl _ hS))) ?_
  refine wpL_effG rfl ?_
  go_simp
  refine (full_any h12.right 0).mono ?_
  rintro e w13 ⟨gc, rfl, h13⟩
  clear h12
  refine ⟨h13.right, ?_⟩
  refine wpL_effG rfl (wp_of_run (exec_convert rfl rfl (run_convert_in (BytesIn.tells _ _ rfl _ h13))) ⟨h13.right, ?_⟩)
  simp only [Act.put, List.setIfInBounds_toArray, List.set_cons_zero, List.set_cons_succ]
  refine wpL_guarded (v := ?_) rfl (fun w' hS => ?_) ?_
  rotate_left
  · (go_simp; try with_reducible rfl)
  simp only [Act.put, List.setIfInBounds_toArray, List.set_cons_zero, List.set_cons_succ]
  refine wpL_guarded (v := ?_) rfl (fun w' hS => ?_) ?_
  rotate_left
  · (go_simp; try with_reducible rfl)
  simp only [Act.put, List.setIfInBounds_toArray, List.set_cons_zero, List.set_cons_succ]
  refine wpL_guarded (v := ?_) rfl (fun w' hS => ?_) ?_
  rotate_left
  · (go_simp; try with_reducible rfl)
  simp only [Act.put, List.setIfInBounds_toArray, List.set_cons_zero, List.set_cons_succ]
  refine wpL_guarded (v := ?_) rfl (fun w' hS => ?_) ?_
  rotate_left
  · (go_simp; try with_reducible rfl)
  simp only [Act.put, List.setIfInBounds_toArray, List.set_cons_zero, List.set_cons_succ]
  refine wpL_guarded (v := ?_) rfl (fun w' hS => ?_) ?_
  rotate_left
  · (go_simp; try with_reducible rfl)
  simp only [Act.put, List.setIfInBounds_toArray, List.set_cons_zero, List.set_cons_succ]
  refine wpL_guarded (v := ?_) rfl (fun w' hS => ?_) ?_
  rotate_left
  · (go_simp; try with_reducible rfl)
  simp only [Act.put, List.setIfInBounds_toArray, List.set_cons_zero, List.set_cons_succ]
  refine wpL_nil ?_
  refine wpL_yield (v := ?_) rfl (fun w' hS => ?_) ?_
  rotate_left
  · (go_simp; try with_reducible rfl)
  simp only [Act.put, List.setIfInBounds_toArray, List.set_cons_zero]
  refine wpL_nil ?_
  go_wp2
  go_ret
  exact ⟨rfl, h13.right.right.right.right.right.right⟩

end Go.Proofs.Ytcfdnkmllpphfaa
