/- Texts of this claim, put together: WalW2, WalW3, WalW4; no condition. -/
import Derived.Test.YtcggloceabjjdaaGreatMc5800342ec

set_option linter.unusedSimpArgs false
set_option linter.unusedVariables false

/- The log's head between two barriers; the making of a log; no condition. -/
namespace Go.Proofs.YtcggloceabjjdaaGreat
open Go.RowKit Go.MapKept

/-! ### How many writes wait -/
theorem barrier_waits (d : DiskM) : d.barrier.2.waits.length ≤ d.waits.length := by
  unfold DiskM.barrier
  split
  · simp
  · split
    · rw [step_waits]; omega
    · simp
theorem write_waits (d : DiskM) (i : Int) (s : Sec) : (d.write i s).2.waits.length ≤ d.waits.length + 1 := by
  unfold DiskM.write
  split
  · simp
  · split
    · simp
    · split
      · rw [step_waits]; omega
      · simp

theorem wBoth_no1 {d d1 : DiskM} {at' size : Nat} {g hand r1 : Int} (h1 : d.barrier = (r1, d1)) (h : r1 ≠ 0) : wBoth d at' size g hand = (r1, d1) := by
  unfold wBoth; rw [h1, if_pos h]
theorem wBoth_no2 {d d1 d2 : DiskM} {at' size : Nat} {g hand r2 : Int} (h1 : d.barrier = (0, d1)) (h2 : d1.write at' (headB size g hand) = (r2, d2)) (h : r2 ≠ 0) : wBoth d at' size g hand = (r2, d2) := by
  unfold wBoth; rw [h1]; simp only [h2]; rw [if_neg (by simp), if_pos h]
theorem wBoth_yes {d d1 d2 : DiskM} {at' size : Nat} {g hand : Int} (h1 : d.barrier = (0, d1)) (h2 : d1.write at' (headB size g hand) = (0, d2)) : wBoth d at' size g hand = d2.barrier := by
  unfold wBoth; rw [h1]; simp only [h2]; rw [if_neg (by simp), if_neg (by simp)]

/-- A log in memory. -/
abbrev walObj (x p at' size : Nat) (g : Int) : Assn := Assn.obj x (.cells #[.pointer (some ⟨p, 0, none⟩), .int .i64 at', .int .i64 size, .int .i64 g] 100 (0, 0))
theorem wal_cells {w : World} {x p at' size : Nat} {g : Int} {R : Assn} (h : Bears w (walObj x p at' size g * R)) :
    w.cell? ⟨x, 0, none⟩ = some (.pointer (some ⟨p, 0, none⟩)) ∧ w.cell? ⟨x, 1, none⟩ = some (.int .i64 at') ∧ w.cell? ⟨x, 2, none⟩ = some (.int .i64 size) ∧ w.cell? ⟨x, 3, none⟩ = some (.int .i64 g) ∧ w.frozen? ⟨x, 3, none⟩ = false :=
  ⟨cell_of_obj h.obj 0, cell_of_obj h.obj 1, cell_of_obj h.obj 2, cell_of_obj h.obj 3, frozen_of_obj h.obj 3⟩

set_option maxRecDepth 100000 in
set_option maxHeartbeats 800000 in
theorem both_any {x p at' size : Nat} {g : Int} {d : DiskM} {R : Assn} {w : World} (h : Bears w (walObj x p at' size g * (diskA p d * R))) (hand : Int) (hroom : d.waits.length + 1 < 1099511627776) :
    Calls Tryz.prog 97 #[.pointer (some ⟨x, 0, none⟩), .int .i64 hand] w fun e w' => e = .returned (.int .i64 (wBoth d at' size g hand).1) ∧ Bears w' (walObj x p at' size g * (diskA p (wBoth d at' size g hand).2 * R)) := by
  obtain ⟨r1, d1, e1⟩ : ∃ r1 d1, d.barrier = (r1, d1) := ⟨_, _, rfl⟩
  have hw1 : d1.waits.length ≤ d.waits.length := by have := barrier_waits d; rw [e1] at this; exact this
  obtain ⟨c0, c1, c2, c3, _⟩ := wal_cells h
  by_cases hr1 : r1 = 0
  · subst hr1
    obtain ⟨r2, d2, e2⟩ : ∃ r2 d2, d1.write at' (headB size g hand) = (r2, d2) := ⟨_, _, rfl⟩
    have hw2 : d2.waits.length ≤ d1.waits.length + 1 := by have := write_waits d1 at' (headB size g hand); rw [e2] at this; exact this
    have hfin1 := fun h => wBoth_no2 (r2 := r2) e1 e2 h
    have hfin2 : r2 = 0 → wBoth d at' size g hand = d2.barrier := by rintro rfl; exact wBoth_yes e1 e2
    generalize wBoth d at' size g hand = fin at hfin1 hfin2 ⊢
    have E1 := Lib.hid e1
    have E2 := Lib.hid e2
    have F1 := Lib.hid hfin1
    have F2 := Lib.hid hfin2
    have hl := headB_length size g hand
    have Hl := Lib.hid hl
    clear e1 e2 hfin1 hfin2 hl
    go_enter Tryz.func97, Tryz.ntmps97
    go_wp2_with fail
    refine (barrier_to h.pull2 E1.out (by omega)).mono ?_
    rintro e w1 ⟨rfl, h1⟩
    have h2 := h1.pull2
    clear h h1 c0 c1 c2 c3
    go_wp2_with fail
    refine wp_region_L (fun w' => ∃ d', Bears w' (walObj x p at' size g * (diskA p d' * R))) 19
      [(true, 0), (true, 1), (true, 2), (true, 3), (true, 4), (true, 5), (true, 6), (true, 7), (true, 8), (true, 9), (true, 10), (true, 11), (true, 12), (true, 13), (true, 14), (true, 15), (true, 16), (false, 17), (false, 18)] [(true, 19)] (by kernel_rfl) (by kernel_rfl) ⟨_, h2.drew⟩ ?_
    simp only [pick, List.getElem?_cons_zero, List.getElem?_cons_succ]
    refine wpL_yield (v := ?_) rfl (fun w' hS => ?_) ?_
    rotate_left
    · (obtain ⟨_, hS⟩ := hS; obtain ⟨c0, c1, c2, c3, _⟩ := wal_cells hS; go_simp; try with_reducible rfl)
    simp only [Act.put, List.setIfInBounds_toArray, List.set_cons_zero, List.set_cons_succ]
    refine wpL_yield (v := ?_) rfl (fun w' hS => ?_) ?_
    rotate_left
    · (obtain ⟨_, hS⟩ := hS; obtain ⟨c0, c1, c2, c3, _⟩ := wal_cells hS; go_simp; try with_reducible rfl)
    simp only [Act.put, List.setIfInBounds_toArray, List.set_cons_zero, List.set_cons_succ]
    refine wpL_yield (v := ?_) rfl (fun w' hS => ?_) ?_
    rotate_left
    · (obtain ⟨_, hS⟩ := hS; obtain ⟨c0, c1, c2, c3, _⟩ := wal_cells hS; go_simp; try with_reducible rfl)
    simp only [Act.put, List.setIfInBounds_toArray, List.set_cons_zero, List.set_cons_succ]
    refine wpL_yield (v := ?_) rfl (fun w' hS => ?_) ?_
    rotate_left
    · (obtain ⟨_, hS⟩ := hS; obtain ⟨c0, c1, c2, c3, _⟩ := wal_cells hS; go_simp; try with_reducible rfl)
    simp only [Act.put, List.setIfInBounds_toArray, List.set_cons_zero, List.set_cons_succ]
    refine wpL_yield (v := ?_) rfl (fun w' hS => ?_) ?_
    rotate_left
    · (obtain ⟨_, hS⟩ := hS; obtain ⟨c0, c1, c2, c3, _⟩ := wal_cells hS; go_simp; try with_reducible rfl)
    simp only [Act.put, List.setIfInBounds_toArray, List.set_cons_zero, List.set_cons_succ]
    refine wpL_yield (v := ?_) rfl (fun w' hS => ?_) ?_
    rotate_left
    · (obtain ⟨_, hS⟩ := hS; obtain ⟨c0, c1, c2, c3, _⟩ := wal_cells hS; go_simp; try with_reducible rfl)
    simp only [Act.put, List.setIfInBounds_toArray, List.set_cons_zero, List.set_cons_succ]
    refine wpL_yield (v := ?_) rfl (fun w' hS => ?_) ?_
    rotate_left
    · (obtain ⟨_, hS⟩ := hS; obtain ⟨c0, c1, c2, c3, _⟩ := wal_cells hS; go_simp; try with_reducible rfl)
    simp only [Act.put, List.setIfInBounds_toArray, List.set_cons_zero, List.set_cons_succ]
    refine wpL_yield (v := ?_) rfl (fun w' hS => ?_) ?_
    rotate_left
    · (obtain ⟨_, hS⟩ := hS; obtain ⟨c0, c1, c2, c3, _⟩ := wal_cells hS; go_simp; try with_reducible rfl)
    simp only [Act.put, List.setIfInBounds_toArray, List.set_cons_zero, List.set_cons_succ]
    refine wpL_yield (v := ?_) rfl (fun w' hS => ?_) ?_
    rotate_left
    · (obtain ⟨_, hS⟩ := hS; obtain ⟨c0, c1, c2, c3, _⟩ := wal_cells hS; go_simp; try with_reducible rfl)
    simp only [Act.put, List.setIfInBounds_toArray, List.set_cons_zero, List.set_cons_succ]
    refine wpL_yield (v := ?_) rfl (fun w' hS => ?_) ?_
    rotate_left
    · (obtain ⟨_, hS⟩ := hS; obtain ⟨c0, c1, c2, c3, _⟩ := wal_cells hS; go_simp; try with_reducible rfl)
    simp only [Act.put, List.setIfInBounds_toArray, List.set_cons_zero, List.set_cons_succ]
    refine wpL_yield (v := ?_) rfl (fun w' hS => ?_) ?_
    rotate_left
    · (obtain ⟨_, hS⟩ := hS; obtain ⟨c0, c1, c2, c3, _⟩ := wal_cells hS; go_simp; try with_reducible rfl)
    simp only [Act.put, List.setIfInBounds_toArray, List.set_cons_zero, List.set_cons_succ]
    refine wpL_yield (v := ?_) rfl (fun w' hS => ?_) ?_
    rotate_left
    · (obtain ⟨_, hS⟩ := hS; obtain ⟨c0, c1, c2, c3, _⟩ := wal_cells hS; go_simp; try with_reducible rfl)
    simp only [Act.put, List.setIfInBounds_toArray, List.set_cons_zero, List.set_cons_succ]
    refine wpL_yield (v := ?_) rfl (fun w' hS => ?_) ?_
    rotate_left
    · (obtain ⟨_, hS⟩ := hS; obtain ⟨c0, c1, c2, c3, _⟩ := wal_cells hS; go_simp; try with_reducible rfl)
    simp only [Act.put, List.setIfInBounds_toArray, List.set_cons_zero, List.set_cons_succ]
    refine wpL_yield (v := ?_) rfl (fun w' hS => ?_) ?_
    rotate_left
    · (obtain ⟨_, hS⟩ := hS; obtain ⟨c0, c1, c2, c3, _⟩ := wal_cells hS; go_simp; try with_reducible rfl)
    simp only [Act.put, List.setIfInBounds_toArray, List.set_cons_zero, List.set_cons_succ]
    refine wpL_yield (v := ?_) rfl (fun w' hS => ?_) ?_
    rotate_left
    · (obtain ⟨_, hS⟩ := hS; obtain ⟨c0, c1, c2, c3, _⟩ := wal_cells hS; go_simp; try with_reducible rfl)
    simp only [Act.put, List.setIfInBounds_toArray, List.set_cons_zero, List.set_cons_succ]
    refine wpL_yield (v := ?_) rfl (fun w' hS => ?_) ?_
    rotate_left
    · (obtain ⟨_, hS⟩ := hS; obtain ⟨c0, c1, c2, c3, _⟩ := wal_cells hS; go_simp; try with_reducible rfl)
    simp only [Act.put, List.setIfInBounds_toArray, List.set_cons_zero, List.set_cons_succ]
    refine wpL_yield (v := ?_) rfl (fun w' hS => ?_) ?_
    rotate_left
    · (obtain ⟨_, hS⟩ := hS; obtain ⟨c0, c1, c2, c3, _⟩ := wal_cells hS; go_simp; try with_reducible rfl)
    simp only [Act.put, List.setIfInBounds_toArray, List.set_cons_zero, List.set_cons_succ]
    refine wpL_eff rfl ?_
    go_simp
    refine (whead_any h2.drew size g hand).mono ?_
    rintro e w2 ⟨b, rfl, h3⟩
    refine ⟨⟨_, h3.right⟩, ?_⟩
    refine wpL_eff rfl ?_
    go_simp
    refine (write_to h3.pull3 E2.out (BytesIn.tells _ _ (by rw [Hl.out])) (by omega)).mono ?_
    rintro e w3 ⟨rfl, h4⟩
    have h5 := h4.pull2.right
    have h6 := h5.pull2
    clear h2 h3 h4
    refine ⟨⟨_, h6⟩, ?_⟩
    refine wpL_nil ?_
    refine wpL_yield (v := ?_) rfl (fun w' hS => ?_) ?_
    rotate_left
    · (go_simp; try with_reducible rfl)
    simp only [Act.put, List.setIfInBounds_toArray, List.set_cons_zero, List.set_cons_succ]
    refine wpL_nil ?_
    obtain ⟨c0, c1, c2, c3, _⟩ := wal_cells h6
    by_cases hr2 : r2 = 0
    · have F := Lib.hid (F2.out hr2)
      subst hr2
      obtain ⟨r3, d3, e3⟩ : ∃ r3 d3, d2.barrier = (r3, d3) := ⟨_, _, rfl⟩
      have E3 := Lib.hid e3
      clear e3
      go_wp2_with fail
      refine (barrier_to h5 E3.out (by omega)).mono ?_
      rintro e w4 ⟨rfl, h7⟩
      go_wp2_with fail
      go_ret
      rw [F.out, E3.out]
      exact ⟨rfl, h7.pull2⟩
    · go_wp2_with fail
      go_ret
      rw [F1.out hr2]
      exact ⟨rfl, h6⟩
  · rw [wBoth_no1 e1 hr1]
    have E1 := Lib.hid e1
    clear e1
    go_enter Tryz.func97, Tryz.ntmps97
    go_wp2_with fail
    refine (barrier_to h.pull2 E1.out (by omega)).mono ?_
    rintro e w1 ⟨rfl, h1⟩
    go_wp2_with fail
    go_ret
    exact ⟨rfl, h1.pull2⟩

end Go.Proofs.YtcggloceabjjdaaGreat

/- The log: a group at hand is finished; no condition. -/
namespace Go.Proofs.YtcggloceabjjdaaGreat
open Go.RowKit Go.MapKept

theorem wLoop_succ {d dk : DiskM} {a s k : Nat} (h : wLoop d a s k = (0, dk)) : wLoop d a s (k + 1) = wRound dk a s k := by
  simp only [wLoop, h]; rw [if_neg (by simp)]
theorem wLoop_stop {d : DiskM} {a s k : Nat} (h : (wLoop d a s k).1 ≠ 0) : ∀ n, wLoop d a s (k + n) = wLoop d a s k
  | 0 => rfl
  | n + 1 => by
    have e := wLoop_stop h n
    show (if (wLoop d a s (k + n)).1 ≠ 0 then wLoop d a s (k + n) else _) = _
    rw [e, if_pos h]
theorem wFinish_stop {d dk : DiskM} {a s k n : Nat} {g r : Int} (h : wLoop d a s k = (r, dk)) (hr : r ≠ 0) (hk : k ≤ n) : wFinish d a s g n = (r, dk) := by
  obtain ⟨m, rfl⟩ := Nat.exists_eq_add_of_le hk
  unfold wFinish
  rw [wLoop_stop (by rw [h]; exact hr) m, h, if_pos hr]
theorem wFinish_go {d dn : DiskM} {a s n : Nat} {g : Int} (h : wLoop d a s n = (0, dn)) : wFinish d a s g n = wBoth dn a s g 0 := by
  unfold wFinish; rw [h, if_neg (by simp)]
theorem wRound_no1 {d : DiskM} {a s i : Nat} (h : d.check ((a + 1 + i / 32 : Nat) : Int) ≠ 0) : wRound d a s i = (d.check ((a + 1 + i / 32 : Nat) : Int), d) := by
  unfold wRound; rw [if_pos h]
theorem wRound_no2 {d : DiskM} {a s i : Nat} (h1 : d.check ((a + 1 + i / 32 : Nat) : Int) = 0) (h : d.check ((wFirst a s + i : Nat) : Int) ≠ 0) : wRound d a s i = (d.check ((wFirst a s + i : Nat) : Int), d) := by
  unfold wRound; rw [if_neg (fun h' => h' h1), if_pos h]
theorem wRound_go {d d2 : DiskM} {a s i : Nat} {r : Int} (h1 : d.check ((a + 1 + i / 32 : Nat) : Int) = 0) (h2 : d.check ((wFirst a s + i : Nat) : Int) = 0) (h : d.write (wTo d a i) (d.now (wFirst a s + i)) = (r, d2)) :
    wRound d a s i = (if r = 0 then 0 else if r = 2 then 2 else 4, d2) := by
  unfold wRound; rw [if_neg (fun h' => h' h1), if_neg (fun h' => h' h2), h]
theorem wRound_waits (d : DiskM) (a s i : Nat) : (wRound d a s i).2.waits.length ≤ d.waits.length + 1 := by
  unfold wRound
  split
  · simp
  · split
    · simp
    · exact write_waits _ _ _
theorem wLoop_waits (d : DiskM) (a s : Nat) : ∀ k, (wLoop d a s k).2.waits.length ≤ d.waits.length + k
  | 0 => Nat.le_refl _
  | k + 1 => by
    have := wLoop_waits d a s k
    simp only [wLoop]
    split
    · omega
    · have := wRound_waits (wLoop d a s k).2 a s k
      omega

/-- The number in two bytes of a sector that was read. -/
theorem pair_tells {g : Nat} {s : Sec} {t : TypeId} {R : Assn} {v : Nat} (hs : s.length = 64) (hk : v + 2 ≤ 64) :
    (Assn.obj g (.cells (cellsV s).toArray t (0, 0)) * R).Tells (fun w => BytesIn w (.slice (some ⟨g, v, none⟩) 2 2) ((s.drop v).take 2)) := by
  intro w h
  have hl : ((s.drop v).take 2).length = 2 := by simp [hs]; omega
  refine ⟨_, 2, by rw [hl], fun _ => ⟨g, v, rfl, fun j u hv => ?_⟩⟩
  have hj : j < 2 := by
    have := (List.getElem?_eq_some_iff.1 hv).1
    simpa [hl] using this
  rw [cell_of_obj h.obj]
  rw [← hv]
  simp [cellsV, hj]

theorem pair_tells_at {g : Nat} {s : Sec} {t : TypeId} {A B C R : Assn} {v : Nat} (hs : s.length = 64) (hk : v + 2 ≤ 64) :
    (A * (B * (C * (Assn.obj g (.cells (cellsV s).toArray t (0, 0)) * R)))).Tells (fun w => BytesIn w (.slice (some ⟨g, v, none⟩) 2 2) ((s.drop v).take 2)) :=
  (pair_tells hs hk).right.right.right

set_option maxRecDepth 100000 in
set_option maxHeartbeats 1600000 in
theorem finish_any {x p at' size : Nat} {g : Int} {d : DiskM} {R : Assn} {w : World} (h : Bears w (walObj x p at' size g * (diskA p d * R))) (n : Nat) (hroom : d.waits.length + n + 1 < 1099511627776) (hn : n ≤ 100000) (ha : at' ≤ 100000) (hs : size ≤ 100000) :
    Calls Tryz.prog 83 #[.pointer (some ⟨x, 0, none⟩), .int .i64 n] w fun e w' => e = .returned (.int .i64 (wFinish d at' size g n).1) ∧ Bears w' (walObj x p at' size g * (diskA p (wFinish d at' size g n).2 * R)) := by
  have hr1 : roomN size ≤ size := by unfold roomN; split <;> omega
  have hl1 : listsN (roomN size) ≤ size := by unfold listsN; omega
  have hfirst : ((wFirst at' size : Nat) : Int) = (at' : Int) + 1 + (listsN (roomN size) : Nat) := by unfold wFirst; omega
  have hfb : wFirst at' size ≤ 300000 := by unfold wFirst; omega
  have Hfirst := Lib.hid hfirst
  clear hfirst
  go_enter Tryz.func83, Tryz.ntmps83
  go_wp2_with fail
  refine wp_region_L (fun w' => Bears w' (walObj x p at' size g * (diskA p d * R))) 12
    [(true, 0), (true, 1), (true, 2), (true, 3), (true, 4), (true, 5), (true, 6), (true, 7), (false, 8), (false, 9), (false, 10), (true, 11)] [(true, 12)] (by kernel_rfl) (by kernel_rfl) h.drew ?_
  simp only [pick, List.getElem?_cons_zero, List.getElem?_cons_succ]
  have q1 : IntKind.i64.wrap ((at' : Int) + 1) = (at' : Int) + 1 := IntWalk.i64_in _ (by omega)
  refine wpL_yield (v := ?_) rfl (fun w' hS => ?_) ?_
  rotate_left
  · (obtain ⟨c0, c1, c2, c3, _⟩ := wal_cells hS; go_simp; try with_reducible rfl)
  simp only [Act.put, List.setIfInBounds_toArray, List.set_cons_zero, List.set_cons_succ]
  refine wpL_yield (v := ?_) rfl (fun w' hS => ?_) ?_
  rotate_left
  · (obtain ⟨c0, c1, c2, c3, _⟩ := wal_cells hS; go_simp; try with_reducible rfl)
  simp only [Act.put, List.setIfInBounds_toArray, List.set_cons_zero, List.set_cons_succ]
  refine wpL_yield (v := ?_) rfl (fun w' hS => ?_) ?_
  rotate_left
  · (obtain ⟨c0, c1, c2, c3, _⟩ := wal_cells hS; go_simp; try with_reducible rfl)
  simp only [Act.put, List.setIfInBounds_toArray, List.set_cons_zero, List.set_cons_succ]
  refine wpL_yield (v := ?_) rfl (fun w' hS => ?_) ?_
  rotate_left
  · (obtain ⟨c0, c1, c2, c3, _⟩ := wal_cells hS; go_simp; try with_reducible rfl)
  simp only [Act.put, List.setIfInBounds_toArray, List.set_cons_zero, List.set_cons_succ]
  refine wpL_yield (v := ?_) rfl (fun w' hS => ?_) ?_
  rotate_left
  · (obtain ⟨c0, c1, c2, c3, _⟩ := wal_cells hS; go_simp; try with_reducible rfl)
  simp only [Act.put, List.setIfInBounds_toArray, List.set_cons_zero, List.set_cons_succ]
  refine wpL_yield (v := ?_) rfl (fun w' hS => ?_) ?_
  rotate_left
  · (obtain ⟨c0, c1, c2, c3, _⟩ := wal_cells hS; go_simp; try with_reducible rfl)
  simp only [Act.put, List.setIfInBounds_toArray, List.set_cons_zero, List.set_cons_succ]
  refine wpL_yield (v := ?_) rfl (fun w' hS => ?_) ?_
  rotate_left
  · (obtain ⟨c0, c1, c2, c3, _⟩ := wal_cells hS; go_simp; try with_reducible rfl)
  simp only [Act.put, List.setIfInBounds_toArray, List.set_cons_zero, List.set_cons_succ]
  refine wpL_yield (v := ?_) rfl (fun w' hS => ?_) ?_
  rotate_left
  · (obtain ⟨c0, c1, c2, c3, _⟩ := wal_cells hS; go_simp; try with_reducible rfl)
  simp only [Act.put, List.setIfInBounds_toArray, List.set_cons_zero, List.set_cons_succ]
  obtain ⟨c0, c1, c2, c3, _⟩ := wal_cells h.drew
  refine wpL_eff rfl ?_
  go_simp
  refine ⟨h.drew, ?_⟩
  refine wpL_eff rfl ?_
  go_simp
  refine (room_any w.drew size (by omega)).mono ?_
  rintro e w1 ⟨rfl, rfl⟩
  refine ⟨h.drew, ?_⟩
  refine wpL_eff rfl ?_
  go_simp
  refine (lists_any w.drew (roomN size) (by omega)).mono ?_
  rintro e w1 ⟨rfl, rfl⟩
  refine ⟨h.drew, ?_⟩
  have q2 : IntKind.i64.wrap ((at' : Int) + 1 + (listsN (roomN size) : Nat)) = (wFirst at' size : Nat) := by rw [Hfirst.out]; exact IntWalk.i64_in _ (by omega)
  refine wpL_yield (v := ?_) rfl (fun w' hS => ?_) ?_
  rotate_left
  · (go_simp; try with_reducible rfl)
  simp only [Act.put, List.setIfInBounds_toArray, List.set_cons_zero, List.set_cons_succ]
  refine wpL_nil ?_
  refine wpL_yield (v := ?_) rfl (fun w' hS => ?_) ?_
  rotate_left
  · (go_simp; try with_reducible rfl)
  simp only [Act.put, List.setIfInBounds_toArray, List.set_cons_zero, List.set_cons_succ]
  refine wpL_nil ?_
  have h1 := h.drew
  generalize w.drew = w1 at h1
  clear c0 c1 c2 c3 q1 q2
  go_wp2_with fail
  go_loopw [25] (fun i wr => ∃ k : Nat, k ≤ n ∧ i = .int .i64 k ∧ ∃ dk : DiskM, wLoop d at' size k = (0, dk) ∧ Bears wr (walObj x p at' size g * (diskA p dk * R)))
    (fun i _ => n - (intOf i).toNat)
  case atStart => exact ⟨0, by omega, rfl, d, rfl, h1⟩
  case round =>
    obtain ⟨k, hk, rfl, dk, hdk, h2⟩ := hrel
    have hwk : dk.waits.length ≤ d.waits.length + k := by have := wLoop_waits d at' size k; rw [hdk] at this; exact this
    by_cases hlt : k < n
    · have hsucc := wLoop_succ hdk
      have Hdk := Lib.hid hdk
      clear hdk
      have k0 : IntKind.i64.wrap ((at' : Int) + 1) = (at' : Int) + 1 := IntWalk.i64_in _ (by omega)
      have k1 : (k : Int).tdiv 32 = (k : Int) / 32 := Int.tdiv_eq_ediv_of_nonneg (by omega)
      have k2 : IntKind.i64.wrap ((at' : Int) + 1 + (k : Int) / 32) = ((at' + 1 + k / 32 : Nat) : Int) := by rw [IntWalk.i64_in _ (by omega)]; omega
      have k3 : IntKind.i64.wrap ((k : Int) / 32) = (k : Int) / 32 := IntWalk.i64_in _ (by omega)
      by_cases hc1 : dk.check ((at' + 1 + k / 32 : Nat) : Int) = 0
      · have hs1 : (dk.now (at' + 1 + k / 32)).length = 64 := by obtain ⟨_, _, _, _, _, hwf, _⟩ := Bears.disk.1 h2.pull2; exact hwf.now _
        have hto : wTo dk at' k = takenB (((dk.now (at' + 1 + k / 32)).drop (k % 32 * 2)).take 2) := rfl
        obtain ⟨s1, hs1e⟩ : ∃ s, dk.now (at' + 1 + k / 32) = s := ⟨_, rfl⟩
        rw [hs1e] at hs1 hto
        have Hs1 := Lib.hid hs1e
        clear hs1e
        have Hc1 := Lib.hid hc1
        have Hto := Lib.hid hto
        clear hc1 hto
        go_wp2_with fail
        refine wp_region_L (fun w' => ∃ Q, Bears w' (walObj x p at' size g * Q)) 17
          [(true, 0), (true, 1), (true, 2), (true, 3), (true, 4), (true, 5), (true, 6), (true, 7), (true, 8), (true, 9), (true, 10), (true, 11), (false, 12), (true, 13), (true, 14), (true, 15), (true, 16)] [(true, 17)] (by kernel_rfl) (by kernel_rfl) ⟨_, h2.drew⟩ ?_
        simp only [pick, List.getElem?_cons_zero, List.getElem?_cons_succ]
        refine wpL_yield (v := ?_) rfl (fun w' hS => ?_) ?_
        rotate_left
        · (obtain ⟨_, hS⟩ := hS; obtain ⟨c0, c1, c2, c3, _⟩ := wal_cells hS; go_simp; try with_reducible rfl)
        simp only [Act.put, List.setIfInBounds_toArray, List.set_cons_zero, List.set_cons_succ]
        refine wpL_yield (v := ?_) rfl (fun w' hS => ?_) ?_
        rotate_left
        · (obtain ⟨_, hS⟩ := hS; obtain ⟨c0, c1, c2, c3, _⟩ := wal_cells hS; go_simp; try with_reducible rfl)
        simp only [Act.put, List.setIfInBounds_toArray, List.set_cons_zero, List.set_cons_succ]
        refine wpL_yield (v := ?_) rfl (fun w' hS => ?_) ?_
        rotate_left
        · (obtain ⟨_, hS⟩ := hS; obtain ⟨c0, c1, c2, c3, _⟩ := wal_cells hS; go_simp; try with_reducible rfl)
        simp only [Act.put, List.setIfInBounds_toArray, List.set_cons_zero, List.set_cons_succ]
        refine wpL_yield (v := ?_) rfl (fun w' hS => ?_) ?_
        rotate_left
        · (obtain ⟨_, hS⟩ := hS; obtain ⟨c0, c1, c2, c3, _⟩ := wal_cells hS; go_simp; try with_reducible rfl)
        simp only [Act.put, List.setIfInBounds_toArray, List.set_cons_zero, List.set_cons_succ]
        refine wpL_yield (v := ?_) rfl (fun w' hS => ?_) ?_
        rotate_left
        · (obtain ⟨_, hS⟩ := hS; obtain ⟨c0, c1, c2, c3, _⟩ := wal_cells hS; go_simp; try with_reducible rfl)
        simp only [Act.put, List.setIfInBounds_toArray, List.set_cons_zero, List.set_cons_succ]
        refine wpL_yield (v := ?_) rfl (fun w' hS => ?_) ?_
        rotate_left
        · (obtain ⟨_, hS⟩ := hS; obtain ⟨c0, c1, c2, c3, _⟩ := wal_cells hS; go_simp; try with_reducible rfl)
        simp only [Act.put, List.setIfInBounds_toArray, List.set_cons_zero, List.set_cons_succ]
        refine wpL_yield (v := ?_) rfl (fun w' hS => ?_) ?_
        rotate_left
        · (obtain ⟨_, hS⟩ := hS; obtain ⟨c0, c1, c2, c3, _⟩ := wal_cells hS; go_simp; try with_reducible rfl)
        simp only [Act.put, List.setIfInBounds_toArray, List.set_cons_zero, List.set_cons_succ]
        refine wpL_yield (v := ?_) rfl (fun w' hS => ?_) ?_
        rotate_left
        · (obtain ⟨_, hS⟩ := hS; obtain ⟨c0, c1, c2, c3, _⟩ := wal_cells hS; go_simp; try with_reducible rfl)
        simp only [Act.put, List.setIfInBounds_toArray, List.set_cons_zero, List.set_cons_succ]
        refine wpL_yield (v := ?_) rfl (fun w' hS => ?_) ?_
        rotate_left
        · (obtain ⟨_, hS⟩ := hS; obtain ⟨c0, c1, c2, c3, _⟩ := wal_cells hS; go_simp; try with_reducible rfl)
        simp only [Act.put, List.setIfInBounds_toArray, List.set_cons_zero, List.set_cons_succ]
        refine wpL_yield (v := ?_) rfl (fun w' hS => ?_) ?_
        rotate_left
        · (obtain ⟨_, hS⟩ := hS; obtain ⟨c0, c1, c2, c3, _⟩ := wal_cells hS; go_simp; try with_reducible rfl)
        simp only [Act.put, List.setIfInBounds_toArray, List.set_cons_zero, List.set_cons_succ]
        refine wpL_yield (v := ?_) rfl (fun w' hS => ?_) ?_
        rotate_left
        · (obtain ⟨_, hS⟩ := hS; obtain ⟨c0, c1, c2, c3, _⟩ := wal_cells hS; go_simp; try with_reducible rfl)
        simp only [Act.put, List.setIfInBounds_toArray, List.set_cons_zero, List.set_cons_succ]
        refine wpL_yield (v := ?_) rfl (fun w' hS => ?_) ?_
        rotate_left
        · (obtain ⟨_, hS⟩ := hS; obtain ⟨c0, c1, c2, c3, _⟩ := wal_cells hS; go_simp; try with_reducible rfl)
        simp only [Act.put, List.setIfInBounds_toArray, List.set_cons_zero, List.set_cons_succ]
        refine wpL_eff rfl ?_
        go_simp
        refine (read_to (s := s1) _ h2.drew.pull2 Hc1.out Hs1.out).mono ?_
        rintro e w2 ⟨g1, rfl, h3⟩
        refine ⟨⟨_, h3.pull3⟩, ?_⟩
        refine wpL_yield (v := ?_) rfl (fun w' hS => ?_) ?_
        rotate_left
        · (go_simp; try with_reducible rfl)
        simp only [Act.put, List.setIfInBounds_toArray, List.set_cons_zero, List.set_cons_succ]
        refine wpL_yield (v := ?_) rfl (fun w' hS => ?_) ?_
        rotate_left
        · (go_simp; try with_reducible rfl)
        simp only [Act.put, List.setIfInBounds_toArray, List.set_cons_zero, List.set_cons_succ]
        refine wpL_yield (v := ?_) rfl (fun w' hS => ?_) ?_
        rotate_left
        · (go_simp; try with_reducible rfl)
        simp only [Act.put, List.setIfInBounds_toArray, List.set_cons_zero, List.set_cons_succ]
        refine wpL_yield (v := ?_) rfl (fun w' hS => ?_) ?_
        rotate_left
        · (go_simp; try with_reducible rfl)
        simp only [Act.put, List.setIfInBounds_toArray, List.set_cons_zero, List.set_cons_succ]
        refine wpL_nil ?_
        refine wpL_yield (v := ?_) rfl (fun w' hS => ?_) ?_
        rotate_left
        · (go_simp; try with_reducible rfl)
        simp only [Act.put, List.setIfInBounds_toArray, List.set_cons_zero, List.set_cons_succ]
        refine wpL_nil ?_
        obtain ⟨c0, c1, c2, c3, _⟩ := wal_cells h3.pull3
        have e2 : ((wFirst at' size + k : Nat) : Int) = (wFirst at' size : Nat) + (k : Int) := by omega
        by_cases hc2 : dk.check ((wFirst at' size + k : Nat) : Int) = 0
        · obtain ⟨s2, hs2e⟩ : ∃ s, dk.now (wFirst at' size + k) = s := ⟨_, rfl⟩
          have hs2 : s2.length = 64 := by rw [← hs2e]; obtain ⟨_, _, _, _, _, hwf, _⟩ := Bears.disk.1 h2.pull2; exact hwf.now _
          obtain ⟨r, d2, hwr⟩ : ∃ r d2, dk.write (wTo dk at' k) s2 = (r, d2) := ⟨_, _, rfl⟩
          have hround := wRound_go (r := r) (d2 := d2) Hc1.out hc2 (by rw [hs2e]; exact hwr)
          rw [hround] at hsucc
          rw [Hto.out] at hwr
          rw [e2] at hc2
          have Hc2 := Lib.hid hc2
          have Hs2 := Lib.hid (show dk.now (Int.toNat ((wFirst at' size : Nat) + (k : Int))) = s2 from hs2e)
          have Hwr := Lib.hid hwr
          have Hsucc := Lib.hid hsucc
          clear hc2 hs2e hwr hround hsucc e2
          go_wp2_with fail
          refine (read_to (s := s2) _ h3.pull2 Hc2.out Hs2.out).mono ?_
          rintro e w3 ⟨g2, rfl, h4⟩
          have m0 : (k : Int).tmod 32 = (k : Int) % 32 := Int.tmod_eq_emod_of_nonneg (by omega)
          have m1 : 0 ≤ (k : Int) % 32 ∧ (k : Int) % 32 < 32 := ⟨by omega, by omega⟩
          go_wp2_with fail
          have m2 : ∃ j : Nat, j + 2 ≤ 64 ∧ (k : Int) % 32 * 2 = (j : Int) ∧ k % 32 * 2 = j := ⟨k % 32 * 2, by omega, by omega, rfl⟩
          obtain ⟨j, hj, m3, m4⟩ := m2
          have Hw := Hwr.out
          rw [m4] at Hw
          rw [m3]
          have HW := Lib.hid Hw
          have h5 := h4.pull4
          clear m0 m1 m3 m4 Hw c0 c1 c2 c3
          refine wp_region_L (fun w' => ∃ Q, Bears w' (walObj x p at' size g * Q)) 14
            [(true, 0), (true, 1), (true, 2), (true, 3), (true, 4), (true, 5), (true, 6), (true, 7), (true, 8), (true, 9), (true, 10), (true, 12), (false, 11), (false, 13)] [(true, 14)] (by kernel_rfl) (by kernel_rfl) ⟨_, h5.drew⟩ ?_
          simp only [pick, List.getElem?_cons_zero, List.getElem?_cons_succ]
          have q1 : IntKind.i64.wrap ((j : Int) + 2) = (j : Int) + 2 := IntWalk.i64_in _ (by omega)
          refine wpL_yield (v := ?_) rfl (fun w' hS => ?_) ?_
          rotate_left
          · (obtain ⟨_, hS⟩ := hS; obtain ⟨c0, c1, c2, c3, _⟩ := wal_cells hS; go_simp; try with_reducible rfl)
          simp only [Act.put, List.setIfInBounds_toArray, List.set_cons_zero, List.set_cons_succ]
          refine wpL_yield (v := ?_) rfl (fun w' hS => ?_) ?_
          rotate_left
          · (obtain ⟨_, hS⟩ := hS; obtain ⟨c0, c1, c2, c3, _⟩ := wal_cells hS; go_simp; try with_reducible rfl)
          simp only [Act.put, List.setIfInBounds_toArray, List.set_cons_zero, List.set_cons_succ]
          refine wpL_yield (v := ?_) rfl (fun w' hS => ?_) ?_
          rotate_left
          · (obtain ⟨_, hS⟩ := hS; obtain ⟨c0, c1, c2, c3, _⟩ := wal_cells hS; go_simp; try with_reducible rfl)
          simp only [Act.put, List.setIfInBounds_toArray, List.set_cons_zero, List.set_cons_succ]
          refine wpL_yield (v := ?_) rfl (fun w' hS => ?_) ?_
          rotate_left
          · (obtain ⟨_, hS⟩ := hS; obtain ⟨c0, c1, c2, c3, _⟩ := wal_cells hS; go_simp; try with_reducible rfl)
          simp only [Act.put, List.setIfInBounds_toArray, List.set_cons_zero, List.set_cons_succ]
          refine wpL_yield (v := ?_) rfl (fun w' hS => ?_) ?_
          rotate_left
          · (obtain ⟨_, hS⟩ := hS; obtain ⟨c0, c1, c2, c3, _⟩ := wal_cells hS; go_simp; try with_reducible rfl)
          simp only [Act.put, List.setIfInBounds_toArray, List.set_cons_zero, List.set_cons_succ]
          refine wpL_yield (v := ?_) rfl (fun w' hS => ?_) ?_
          rotate_left
          · (obtain ⟨_, hS⟩ := hS; obtain ⟨c0, c1, c2, c3, _⟩ := wal_cells hS; go_simp; try with_reducible rfl)
          simp only [Act.put, List.setIfInBounds_toArray, List.set_cons_zero, List.set_cons_succ]
          refine wpL_yield (v := ?_) rfl (fun w' hS => ?_) ?_
          rotate_left
          · (obtain ⟨_, hS⟩ := hS; obtain ⟨c0, c1, c2, c3, _⟩ := wal_cells hS; go_simp; try with_reducible rfl)
          simp only [Act.put, List.setIfInBounds_toArray, List.set_cons_zero, List.set_cons_succ]
          refine wpL_yield (v := ?_) rfl (fun w' hS => ?_) ?_
          rotate_left
          · (obtain ⟨_, hS⟩ := hS; obtain ⟨c0, c1, c2, c3, _⟩ := wal_cells hS; go_simp; try with_reducible rfl)
          simp only [Act.put, List.setIfInBounds_toArray, List.set_cons_zero, List.set_cons_succ]
          refine wpL_yield (v := ?_) rfl (fun w' hS => ?_) ?_
          rotate_left
          · (obtain ⟨_, hS⟩ := hS; obtain ⟨c0, c1, c2, c3, _⟩ := wal_cells hS; go_simp; try with_reducible rfl)
          simp only [Act.put, List.setIfInBounds_toArray, List.set_cons_zero, List.set_cons_succ]
          refine wpL_yield (v := ?_) rfl (fun w' hS => ?_) ?_
          rotate_left
          · (obtain ⟨_, hS⟩ := hS; obtain ⟨c0, c1, c2, c3, _⟩ := wal_cells hS; go_simp; try with_reducible rfl)
          simp only [Act.put, List.setIfInBounds_toArray, List.set_cons_zero, List.set_cons_succ]
          have hz8 : ∀ w, (Go.sizeOf 5).run Tryz.prog w = .ok 1 w := fun w => by kernel_rfl
          refine wpL_yield rfl (fun w' hS => exec_slice3 (lo := j) (hi := j + 2) (mx := j + 2) rfl Tryz.underlying34 (hz8 w') rfl rfl (by go_simp) (by go_simp) (by omega) (by omega) (by omega)) ?_
          simp only [Act.put, List.setIfInBounds_toArray, List.set_cons_zero, List.set_cons_succ]
          rw [show j + 2 - j = 2 by omega]
          refine wpL_yield (v := ?_) rfl (fun w' hS => ?_) ?_
          rotate_left
          · (go_simp; try with_reducible rfl)
          simp only [Act.put, List.setIfInBounds_toArray, List.set_cons_zero, List.set_cons_succ]
          refine wpL_eff rfl ?_
          go_simp
          refine (taken_any h5.drew (pair_tells_at hs1 hj) (by simp [hs1]; omega)).mono ?_
          rintro e w4 ⟨rfl, h6⟩
          refine ⟨⟨_, h6⟩, ?_⟩
          refine wpL_eff rfl ?_
          go_simp
          refine (write_to h6.pull3 HW.out (BytesIn.tells _ _ (by rw [hs2])).right (by omega)).mono ?_
          rintro e w5 ⟨rfl, h7⟩
          refine ⟨⟨_, h7.pull2⟩, ?_⟩
          refine wpL_nil ?_
          refine wpL_yield (v := ?_) rfl (fun w' hS => ?_) ?_
          rotate_left
          · (go_simp; try with_reducible rfl)
          simp only [Act.put, List.setIfInBounds_toArray, List.set_cons_zero, List.set_cons_succ]
          refine wpL_nil ?_
          have h8 : Bears w5 (walObj x p at' size g * (diskA p d2 * R)) := (h7.pull3.right.pull3.right).cast (by ac_rfl)
          clear h3 h4 h5 h6 h7 q1
          by_cases hr0 : r = 0
          · subst hr0
            have HS := Hsucc.out
            rw [if_pos rfl] at HS
            clear HW Hwr Hsucc
            go_wp2_with fail
            go_roundw
            case rel => exact ⟨k + 1, hlt, by go_num, d2, HS, h8⟩
            case measure => simp [intOf]; omega
          · by_cases hr2 : r = 2
            · subst hr2
              have HS := Hsucc.out
              rw [if_neg (by decide), if_pos rfl] at HS
              have Hstop := Lib.hid (wFinish_stop (g := g) (n := n) HS (by decide) (by omega))
              clear HW Hwr Hsucc HS
              go_wp2_with fail
              go_ret
              rw [Hstop.out]
              exact ⟨rfl, h8⟩
            · have HS := Hsucc.out
              rw [if_neg hr0, if_neg hr2] at HS
              have Hstop := Lib.hid (wFinish_stop (g := g) (n := n) HS (by decide) (by omega))
              clear HW Hwr Hsucc HS
              go_wp2_with fail
              go_ret
              rw [Hstop.out]
              exact ⟨rfl, h8⟩
        · rw [wRound_no2 Hc1.out hc2] at hsucc
          have Hstop := Lib.hid (wFinish_stop (g := g) (n := n) hsucc hc2 (by omega))
          obtain ⟨c, hcc⟩ : ∃ c, dk.check ((wFirst at' size + k : Nat) : Int) = c := ⟨_, rfl⟩
          rw [hcc] at hc2 Hstop
          rw [e2] at hcc
          have Hcc := Lib.hid hcc
          clear hsucc hcc e2
          go_wp2_with fail
          refine (read_bad h3.pull2 _ Hcc.out hc2).mono ?_
          rintro e w3 ⟨rfl, rfl⟩
          go_wp2_with fail
          go_ret
          rw [Hstop.out]
          exact ⟨rfl, h3.right.pull2⟩
      · rw [wRound_no1 hc1] at hsucc
        have Hstop := Lib.hid (wFinish_stop (g := g) (n := n) hsucc hc1 (by omega))
        obtain ⟨c, hcc⟩ : ∃ c, dk.check ((at' + 1 + k / 32 : Nat) : Int) = c := ⟨_, rfl⟩
        rw [hcc] at hc1 Hstop
        have Hcc := Lib.hid hcc
        clear hsucc hcc
        go_wp2_with fail
        refine wp_region_L (fun w' => Bears w' (walObj x p at' size g * (diskA p dk * R))) 17
          [(true, 0), (true, 1), (true, 2), (true, 3), (true, 4), (true, 5), (true, 6), (true, 7), (true, 8), (true, 9), (true, 10), (true, 11), (false, 12), (true, 13), (true, 14), (true, 15), (true, 16)] [(true, 17)] (by kernel_rfl) (by kernel_rfl) h2.drew ?_
        simp only [pick, List.getElem?_cons_zero, List.getElem?_cons_succ]
        refine wpL_yield (v := ?_) rfl (fun w' hS => ?_) ?_
        rotate_left
        · (obtain ⟨c0, c1, c2, c3, _⟩ := wal_cells hS; go_simp; try with_reducible rfl)
        simp only [Act.put, List.setIfInBounds_toArray, List.set_cons_zero, List.set_cons_succ]
        refine wpL_yield (v := ?_) rfl (fun w' hS => ?_) ?_
        rotate_left
        · (obtain ⟨c0, c1, c2, c3, _⟩ := wal_cells hS; go_simp; try with_reducible rfl)
        simp only [Act.put, List.setIfInBounds_toArray, List.set_cons_zero, List.set_cons_succ]
        refine wpL_yield (v := ?_) rfl (fun w' hS => ?_) ?_
        rotate_left
        · (obtain ⟨c0, c1, c2, c3, _⟩ := wal_cells hS; go_simp; try with_reducible rfl)
        simp only [Act.put, List.setIfInBounds_toArray, List.set_cons_zero, List.set_cons_succ]
        refine wpL_yield (v := ?_) rfl (fun w' hS => ?_) ?_
        rotate_left
        · (obtain ⟨c0, c1, c2, c3, _⟩ := wal_cells hS; go_simp; try with_reducible rfl)
        simp only [Act.put, List.setIfInBounds_toArray, List.set_cons_zero, List.set_cons_succ]
        refine wpL_yield (v := ?_) rfl (fun w' hS => ?_) ?_
        rotate_left
        · (obtain ⟨c0, c1, c2, c3, _⟩ := wal_cells hS; go_simp; try with_reducible rfl)
        simp only [Act.put, List.setIfInBounds_toArray, List.set_cons_zero, List.set_cons_succ]
        refine wpL_yield (v := ?_) rfl (fun w' hS => ?_) ?_
        rotate_left
        · (obtain ⟨c0, c1, c2, c3, _⟩ := wal_cells hS; go_simp; try with_reducible rfl)
        simp only [Act.put, List.setIfInBounds_toArray, List.set_cons_zero, List.set_cons_succ]
        refine wpL_yield (v := ?_) rfl (fun w' hS => ?_) ?_
        rotate_left
        · (obtain ⟨c0, c1, c2, c3, _⟩ := wal_cells hS; go_simp; try with_reducible rfl)
        simp only [Act.put, List.setIfInBounds_toArray, List.set_cons_zero, List.set_cons_succ]
        refine wpL_yield (v := ?_) rfl (fun w' hS => ?_) ?_
        rotate_left
        · (obtain ⟨c0, c1, c2, c3, _⟩ := wal_cells hS; go_simp; try with_reducible rfl)
        simp only [Act.put, List.setIfInBounds_toArray, List.set_cons_zero, List.set_cons_succ]
        refine wpL_yield (v := ?_) rfl (fun w' hS => ?_) ?_
        rotate_left
        · (obtain ⟨c0, c1, c2, c3, _⟩ := wal_cells hS; go_simp; try with_reducible rfl)
        simp only [Act.put, List.setIfInBounds_toArray, List.set_cons_zero, List.set_cons_succ]
        refine wpL_yield (v := ?_) rfl (fun w' hS => ?_) ?_
        rotate_left
        · (obtain ⟨c0, c1, c2, c3, _⟩ := wal_cells hS; go_simp; try with_reducible rfl)
        simp only [Act.put, List.setIfInBounds_toArray, List.set_cons_zero, List.set_cons_succ]
        refine wpL_yield (v := ?_) rfl (fun w' hS => ?_) ?_
        rotate_left
        · (obtain ⟨c0, c1, c2, c3, _⟩ := wal_cells hS; go_simp; try with_reducible rfl)
        simp only [Act.put, List.setIfInBounds_toArray, List.set_cons_zero, List.set_cons_succ]
        refine wpL_yield (v := ?_) rfl (fun w' hS => ?_) ?_
        rotate_left
        · (obtain ⟨c0, c1, c2, c3, _⟩ := wal_cells hS; go_simp; try with_reducible rfl)
        simp only [Act.put, List.setIfInBounds_toArray, List.set_cons_zero, List.set_cons_succ]
        refine wpL_eff rfl ?_
        go_simp
        refine (read_bad h2.drew.pull2 _ Hcc.out hc1).mono ?_
        rintro e w2 ⟨rfl, rfl⟩
        refine ⟨h2.drew, ?_⟩
        refine wpL_yield (v := ?_) rfl (fun w' hS => ?_) ?_
        rotate_left
        · (go_simp; try with_reducible rfl)
        simp only [Act.put, List.setIfInBounds_toArray, List.set_cons_zero, List.set_cons_succ]
        refine wpL_yield (v := ?_) rfl (fun w' hS => ?_) ?_
        rotate_left
        · (go_simp; try with_reducible rfl)
        simp only [Act.put, List.setIfInBounds_toArray, List.set_cons_zero, List.set_cons_succ]
        refine wpL_yield (v := ?_) rfl (fun w' hS => ?_) ?_
        rotate_left
        · (go_simp; try with_reducible rfl)
        simp only [Act.put, List.setIfInBounds_toArray, List.set_cons_zero, List.set_cons_succ]
        refine wpL_yield (v := ?_) rfl (fun w' hS => ?_) ?_
        rotate_left
        · (go_simp; try with_reducible rfl)
        simp only [Act.put, List.setIfInBounds_toArray, List.set_cons_zero, List.set_cons_succ]
        refine wpL_nil ?_
        refine wpL_yield (v := ?_) rfl (fun w' hS => ?_) ?_
        rotate_left
        · (go_simp; try with_reducible rfl)
        simp only [Act.put, List.setIfInBounds_toArray, List.set_cons_zero, List.set_cons_succ]
        refine wpL_nil ?_
        go_wp2_with fail
        go_ret
        rw [Hstop.out]
        exact ⟨rfl, h2.drew⟩
    · obtain rfl : k = n := by omega
      have hfin := Lib.hid (wFinish_go (g := g) hdk)
      clear hdk
      go_wp2_with fail
      refine (both_any h2 0 (by omega)).mono ?_
      rintro e w2 ⟨rfl, h3⟩
      go_wp2_with fail
      go_ret
      rw [hfin.out]
      exact ⟨rfl, h3⟩

end Go.Proofs.YtcggloceabjjdaaGreat

/- The log: made and opened; no condition. -/
namespace Go.Proofs.YtcggloceabjjdaaGreat
open Go.RowKit Go.MapKept

theorem there_nats {d : DiskM} {at' size : Int} (h : wThere d at' size = true) : ∃ a z : Nat, at' = a ∧ size = z ∧ 3 ≤ z ∧ a + z ≤ d.len := by
  unfold wThere at h
  simp only [Bool.and_eq_true, decide_eq_true_eq] at h
  exact ⟨at'.toNat, size.toNat, by omega, by omega, by omega, by omega⟩

set_option maxRecDepth 100000 in
set_option maxHeartbeats 800000 in
theorem format_any {p : Nat} {d : DiskM} {R : Assn} {w : World} (h : Bears w (diskA p d * R)) (at' size : Int) (ha : -9223372036854775808 ≤ at' ∧ at' ≤ 9223372036854775807) (hs : -9223372036854775808 ≤ size ∧ size ≤ 9223372036854775807) (hroom : d.waits.length + 1 < 1099511627776) :
    Calls Tryz.prog 74 #[.pointer (some ⟨p, 0, none⟩), .int .i64 at', .int .i64 size] w fun e w' => e = .returned (.int .i64 (wFormat d at' size).1) ∧ Bears w' (diskA p (wFormat d at' size).2 * R) := by
  by_cases ht : wThere d at' size = true
  · have hfin : wFormat d at' size = wBoth d at'.toNat size.toNat 0 0 := by unfold wFormat; rw [if_neg (by simp [ht])]
    have Hfin := Lib.hid hfin
    have Ht := Lib.hid ht
    obtain ⟨a, z, rfl, rfl, hz, haz⟩ := there_nats ht
    clear hfin ht
    go_enter Tryz.func74, Tryz.ntmps74
    go_wp2_with fail
    refine (there_any h a z ha hs).mono ?_
    rintro e w1 ⟨rfl, h1⟩
    rw [Ht.out]
    go_wp2_with fail
    refine (both_any (h1.alloc (.cells #[.pointer (some ⟨p, 0, none⟩), .int .i64 a, .int .i64 z, .int .i64 0] 100)) 0 hroom).mono ?_
    rintro e w2 ⟨rfl, h2⟩
    go_wp2_with fail
    go_ret
    rw [Hfin.out]
    exact ⟨rfl, h2.right⟩
  · have ht : wThere d at' size = false := by simpa using ht
    have hfin : wFormat d at' size = (1, d) := by unfold wFormat; rw [if_pos ht]
    rw [hfin]
    have Ht := Lib.hid ht
    clear hfin ht
    go_enter Tryz.func74, Tryz.ntmps74
    go_wp2_with fail
    refine (there_any h at' size ha hs).mono ?_
    rintro e w1 ⟨rfl, h1⟩
    rw [Ht.out]
    go_wp2_with fail
    go_ret
    exact ⟨rfl, h1⟩

/-- Bytes out of the middle of a sector that was read. -/
theorem mid_tells {g : Nat} {s : Sec} {t : TypeId} {R : Assn} {v m cap : Nat} (hs : s.length = 64) (hk : v + m ≤ 64) :
    (Assn.obj g (.cells (cellsV s).toArray t (0, 0)) * R).Tells (fun w => BytesIn w (.slice (some ⟨g, v, none⟩) m cap) ((s.drop v).take m)) := by
  intro w h
  have hl : ((s.drop v).take m).length = m := by simp [hs]; omega
  refine ⟨_, cap, by rw [hl], fun _ => ⟨g, v, rfl, fun j u hv => ?_⟩⟩
  have hj : j < m := by
    have := (List.getElem?_eq_some_iff.1 hv).1
    simpa [hl] using this
  rw [cell_of_obj h.obj]
  rw [← hv]
  simp [cellsV, hj]

theorem open_bytes {w : World} {A : Assn} {b : Nat} {s : Sec} {t : TypeId} {n : Nat} (hn : s.length = n) (h : ∃ Q, Bears w (A * (Assn.obj b (.cells (cellsV s).toArray t (0, 0)) * Q))) : BytesIn w (.slice (some ⟨b, 0, none⟩) n n) s := by
  obtain ⟨Q, h⟩ := h
  exact BytesIn.tells n n hn.symm _ h.pull2

theorem beN_lt : ∀ l : List UInt8, beN l < 256 ^ l.length
  | [] => by simp [beN]
  | c :: l => by
    have := beN_lt l
    have hc := c.toNat_lt
    rw [beN_cons, List.length_cons, Nat.pow_succ]
    have h2 : c.toNat * 256 ^ l.length ≤ 255 * 256 ^ l.length := Nat.mul_le_mul_right _ (by omega)
    omega

theorem hand_nonneg (s : Sec) : 0 ≤ handIn s := by
  have hl : ((s.drop 25).take 2).length ≤ 2 := by simp; omega
  have h1 := beN_lt ((s.drop 25).take 2)
  have h2 : 256 ^ ((s.drop 25).take 2).length ≤ 256 ^ 2 := Nat.pow_le_pow_right (by decide) hl
  unfold handIn takenB wrap64
  omega

/-- What Open answers. -/
abbrev OpenPost (p : Nat) (d : DiskM) (at' size : Int) (R : Assn) (e : Ending) (w' : World) : Prop :=
  ((wOpen d at' size).1 ≠ 0 ∧ e = .returned (.tuple #[.pointer none, .int .i64 (wOpen d at' size).1]) ∧ Bears w' (diskA p (wOpen d at' size).2 * R)) ∨
  ((wOpen d at' size).1 = 0 ∧ ∃ x, e = .returned (.tuple #[.pointer (some ⟨x, 0, none⟩), .int .i64 0]) ∧ Bears w' (walObj x p at'.toNat size.toNat (groupsIn (d.now at'.toNat)) * (diskA p (wOpen d at' size).2 * R)))

set_option maxRecDepth 100000 in
set_option maxHeartbeats 1600000 in
theorem open_any {p : Nat} {d : DiskM} {R : Assn} {w : World} (h : Bears w (diskA p d * R)) (at' size : Int) (ha : -9223372036854775808 ≤ at' ∧ at' ≤ 9223372036854775807) (hs : -9223372036854775808 ≤ size ∧ size ≤ 9223372036854775807) (hroom : d.waits.length + 20000 < 1099511627776) :
    Calls Tryz.prog 40 #[.pointer (some ⟨p, 0, none⟩), .int .i64 at', .int .i64 size] w fun e w' => OpenPost p d at' size R e w' := by
  by_cases ht : wThere d at' size = true
  · have Ht := Lib.hid ht
    obtain ⟨a, z, rfl, rfl, hz, haz⟩ := there_nats ht
    have hlen : d.len ≤ 8192 := by obtain ⟨_, _, _, _, _, hwf, _⟩ := Bears.disk.1 h; exact hwf.len
    by_cases hck : d.check (a : Int) = 0
    · obtain ⟨s, hse⟩ : ∃ s, d.now a = s := ⟨_, rfl⟩
      have hs64 : s.length = 64 := by rw [← hse]; obtain ⟨_, _, _, _, _, hwf, _⟩ := Bears.disk.1 h; exact hwf.now _
      have hopen : wOpen d (a : Int) (z : Int) = if s ≠ headB z (groupsIn s) (handIn s) ∨ (roomN z : Int) < handIn s ∨ groupsIn s < 0 then (4, d) else if 0 < handIn s then wFinish d a z (groupsIn s) (handIn s).toNat else (0, d) := by
        unfold wOpen
        rw [if_neg (by simp [ht]), if_neg (fun h' => h' hck)]
        simp only [Int.toNat_natCast]
        rw [hse]
      have hg : takenB ((s.drop 17).take 8) = groupsIn s := rfl
      have hh : takenB ((s.drop 25).take 2) = handIn s := rfl
      have Hse := Lib.hid hse
      have Hck := Lib.hid hck
      have Hopen := Lib.hid hopen
      clear hopen hck ht
      clear hse
      go_enter Tryz.func40, Tryz.ntmps40
      go_wp2_with fail
      refine (there_any h a z ha hs).mono ?_
      rintro e w1 ⟨rfl, h1⟩
      rw [Ht.out]
      go_wp2_with fail
      refine (read_to (s := s) a h1 Hck.out Hse.out).mono ?_
      rintro e w2 ⟨b, rfl, h2⟩
      go_wp2_with fail
      refine (taken_any h2 (mid_tells (v := 17) (m := 8) hs64 (by decide)) (by simp; omega)).mono ?_
      rintro e w3 ⟨rfl, h3⟩
      rw [hg]
      have h4 := h3.alloc (.cells #[.pointer (some ⟨p, 0, none⟩), .int .i64 a, .int .i64 z, .int .i64 (groupsIn s)] 100)
      go_wp2_with fail
      refine (taken_any h4 (mid_tells (v := 25) (m := 2) hs64 (by decide)).right (by simp; omega)).mono ?_
      rintro e w4 ⟨rfl, h5⟩
      rw [hh]
      generalize w3.heap.size = x at h5
      obtain ⟨g, hge⟩ : ∃ g, groupsIn s = g := ⟨_, rfl⟩
      obtain ⟨hd, hhe⟩ : ∃ hd, handIn s = hd := ⟨_, rfl⟩
      have HO := Hopen.out
      rw [hge, hhe] at HO
      rw [hge] at h5
      rw [hge, hhe]
      have Hge := Lib.hid hge
      have Hhd := Lib.hid hhe
      have Hop := Lib.hid HO
      clear h1 h2 h3 h4 hg hh hge hhe HO Hopen
      have hl := headB_length z g hd
      go_wp2_with fail
      by_cases hne : s = headB z g hd
      · subst hne
        have hroomz : roomN z ≤ z := by unfold roomN; split <;> omega
        by_cases hbig : (roomN z : Int) < hd
        · rw [if_pos (.inr (.inl hbig))] at Hop
          refine wp_region_L (fun w' => ∃ Q, Bears w' (walObj x p a z g * (Assn.obj b (.cells (cellsV (headB z g hd)).toArray 86 (0, 0)) * Q))) 24
            [(true, 0), (true, 1), (true, 2), (true, 3), (true, 4), (true, 5), (true, 6), (true, 7), (false, 8), (false, 9), (true, 10), (true, 11), (true, 12), (true, 13), (false, 14), (true, 15), (true, 16), (true, 17), (true, 18), (true, 19), (true, 20), (true, 21), (true, 22), (true, 23)] [] (by kernel_rfl) (by kernel_rfl) ⟨_, h5.drew⟩ ?_
          simp only [pick, List.getElem?_cons_zero, List.getElem?_cons_succ]
          refine wpL_yield (v := ?_) rfl (fun w' hS => ?_) ?_
          rotate_left
          · (go_simp; try with_reducible rfl)
          simp only [Act.put, List.setIfInBounds_toArray, List.set_cons_zero, List.set_cons_succ]
          refine wpL_yield rfl (fun w' hS => exec_convert rfl rfl (run_convert_in (open_bytes hs64 hS))) ?_
          simp only [Act.put, List.setIfInBounds_toArray, List.set_cons_zero, List.set_cons_succ]
          refine wpL_yield (v := ?_) rfl (fun w' hS => ?_) ?_
          rotate_left
          · (obtain ⟨_, hS⟩ := hS; obtain ⟨c0, c1, c2, c3, _⟩ := wal_cells hS; go_simp; try with_reducible rfl)
          simp only [Act.put, List.setIfInBounds_toArray, List.set_cons_zero, List.set_cons_succ]
          refine wpL_yield (v := ?_) rfl (fun w' hS => ?_) ?_
          rotate_left
          · (obtain ⟨_, hS⟩ := hS; obtain ⟨c0, c1, c2, c3, _⟩ := wal_cells hS; go_simp; try with_reducible rfl)
          simp only [Act.put, List.setIfInBounds_toArray, List.set_cons_zero, List.set_cons_succ]
          refine wpL_yield (v := ?_) rfl (fun w' hS => ?_) ?_
          rotate_left
          · (obtain ⟨_, hS⟩ := hS; obtain ⟨c0, c1, c2, c3, _⟩ := wal_cells hS; go_simp; try with_reducible rfl)
          simp only [Act.put, List.setIfInBounds_toArray, List.set_cons_zero, List.set_cons_succ]
          refine wpL_yield (v := ?_) rfl (fun w' hS => ?_) ?_
          rotate_left
          · (obtain ⟨_, hS⟩ := hS; obtain ⟨c0, c1, c2, c3, _⟩ := wal_cells hS; go_simp; try with_reducible rfl)
          simp only [Act.put, List.setIfInBounds_toArray, List.set_cons_zero, List.set_cons_succ]
          refine wpL_yield (v := ?_) rfl (fun w' hS => ?_) ?_
          rotate_left
          · (obtain ⟨_, hS⟩ := hS; obtain ⟨c0, c1, c2, c3, _⟩ := wal_cells hS; go_simp; try with_reducible rfl)
          simp only [Act.put, List.setIfInBounds_toArray, List.set_cons_zero, List.set_cons_succ]
          refine wpL_yield (v := ?_) rfl (fun w' hS => ?_) ?_
          rotate_left
          · (obtain ⟨_, hS⟩ := hS; obtain ⟨c0, c1, c2, c3, _⟩ := wal_cells hS; go_simp; try with_reducible rfl)
          simp only [Act.put, List.setIfInBounds_toArray, List.set_cons_zero, List.set_cons_succ]
          refine wpL_eff rfl ?_
          go_simp
          refine (whead_any h5.drew z g hd).mono ?_
          rintro e w5 ⟨b2, rfl, h6⟩
          refine ⟨⟨_, h6.right⟩, ?_⟩
          refine wpL_eff rfl (wp_of_run (exec_convert rfl rfl (run_convert_in (BytesIn.tells _ _ (by rw [hl]) _ h6))) ⟨⟨_, h6.right⟩, ?_⟩)
          simp only [Act.put, List.setIfInBounds_toArray, List.set_cons_zero, List.set_cons_succ]
          refine wpL_yield (v := ?_) rfl (fun w' hS => ?_) ?_
          rotate_left
          · (go_simp; try with_reducible rfl)
          simp only [Act.put, List.setIfInBounds_toArray, List.set_cons_zero, List.set_cons_succ]
          refine wpL_yield (v := ?_) rfl (fun w' hS => ?_) ?_
          rotate_left
          · (go_simp; try with_reducible rfl)
          simp only [Act.put, List.setIfInBounds_toArray, List.set_cons_zero, List.set_cons_succ]
          refine wpL_guarded (v := ?_) rfl (fun w' hS => ?_) ?_
          rotate_left
          · (go_simp; try with_reducible rfl)
          simp only [Act.put, List.setIfInBounds_toArray, List.set_cons_zero, List.set_cons_succ]
          refine wpL_guarded (v := ?_) rfl (fun w' hS => ?_) ?_
          rotate_left
          · (go_simp; try with_reducible rfl)
          simp only [Act.put, List.setIfInBounds_toArray, List.set_cons_zero, List.set_cons_succ]
          refine wpL_effG rfl ?_
          go_simp
          refine (room_any w5 z (by omega)).mono ?_
          rintro e w6 ⟨rfl, rfl⟩
          refine ⟨⟨_, h6.right⟩, ?_⟩
          refine wpL_guarded (v := ?_) rfl (fun w' hS => ?_) ?_
          rotate_left
          · (go_simp; try with_reducible rfl)
          simp only [Act.put, List.setIfInBounds_toArray, List.set_cons_zero, List.set_cons_succ]
          refine wpL_yield (v := ?_) rfl (fun w' hS => ?_) ?_
          rotate_left
          · (go_simp; try with_reducible rfl)
          simp only [Act.put, List.setIfInBounds_toArray, List.set_cons_zero, List.set_cons_succ]
          refine wpL_yield (v := ?_) rfl (fun w' hS => ?_) ?_
          rotate_left
          · (go_simp; try with_reducible rfl)
          simp only [Act.put, List.setIfInBounds_toArray, List.set_cons_zero, List.set_cons_succ]
          refine wpL_skip rfl ?_
          simp only [Act.put, List.setIfInBounds_toArray, List.set_cons_zero, List.set_cons_succ]
          refine wpL_skip rfl ?_
          simp only [Act.put, List.setIfInBounds_toArray, List.set_cons_zero, List.set_cons_succ]
          refine wpL_skip rfl ?_
          simp only [Act.put, List.setIfInBounds_toArray, List.set_cons_zero, List.set_cons_succ]
          refine wpL_skip rfl ?_
          simp only [Act.put, List.setIfInBounds_toArray, List.set_cons_zero, List.set_cons_succ]
          refine wpL_skip rfl ?_
          simp only [Act.put, List.setIfInBounds_toArray, List.set_cons_zero, List.set_cons_succ]
          refine wpL_yield (v := ?_) rfl (fun w' hS => ?_) ?_
          rotate_left
          · (go_simp; try with_reducible rfl)
          simp only [Act.put, List.setIfInBounds_toArray, List.set_cons_zero, List.set_cons_succ]
          refine wpL_nil ?_
          refine wpL_nil ?_
          go_wp2_with fail
          go_ret2
          refine .inl ?_
          rw [Hop.out]
          exact ⟨by show (4 : Int) ≠ 0; decide, rfl, h6.right.right.right⟩
        · have hhdnat : 0 ≤ hd := by rw [← Hhd.out]; exact hand_nonneg _
          obtain ⟨m, rfl⟩ := Int.eq_ofNat_of_zero_le hhdnat
          refine wp_region_L (fun w' => ∃ Q, Bears w' (walObj x p a z g * (Assn.obj b (.cells (cellsV (headB z g m)).toArray 86 (0, 0)) * Q))) 24
            [(true, 0), (true, 1), (true, 2), (true, 3), (true, 4), (true, 5), (true, 6), (true, 7), (false, 8), (false, 9), (true, 10), (true, 11), (true, 12), (true, 13), (false, 14), (true, 15), (true, 16), (true, 17), (true, 18), (true, 19), (true, 20), (true, 21), (true, 22), (true, 23)] [] (by kernel_rfl) (by kernel_rfl) ⟨_, h5.drew⟩ ?_
          simp only [pick, List.getElem?_cons_zero, List.getElem?_cons_succ]
          refine wpL_yield (v := ?_) rfl (fun w' hS => ?_) ?_
          rotate_left
          · (go_simp; try with_reducible rfl)
          simp only [Act.put, List.setIfInBounds_toArray, List.set_cons_zero, List.set_cons_succ]
          refine wpL_yield rfl (fun w' hS => exec_convert rfl rfl (run_convert_in (open_bytes hs64 hS))) ?_
          simp only [Act.put, List.setIfInBounds_toArray, List.set_cons_zero, List.set_cons_succ]
          refine wpL_yield (v := ?_) rfl (fun w' hS => ?_) ?_
          rotate_left
          · (obtain ⟨_, hS⟩ := hS; obtain ⟨c0, c1, c2, c3, _⟩ := wal_cells hS; go_simp; try with_reducible rfl)
          simp only [Act.put, List.setIfInBounds_toArray, List.set_cons_zero, List.set_cons_succ]
          refine wpL_yield (v := ?_) rfl (fun w' hS => ?_) ?_
          rotate_left
          · (obtain ⟨_, hS⟩ := hS; obtain ⟨c0, c1, c2, c3, _⟩ := wal_cells hS; go_simp; try with_reducible rfl)
          simp only [Act.put, List.setIfInBounds_toArray, List.set_cons_zero, List.set_cons_succ]
          refine wpL_yield (v := ?_) rfl (fun w' hS => ?_) ?_
          rotate_left
          · (obtain ⟨_, hS⟩ := hS; obtain ⟨c0, c1, c2, c3, _⟩ := wal_cells hS; go_simp; try with_reducible rfl)
          simp only [Act.put, List.setIfInBounds_toArray, List.set_cons_zero, List.set_cons_succ]
          refine wpL_yield (v := ?_) rfl (fun w' hS => ?_) ?_
          rotate_left
          · (obtain ⟨_, hS⟩ := hS; obtain ⟨c0, c1, c2, c3, _⟩ := wal_cells hS; go_simp; try with_reducible rfl)
          simp only [Act.put, List.setIfInBounds_toArray, List.set_cons_zero, List.set_cons_succ]
          refine wpL_yield (v := ?_) rfl (fun w' hS => ?_) ?_
          rotate_left
          · (obtain ⟨_, hS⟩ := hS; obtain ⟨c0, c1, c2, c3, _⟩ := wal_cells hS; go_simp; try with_reducible rfl)
          simp only [Act.put, List.setIfInBounds_toArray, List.set_cons_zero, List.set_cons_succ]
          refine wpL_yield (v := ?_) rfl (fun w' hS => ?_) ?_
          rotate_left
          · (obtain ⟨_, hS⟩ := hS; obtain ⟨c0, c1, c2, c3, _⟩ := wal_cells hS; go_simp; try with_reducible rfl)
          simp only [Act.put, List.setIfInBounds_toArray, List.set_cons_zero, List.set_cons_succ]
          refine wpL_eff rfl ?_
          go_simp
          refine (whead_any h5.drew z g m).mono ?_
          rintro e w5 ⟨b2, rfl, h6⟩
          refine ⟨⟨_, h6.right⟩, ?_⟩
          refine wpL_eff rfl (wp_of_run (exec_convert rfl rfl (run_convert_in (BytesIn.tells _ _ (by rw [hl]) _ h6))) ⟨⟨_, h6.right⟩, ?_⟩)
          simp only [Act.put, List.setIfInBounds_toArray, List.set_cons_zero, List.set_cons_succ]
          refine wpL_yield (v := ?_) rfl (fun w' hS => ?_) ?_
          rotate_left
          · (go_simp; try with_reducible rfl)
          simp only [Act.put, List.setIfInBounds_toArray, List.set_cons_zero, List.set_cons_succ]
          refine wpL_yield (v := ?_) rfl (fun w' hS => ?_) ?_
          rotate_left
          · (go_simp; try with_reducible rfl)
          simp only [Act.put, List.setIfInBounds_toArray, List.set_cons_zero, List.set_cons_succ]
          refine wpL_guarded (v := ?_) rfl (fun w' hS => ?_) ?_
          rotate_left
          · (go_simp; try with_reducible rfl)
          simp only [Act.put, List.setIfInBounds_toArray, List.set_cons_zero, List.set_cons_succ]
          refine wpL_guarded (v := ?_) rfl (fun w' hS => ?_) ?_
          rotate_left
          · (go_simp; try with_reducible rfl)
          simp only [Act.put, List.setIfInBounds_toArray, List.set_cons_zero, List.set_cons_succ]
          refine wpL_effG rfl ?_
          go_simp
          refine (room_any w5 z (by omega)).mono ?_
          rintro e w6 ⟨rfl, rfl⟩
          refine ⟨⟨_, h6.right⟩, ?_⟩
          refine wpL_guarded (v := ?_) rfl (fun w' hS => ?_) ?_
          rotate_left
          · (go_simp; try with_reducible rfl)
          simp only [Act.put, List.setIfInBounds_toArray, List.set_cons_zero, List.set_cons_succ]
          refine wpL_yield (v := ?_) rfl (fun w' hS => ?_) ?_
          rotate_left
          · (go_simp; try with_reducible rfl)
          simp only [Act.put, List.setIfInBounds_toArray, List.set_cons_zero, List.set_cons_succ]
          refine wpL_yield (v := ?_) rfl (fun w' hS => ?_) ?_
          rotate_left
          · (go_simp; try with_reducible rfl)
          simp only [Act.put, List.setIfInBounds_toArray, List.set_cons_zero, List.set_cons_succ]
          refine wpL_guarded (v := ?_) rfl (fun w' hS => ?_) ?_
          rotate_left
          · (obtain ⟨_, hS⟩ := hS; obtain ⟨c0, c1, c2, c3, _⟩ := wal_cells hS; go_simp; try with_reducible rfl)
          simp only [Act.put, List.setIfInBounds_toArray, List.set_cons_zero, List.set_cons_succ]
          refine wpL_guarded (v := ?_) rfl (fun w' hS => ?_) ?_
          rotate_left
          · (obtain ⟨_, hS⟩ := hS; obtain ⟨c0, c1, c2, c3, _⟩ := wal_cells hS; go_simp; try with_reducible rfl)
          simp only [Act.put, List.setIfInBounds_toArray, List.set_cons_zero, List.set_cons_succ]
          refine wpL_guarded (v := ?_) rfl (fun w' hS => ?_) ?_
          rotate_left
          · (obtain ⟨_, hS⟩ := hS; obtain ⟨c0, c1, c2, c3, _⟩ := wal_cells hS; go_simp; try with_reducible rfl)
          simp only [Act.put, List.setIfInBounds_toArray, List.set_cons_zero, List.set_cons_succ]
          refine wpL_guarded (v := ?_) rfl (fun w' hS => ?_) ?_
          rotate_left
          · (obtain ⟨_, hS⟩ := hS; obtain ⟨c0, c1, c2, c3, _⟩ := wal_cells hS; go_simp; try with_reducible rfl)
          simp only [Act.put, List.setIfInBounds_toArray, List.set_cons_zero, List.set_cons_succ]
          refine wpL_guarded (v := ?_) rfl (fun w' hS => ?_) ?_
          rotate_left
          · (obtain ⟨_, hS⟩ := hS; obtain ⟨c0, c1, c2, c3, _⟩ := wal_cells hS; go_simp; try with_reducible rfl)
          simp only [Act.put, List.setIfInBounds_toArray, List.set_cons_zero, List.set_cons_succ]
          refine wpL_yield (v := ?_) rfl (fun w' hS => ?_) ?_
          rotate_left
          · (go_simp; try with_reducible rfl)
          simp only [Act.put, List.setIfInBounds_toArray, List.set_cons_zero, List.set_cons_succ]
          refine wpL_nil ?_
          refine wpL_nil ?_
          by_cases hg0 : g < 0
          · rw [if_pos (.inr (.inr hg0))] at Hop
            go_wp2_with fail
            go_ret2
            refine .inl ?_
            rw [Hop.out]
            exact ⟨by show (4 : Int) ≠ 0; decide, rfl, h6.right.right.right⟩
          · rw [if_neg (fun h' => h'.elim (fun h' => h' rfl) fun h' => h'.elim hbig hg0)] at Hop
            by_cases hm : 0 < m
            · rw [if_pos (by omega), Int.toNat_natCast] at Hop
              go_wp2_with fail
              refine (finish_any (h6.right.pull2.right) m (by omega) (by omega) (by omega) (by omega)).mono ?_
              rintro e w6 ⟨rfl, h7⟩
              by_cases hf : (wFinish d a z g m).1 = 0
              · rw [hf]
                go_wp2_with fail
                go_ret2
                refine .inr ?_
                rw [Hop.out]
                refine ⟨hf, x, rfl, ?_⟩
                rw [show (a : Int).toNat = a from rfl, show (z : Int).toNat = z from rfl, Hse.out, Hge.out]
                exact h7
              · go_wp2_with fail
                go_ret2
                refine .inl ?_
                rw [Hop.out]
                exact ⟨hf, rfl, h7.right⟩
            · rw [if_neg (by omega)] at Hop
              go_wp2_with fail
              go_ret2
              refine .inr ?_
              rw [Hop.out]
              refine ⟨rfl, x, rfl, ?_⟩
              rw [show (a : Int).toNat = a from rfl, show (z : Int).toNat = z from rfl, Hse.out, Hge.out]
              exact h6.right.pull2.right
      · have hnn : (s == headB z g hd) = false := by rw [beq_eq_false_iff_ne]; exact hne
        rw [if_pos (.inl hne)] at Hop
        refine wp_region_L (fun w' => ∃ Q, Bears w' (walObj x p a z g * (Assn.obj b (.cells (cellsV s).toArray 86 (0, 0)) * Q))) 24
          [(true, 0), (true, 1), (true, 2), (true, 3), (true, 4), (true, 5), (true, 6), (true, 7), (false, 8), (false, 9), (true, 10), (true, 11), (true, 12), (true, 13), (true, 14), (true, 15), (true, 16), (true, 17), (true, 18), (true, 19), (true, 20), (true, 21), (true, 22), (true, 23)] [] (by kernel_rfl) (by kernel_rfl) ⟨_, h5.drew⟩ ?_
        simp only [pick, List.getElem?_cons_zero, List.getElem?_cons_succ]
        refine wpL_yield (v := ?_) rfl (fun w' hS => ?_) ?_
        rotate_left
        · (go_simp; try with_reducible rfl)
        simp only [Act.put, List.setIfInBounds_toArray, List.set_cons_zero, List.set_cons_succ]
        refine wpL_yield rfl (fun w' hS => exec_convert rfl rfl (run_convert_in (open_bytes hs64 hS))) ?_
        simp only [Act.put, List.setIfInBounds_toArray, List.set_cons_zero, List.set_cons_succ]
        refine wpL_yield (v := ?_) rfl (fun w' hS => ?_) ?_
        rotate_left
        · (obtain ⟨_, hS⟩ := hS; obtain ⟨c0, c1, c2, c3, _⟩ := wal_cells hS; go_simp; try with_reducible rfl)
        simp only [Act.put, List.setIfInBounds_toArray, List.set_cons_zero, List.set_cons_succ]
        refine wpL_yield (v := ?_) rfl (fun w' hS => ?_) ?_
        rotate_left
        · (obtain ⟨_, hS⟩ := hS; obtain ⟨c0, c1, c2, c3, _⟩ := wal_cells hS; go_simp; try with_reducible rfl)
        simp only [Act.put, List.setIfInBounds_toArray, List.set_cons_zero, List.set_cons_succ]
        refine wpL_yield (v := ?_) rfl (fun w' hS => ?_) ?_
        rotate_left
        · (obtain ⟨_, hS⟩ := hS; obtain ⟨c0, c1, c2, c3, _⟩ := wal_cells hS; go_simp; try with_reducible rfl)
        simp only [Act.put, List.setIfInBounds_toArray, List.set_cons_zero, List.set_cons_succ]
        refine wpL_yield (v := ?_) rfl (fun w' hS => ?_) ?_
        rotate_left
        · (obtain ⟨_, hS⟩ := hS; obtain ⟨c0, c1, c2, c3, _⟩ := wal_cells hS; go_simp; try with_reducible rfl)
        simp only [Act.put, List.setIfInBounds_toArray, List.set_cons_zero, List.set_cons_succ]
        refine wpL_yield (v := ?_) rfl (fun w' hS => ?_) ?_
        rotate_left
        · (obtain ⟨_, hS⟩ := hS; obtain ⟨c0, c1, c2, c3, _⟩ := wal_cells hS; go_simp; try with_reducible rfl)
        simp only [Act.put, List.setIfInBounds_toArray, List.set_cons_zero, List.set_cons_succ]
        refine wpL_yield (v := ?_) rfl (fun w' hS => ?_) ?_
        rotate_left
        · (obtain ⟨_, hS⟩ := hS; obtain ⟨c0, c1, c2, c3, _⟩ := wal_cells hS; go_simp; try with_reducible rfl)
        simp only [Act.put, List.setIfInBounds_toArray, List.set_cons_zero, List.set_cons_succ]
        refine wpL_eff rfl ?_
        go_simp
        refine (whead_any h5.drew z g hd).mono ?_
        rintro e w5 ⟨b2, rfl, h6⟩
        refine ⟨⟨_, h6.right⟩, ?_⟩
        refine wpL_eff rfl (wp_of_run (exec_convert rfl rfl (run_convert_in (BytesIn.tells _ _ (by rw [hl]) _ h6))) ⟨⟨_, h6.right⟩, ?_⟩)
        simp only [Act.put, List.setIfInBounds_toArray, List.set_cons_zero, List.set_cons_succ]
        refine wpL_yield (v := ?_) rfl (fun w' hS => ?_) ?_
        rotate_left
        · (go_simp; try with_reducible rfl)
        simp only [Act.put, List.setIfInBounds_toArray, List.set_cons_zero, List.set_cons_succ]
        refine wpL_yield (v := ?_) rfl (fun w' hS => ?_) ?_
        rotate_left
        · (go_simp; try with_reducible rfl)
        simp only [Act.put, List.setIfInBounds_toArray, List.set_cons_zero, List.set_cons_succ]
        refine wpL_skip rfl ?_
        simp only [Act.put, List.setIfInBounds_toArray, List.set_cons_zero, List.set_cons_succ]
        refine wpL_skip rfl ?_
        simp only [Act.put, List.setIfInBounds_toArray, List.set_cons_zero, List.set_cons_succ]
        refine wpL_skip rfl ?_
        simp only [Act.put, List.setIfInBounds_toArray, List.set_cons_zero, List.set_cons_succ]
        refine wpL_skip rfl ?_
        simp only [Act.put, List.setIfInBounds_toArray, List.set_cons_zero, List.set_cons_succ]
        refine wpL_yield (v := ?_) rfl (fun w' hS => ?_) ?_
        rotate_left
        · (go_simp; try with_reducible rfl)
        simp only [Act.put, List.setIfInBounds_toArray, List.set_cons_zero, List.set_cons_succ]
        refine wpL_yield (v := ?_) rfl (fun w' hS => ?_) ?_
        rotate_left
        · (go_simp; try with_reducible rfl)
        simp only [Act.put, List.setIfInBounds_toArray, List.set_cons_zero, List.set_cons_succ]
        refine wpL_skip rfl ?_
        simp only [Act.put, List.setIfInBounds_toArray, List.set_cons_zero, List.set_cons_succ]
        refine wpL_skip rfl ?_
        simp only [Act.put, List.setIfInBounds_toArray, List.set_cons_zero, List.set_cons_succ]
        refine wpL_skip rfl ?_
        simp only [Act.put, List.setIfInBounds_toArray, List.set_cons_zero, List.set_cons_succ]
        refine wpL_skip rfl ?_
        simp only [Act.put, List.setIfInBounds_toArray, List.set_cons_zero, List.set_cons_succ]
        refine wpL_skip rfl ?_
        simp only [Act.put, List.setIfInBounds_toArray, List.set_cons_zero, List.set_cons_succ]
        refine wpL_yield (v := ?_) rfl (fun w' hS => ?_) ?_
        rotate_left
        · (go_simp; try with_reducible rfl)
        simp only [Act.put, List.setIfInBounds_toArray, List.set_cons_zero, List.set_cons_succ]
        refine wpL_nil ?_
        refine wpL_nil ?_
        go_wp2_with fail
        go_ret2
        refine .inl ?_
        rw [Hop.out]
        exact ⟨by show (4 : Int) ≠ 0; decide, rfl, h6.right.right.right⟩
    · obtain ⟨c, hcc⟩ : ∃ c, d.check (a : Int) = c := ⟨_, rfl⟩
      have hopen : wOpen d (a : Int) (z : Int) = (c, d) := by
        unfold wOpen
        rw [if_neg (by simp [ht]), if_pos hck, hcc]
      rw [hcc] at hck
      have Hcc := Lib.hid hcc
      have Hopen := Lib.hid hopen
      clear hopen hcc ht
      go_enter Tryz.func40, Tryz.ntmps40
      go_wp2_with fail
      refine (there_any h a z ha hs).mono ?_
      rintro e w1 ⟨rfl, h1⟩
      rw [Ht.out]
      go_wp2_with fail
      refine (read_bad h1 a Hcc.out hck).mono ?_
      rintro e w2 ⟨rfl, rfl⟩
      go_wp2_with fail
      go_ret2
      refine .inl ?_
      rw [Hopen.out]
      exact ⟨hck, rfl, h1⟩
  · have ht : wThere d at' size = false := by simpa using ht
    have hfin : wOpen d at' size = (1, d) := by unfold wOpen; rw [if_pos ht]
    have Hfin := Lib.hid hfin
    have Ht := Lib.hid ht
    clear hfin ht
    go_enter Tryz.func40, Tryz.ntmps40
    go_wp2_with fail
    refine (there_any h at' size ha hs).mono ?_
    rintro e w1 ⟨rfl, h1⟩
    rw [Ht.out]
    go_wp2_with fail
    go_ret2
    refine .inl ?_
    rw [Hfin.out]
    exact ⟨by show (1 : Int) ≠ 0; decide, rfl, h1⟩

end Go.Proofs.YtcggloceabjjdaaGreat
