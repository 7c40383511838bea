/- The log: a group at hand is finished; no condition. -/
import Derived.Test.YtaiobekochhemaaWalW2
namespace Go.Proofs.Ytaiobekochhemaa
open Go.RowKit Go.MapKept

theorem wLoop_succ {d dk : DiskM} {a s k : Nat} (h : wLoop d a s k = (0, dk)) : wLoop d a s (k + 1) = wRound dk a s k := by
  simp only [wLoop, h]; rw [if_neg (by simp)]
theorem wLoop_stop {d : DiskM} {a s k : Nat} (h : (wLoop d a s k).1 ≠ 0) : ∀ n, wLoop d a s (k + n) = wLoop d a s k
  | 0 => rfl
  | n + 1 => by
    have e := wLoop_stop h n
    show (if (wLoop d a s (k + n)).1 ≠ 0 then wLoop d a s (k + n) else _) = _
    rw [e, if_pos h]
theorem wFinish_stop {d dk : DiskM} {a s k n : Nat} {g r : Int} (h : wLoop d a s k = (r, dk)) (hr : r ≠ 0) (hk : k ≤ n) : wFinish d a s g n = (r, dk) := by
  obtain ⟨m, rfl⟩ := Nat.exists_eq_add_of_le hk
  unfold wFinish
  rw [wLoop_stop (by rw [h]; exact hr) m, h, if_pos hr]
theorem wFinish_go {d dn : DiskM} {a s n : Nat} {g : Int} (h : wLoop d a s n = (0, dn)) : wFinish d a s g n = wBoth dn a s g 0 := by
  unfold wFinish; rw [h, if_neg (by simp)]
theorem wRound_no1 {d : DiskM} {a s i : Nat} (h : d.check ((a + 1 + i / 32 : Nat) : Int) ≠ 0) : wRound d a s i = (d.check ((a + 1 + i / 32 : Nat) : Int), d) := by
  unfold wRound; rw [if_pos h]
theorem wRound_no2 {d : DiskM} {a s i : Nat} (h1 : d.check ((a + 1 + i / 32 : Nat) : Int) = 0) (h : d.check ((wFirst a s + i : Nat) : Int) ≠ 0) : wRound d a s i = (d.check ((wFirst a s + i : Nat) : Int), d) := by
  unfold wRound; rw [if_neg (fun h' => h' h1), if_pos h]
theorem wRound_go {d d2 : DiskM} {a s i : Nat} {r : Int} (h1 : d.check ((a + 1 + i / 32 : Nat) : Int) = 0) (h2 : d.check ((wFirst a s + i : Nat) : Int) = 0) (h : d.write (wTo d a i) (d.now (wFirst a s + i)) = (r, d2)) :
    wRound d a s i = (if r = 0 then 0 else if r = 2 then 2 else 4, d2) := by
  unfold wRound; rw [if_neg (fun h' => h' h1), if_neg (fun h' => h' h2), h]
theorem wRound_waits (d : DiskM) (a s i : Nat) : (wRound d a s i).2.waits.length ≤ d.waits.length + 1 := by
  unfold wRound
  split
  · simp
  · split
    · simp
    · exact write_waits _ _ _
theorem wLoop_waits (d : DiskM) (a s : Nat) : ∀ k, (wLoop d a s k).2.waits.length ≤ d.waits.length + k
  | 0 => Nat.le_refl _
  | k + 1 => by
    have := wLoop_waits d a s k
    simp only [wLoop]
    split
    · omega
    · have := wRound_waits (wLoop d a s k).2 a s k
      omega

/-- The number in two bytes of a sector that was read. -/
theorem pair_tells {g : Nat} {s : Sec} {t : TypeId} {R : Assn} {v : Nat} (hs : s.length = 64) (hk : v + 2 ≤ 64) :
    (Assn.obj g (.cells (cellsV s).toArray t (0, 0)) * R).Tells (fun w => BytesIn w (.slice (some ⟨g, v, none⟩) 2 2) ((s.drop v).take 2)) := by
  intro w h
  have hl : ((s.drop v).take 2).length = 2 := by simp [hs]; omega
  refine ⟨_, 2, by rw [hl], fun _ => ⟨g, v, rfl, fun j u hv => ?_⟩⟩
  have hj : j < 2 := by
    have := (List.getElem?_eq_some_iff.1 hv).1
    simpa [hl] using this
  rw [cell_of_obj h.obj]
  rw [← hv]
  simp [cellsV, hj]

theorem pair_tells_at {g : Nat} {s : Sec} {t : TypeId} {A B C R : Assn} {v : Nat} (hs : s.length = 64) (hk : v + 2 ≤ 64) :
    (A * (B * (C * (Assn.obj g (.cells (cellsV s).toArray t (0, 0)) * R)))).Tells (fun w => BytesIn w (.slice (some ⟨g, v, none⟩) 2 2) ((s.drop v).take 2)) :=
  (pair_tells hs hk).right.right.right

set_option maxRecDepth 100000 in
set_option maxHeartbeats 1600000 in
theorem finish_any {x p at' size : Nat} {g : Int} {d : DiskM} {R : Assn} {w : World} (h : Bears w (walObj x p at' size g * (diskA p d * R))) (n : Nat) (hroom : d.waits.length + n + 1 < 1099511627776) (hn : n ≤ 100000) (ha : at' ≤ 100000) (hs : size ≤ 100000) :
    Calls Try.prog 93 #[.pointer (some ⟨x, 0, none⟩), .int .i64 n] w fun e w' => e = .returned (.int .i64 (wFinish d at' size g n).1) ∧ Bears w' (walObj x p at' size g * (diskA p (wFinish d at' size g n).2 * R)) := by
  have hr1 : roomN size ≤ size := by unfold roomN; split <;> omega
  have hl1 : listsN (roomN size) ≤ size := by unfold listsN; omega
  have hfirst : ((wFirst at' size : Nat) : Int) = (at' : Int) + 1 + (listsN (roomN size) : Nat) := by unfold wFirst; omega
  have hfb : wFirst at' size ≤ 300000 := by unfold wFirst; omega
  have Hfirst := Lib.hid hfirst
  clear hfirst
  go_enter Try.func93, Try.ntmps93
  go_wp2_with fail
  refine wp_region_L (fun w' => Bears w' (walObj x p at' size g * (diskA p d * R))) 12
    [(true, 0), (true, 1), (true, 2), (true, 3), (true, 4), (true, 5), (true, 6), (true, 7), (false, 8), (false, 9), (false, 10), (true, 11)] [(true, 12)] (by kernel_rfl) (by kernel_rfl) h.drew ?_
  simp only [pick, List.getElem?_cons_zero, List.getElem?_cons_succ]
  have q1 : IntKind.i64.wrap ((at' : Int) + 1) = (at' : Int) + 1 := IntWalk.i64_in _ (by omega)
  refine wpL_yield (v := ?_) rfl (fun w' hS => ?_) ?_
  rotate_left
  · (obtain ⟨c0, c1, c2, c3, _⟩ := wal_cells hS; go_simp; try with_reducible rfl)
  simp only [Act.put, List.setIfInBounds_toArray, List.set_cons_zero, List.set_cons_succ]
  refine wpL_yield (v := ?_) rfl (fun w' hS => ?_) ?_
  rotate_left
  · (obtain ⟨c0, c1, c2, c3, _⟩ := wal_cells hS; go_simp; try with_reducible rfl)
  simp only [Act.put, List.setIfInBounds_toArray, List.set_cons_zero, List.set_cons_succ]
  refine wpL_yield (v := ?_) rfl (fun w' hS => ?_) ?_
  rotate_left
  · (obtain ⟨c0, c1, c2, c3, _⟩ := wal_cells hS; go_simp; try with_reducible rfl)
  simp only [Act.put, List.setIfInBounds_toArray, List.set_cons_zero, List.set_cons_succ]
  refine wpL_yield (v := ?_) rfl (fun w' hS => ?_) ?_
  rotate_left
  · (obtain ⟨c0, c1, c2, c3, _⟩ := wal_cells hS; go_simp; try with_reducible rfl)
  simp only [Act.put, List.setIfInBounds_toArray, List.set_cons_zero, List.set_cons_succ]
  refine wpL_yield (v := ?_) rfl (fun w' hS => ?_) ?_
  rotate_left
  · (obtain ⟨c0, c1, c2, c3, _⟩ := wal_cells hS; go_simp; try with_reducible rfl)
  simp only [Act.put, List.setIfInBounds_toArray, List.set_cons_zero, List.set_cons_succ]
  refine wpL_yield (v := ?_) rfl (fun w' hS => ?_) ?_
  rotate_left
  · (obtain ⟨c0, c1, c2, c3, _⟩ := wal_cells hS; go_simp; try with_reducible rfl)
  simp only [Act.put, List.setIfInBounds_toArray, List.set_cons_zero, List.set_cons_succ]
  refine wpL_yield (v := ?_) rfl (fun w' hS => ?_) ?_
  rotate_left
  · (obtain ⟨c0, c1, c2, c3, _⟩ := wal_cells hS; go_simp; try with_reducible rfl)
  simp only [Act.put, List.setIfInBounds_toArray, List.set_cons_zero, List.set_cons_succ]
  refine wpL_yield (v := ?_) rfl (fun w' hS => ?_) ?_
  rotate_left
  · (obtain ⟨c0, c1, c2, c3, _⟩ := wal_cells hS; go_simp; try with_reducible rfl)
  simp only [Act.put, List.setIfInBounds_toArray, List.set_cons_zero, List.set_cons_succ]
  obtain ⟨c0, c1, c2, c3, _⟩ := wal_cells h.drew
  refine wpL_eff rfl ?_
  go_simp
  refine ⟨h.drew, ?_⟩
  refine wpL_eff rfl ?_
  go_simp
  refine (room_any w.drew size (by omega)).mono ?_
  rintro e w1 ⟨rfl, rfl⟩
  refine ⟨h.drew, ?_⟩
  refine wpL_eff rfl ?_
  go_simp
  refine (lists_any w.drew (roomN size) (by omega)).mono ?_
  rintro e w1 ⟨rfl, rfl⟩
  refine ⟨h.drew, ?_⟩
  have q2 : IntKind.i64.wrap ((at' : Int) + 1 + (listsN (roomN size) : Nat)) = (wFirst at' size : Nat) := by rw [Hfirst.out]; exact IntWalk.i64_in _ (by omega)
  refine wpL_yield (v := ?_) rfl (fun w' hS => ?_) ?_
  rotate_left
  · (go_simp; try with_reducible rfl)
  simp only [Act.put, List.setIfInBounds_toArray, List.set_cons_zero, List.set_cons_succ]
  refine wpL_nil ?_
  refine wpL_yield (v := ?_) rfl (fun w' hS => ?_) ?_
  rotate_left
  · (go_simp; try with_reducible rfl)
  simp only [Act.put, List.setIfInBounds_toArray, List.set_cons_zero, List.set_cons_succ]
  refine wpL_nil ?_
  have h1 := h.drew
  generalize w.drew = w1 at h1
  clear c0 c1 c2 c3 q1 q2
  go_wp2_with fail
  go_loopw [25] (fun i wr => ∃ k : Nat, k ≤ n ∧ i = .int .i64 k ∧ ∃ dk : DiskM, wLoop d at' size k = (0, dk) ∧ Bears wr (walObj x p at' size g * (diskA p dk * R)))
    (fun i _ => n - (intOf i).toNat)
  case atStart => exact ⟨0, by omega, rfl, d, rfl, h1⟩
  case round =>
    obtain ⟨k, hk, rfl, dk, hdk, h2⟩ := hrel
    have hwk : dk.waits.length ≤ d.waits.length + k := by have := wLoop_waits d at' size k; rw [hdk] at this; exact this
    by_cases hlt : k < n
    · have hsucc := wLoop_succ hdk
      have Hdk := Lib.hid hdk
      clear hdk
      have k0 : IntKind.i64.wrap ((at' : Int) + 1) = (at' : Int) + 1 := IntWalk.i64_in _ (by omega)
      have k1 : (k : Int).tdiv 32 = (k : Int) / 32 := Int.tdiv_eq_ediv_of_nonneg (by omega)
      have k2 : IntKind.i64.wrap ((at' : Int) + 1 + (k : Int) / 32) = ((at' + 1 + k / 32 : Nat) : Int) := by rw [IntWalk.i64_in _ (by omega)]; omega
      have k3 : IntKind.i64.wrap ((k : Int) / 32) = (k : Int) / 32 := IntWalk.i64_in _ (by omega)
      by_cases hc1 : dk.check ((at' + 1 + k / 32 : Nat) : Int) = 0
      · have hs1 : (dk.now (at' + 1 + k / 32)).length = 64 := by obtain ⟨_, _, _, _, _, hwf, _⟩ := Bears.disk.1 h2.pull2; exact hwf.now _
        have hto : wTo dk at' k = takenB (((dk.now (at' + 1 + k / 32)).drop (k % 32 * 2)).take 2) := rfl
        obtain ⟨s1, hs1e⟩ : ∃ s, dk.now (at' + 1 + k / 32) = s := ⟨_, rfl⟩
        rw [hs1e] at hs1 hto
        have Hs1 := Lib.hid hs1e
        clear hs1e
        have Hc1 := Lib.hid hc1
        have Hto := Lib.hid hto
        clear hc1 hto
        go_wp2_with fail
        refine wp_region_L (fun w' => ∃ Q, Bears w' (walObj x p at' size g * Q)) 17
          [(true, 0), (true, 1), (true, 2), (true, 3), (true, 4), (true, 5), (true, 6), (true, 7), (true, 8), (true, 9), (true, 10), (true, 11), (false, 12), (true, 13), (true, 14), (true, 15), (true, 16)] [(true, 17)] (by kernel_rfl) (by kernel_rfl) ⟨_, h2.drew⟩ ?_
        simp only [pick, List.getElem?_cons_zero, List.getElem?_cons_succ]
        refine wpL_yield (v := ?_) rfl (fun w' hS => ?_) ?_
        rotate_left
        · (obtain ⟨_, hS⟩ := hS; obtain ⟨c0, c1, c2, c3, _⟩ := wal_cells hS; go_simp; try with_reducible rfl)
        simp only [Act.put, List.setIfInBounds_toArray, List.set_cons_zero, List.set_cons_succ]
        refine wpL_yield (v := ?_) rfl (fun w' hS => ?_) ?_
        rotate_left
        · (obtain ⟨_, hS⟩ := hS; obtain ⟨c0, c1, c2, c3, _⟩ := wal_cells hS; go_simp; try with_reducible rfl)
        simp only [Act.put, List.setIfInBounds_toArray, List.set_cons_zero, List.set_cons_succ]
        refine wpL_yield (v := ?_) rfl (fun w' hS => ?_) ?_
        rotate_left
        · (obtain ⟨_, hS⟩ := hS; obtain ⟨c0, c1, c2, c3, _⟩ := wal_cells hS; go_simp; try with_reducible rfl)
        simp only [Act.put, List.setIfInBounds_toArray, List.set_cons_zero, List.set_cons_succ]
        refine wpL_yield (v := ?_) rfl (fun w' hS => ?_) ?_
        rotate_left
        · (obtain ⟨_, hS⟩ := hS; obtain ⟨c0, c1, c2, c3, _⟩ := wal_cells hS; go_simp; try with_reducible rfl)
        simp only [Act.put, List.setIfInBounds_toArray, List.set_cons_zero, List.set_cons_succ]
        refine wpL_yield (v := ?_) rfl (fun w' hS => ?_) ?_
        rotate_left
        · (obtain ⟨_, hS⟩ := hS; obtain ⟨c0, c1, c2, c3, _⟩ := wal_cells hS; go_simp; try with_reducible rfl)
        simp only [Act.put, List.setIfInBounds_toArray, List.set_cons_zero, List.set_cons_succ]
        refine wpL_yield (v := ?_) rfl (fun w' hS => ?_) ?_
        rotate_left
        · (obtain ⟨_, hS⟩ := hS; obtain ⟨c0, c1, c2, c3, _⟩ := wal_cells hS; go_simp; try with_reducible rfl)
        simp only [Act.put, List.setIfInBounds_toArray, List.set_cons_zero, List.set_cons_succ]
        refine wpL_yield (v := ?_) rfl (fun w' hS => ?_) ?_
        rotate_left
        · (obtain ⟨_, hS⟩ := hS; obtain ⟨c0, c1, c2, c3, _⟩ := wal_cells hS; go_simp; try with_reducible rfl)
        simp only [Act.put, List.setIfInBounds_toArray, List.set_cons_zero, List.set_cons_succ]
        refine wpL_yield (v := ?_) rfl (fun w' hS => ?_) ?_
        rotate_left
        · (obtain ⟨_, hS⟩ := hS; obtain ⟨c0, c1, c2, c3, _⟩ := wal_cells hS; go_simp; try with_reducible rfl)
        simp only [Act.put, List.setIfInBounds_toArray, List.set_cons_zero, List.set_cons_succ]
        refine wpL_yield (v := ?_) rfl (fun w' hS => ?_) ?_
        rotate_left
        · (obtain ⟨_, hS⟩ := hS; obtain ⟨c0, c1, c2, c3, _⟩ := wal_cells hS; go_simp; try with_reducible rfl)
        simp only [Act.put, List.setIfInBounds_toArray, List.set_cons_zero, List.set_cons_succ]
        refine wpL_yield (v := ?_) rfl (fun w' hS => ?_) ?_
        rotate_left
        · (obtain ⟨_, hS⟩ := hS; obtain ⟨c0, c1, c2, c3, _⟩ := wal_cells hS; go_simp; try with_reducible rfl)
        simp only [Act.put, List.setIfInBounds_toArray, List.set_cons_zero, List.set_cons_succ]
        refine wpL_yield (v := ?_) rfl (fun w' hS => ?_) ?_
        rotate_left
        · (obtain ⟨_, hS⟩ := hS; obtain ⟨c0, c1, c2, c3, _⟩ := wal_cells hS; go_simp; try with_reducible rfl)
        simp only [Act.put, List.setIfInBounds_toArray, List.set_cons_zero, List.set_cons_succ]
        refine wpL_yield (v := ?_) rfl (fun w' hS => ?_) ?_
        rotate_left
        · (obtain ⟨_, hS⟩ := hS; obtain ⟨c0, c1, c2, c3, _⟩ := wal_cells hS; go_simp; try with_reducible rfl)
        simp only [Act.put, List.setIfInBounds_toArray, List.set_cons_zero, List.set_cons_succ]
        refine wpL_eff rfl ?_
        go_simp
        refine (read_to (s := s1) _ h2.drew.pull2 Hc1.out Hs1.out).mono ?_
        rintro e w2 ⟨g1, rfl, h3⟩
        refine ⟨⟨_, h3.pull3⟩, ?_⟩
        refine wpL_yield (v := ?_) rfl (fun w' hS => ?_) ?_
        rotate_left
        · (go_simp; try with_reducible rfl)
        simp only [Act.put, List.setIfInBounds_toArray, List.set_cons_zero, List.set_cons_succ]
        refine wpL_yield (v := ?_) rfl (fun w' hS => ?_) ?_
        rotate_left
        · (go_simp; try with_reducible rfl)
        simp only [Act.put, List.setIfInBounds_toArray, List.set_cons_zero, List.set_cons_succ]
        refine wpL_yield (v := ?_) rfl (fun w' hS => ?_) ?_
        rotate_left
        · (go_simp; try with_reducible rfl)
        simp only [Act.put, List.setIfInBounds_toArray, List.set_cons_zero, List.set_cons_succ]
        refine wpL_yield (v := ?_) rfl (fun w' hS => ?_) ?_
        rotate_left
        · (go_simp; try with_reducible rfl)
        simp only [Act.put, List.setIfInBounds_toArray, List.set_cons_zero, List.set_cons_succ]
        refine wpL_nil ?_
        refine wpL_yield (v := ?_) rfl (fun w' hS => ?_) ?_
        rotate_left
        · (go_simp; try with_reducible rfl)
        simp only [Act.put, List.setIfInBounds_toArray, List.set_cons_zero, List.set_cons_succ]
        refine wpL_nil ?_
        obtain ⟨c0, c1, c2, c3, _⟩ := wal_cells h3.pull3
        have e2 : ((wFirst at' size + k : Nat) : Int) = (wFirst at' size : Nat) + (k : Int) := by omega
        by_cases hc2 : dk.check ((wFirst at' size + k : Nat) : Int) = 0
        · obtain ⟨s2, hs2e⟩ : ∃ s, dk.now (wFirst at' size + k) = s := ⟨_, rfl⟩
          have hs2 : s2.length = 64 := by rw [← hs2e]; obtain ⟨_, _, _, _, _, hwf, _⟩ := Bears.disk.1 h2.pull2; exact hwf.now _
          obtain ⟨r, d2, hwr⟩ : ∃ r d2, dk.write (wTo dk at' k) s2 = (r, d2) := ⟨_, _, rfl⟩
          have hround := wRound_go (r := r) (d2 := d2) Hc1.out hc2 (by rw [hs2e]; exact hwr)
          rw [hround] at hsucc
          rw [Hto.out] at hwr
          rw [e2] at hc2
          have Hc2 := Lib.hid hc2
          have Hs2 := Lib.hid (show dk.now (Int.toNat ((wFirst at' size : Nat) + (k : Int))) = s2 from hs2e)
          have Hwr := Lib.hid hwr
          have Hsucc := Lib.hid hsucc
          clear hc2 hs2e hwr hround hsucc e2
          go_wp2_with fail
          refine (read_to (s := s2) _ h3.pull2 Hc2.out Hs2.out).mono ?_
          rintro e w3 ⟨g2, rfl, h4⟩
          have m0 : (k : Int).tmod 32 = (k : Int) % 32 := Int.tmod_eq_emod_of_nonneg (by omega)
          have m1 : 0 ≤ (k : Int) % 32 ∧ (k : Int) % 32 < 32 := ⟨by omega, by omega⟩
          go_wp2_with fail
          have m2 : ∃ j : Nat, j + 2 ≤ 64 ∧ (k : Int) % 32 * 2 = (j : Int) ∧ k % 32 * 2 = j := ⟨k % 32 * 2, by omega, by omega, rfl⟩
          obtain ⟨j, hj, m3, m4⟩ := m2
          have Hw := Hwr.out
          rw [m4] at Hw
          rw [m3]
          have HW := Lib.hid Hw
          have h5 := h4.pull4
          clear m0 m1 m3 m4 Hw c0 c1 c2 c3
          refine wp_region_L (fun w' => ∃ Q, Bears w' (walObj x p at' size g * Q)) 14
            [(true, 0), (true, 1), (true, 2), (true, 3), (true, 4), (true, 5), (true, 6), (true, 7), (true, 8), (true, 9), (true, 10), (true, 12), (false, 11), (false, 13)] [(true, 14)] (by kernel_rfl) (by kernel_rfl) ⟨_, h5.drew⟩ ?_
          simp only [pick, List.getElem?_cons_zero, List.getElem?_cons_succ]
          have q1 : IntKind.i64.wrap ((j : Int) + 2) = (j : Int) + 2 := IntWalk.i64_in _ (by omega)
          refine wpL_yield (v := ?_) rfl (fun w' hS => ?_) ?_
          rotate_left
          · (obtain ⟨_, hS⟩ := hS; obtain ⟨c0, c1, c2, c3, _⟩ := wal_cells hS; go_simp; try with_reducible rfl)
          simp only [Act.put, List.setIfInBounds_toArray, List.set_cons_zero, List.set_cons_succ]
          refine wpL_yield (v := ?_) rfl (fun w' hS => ?_) ?_
          rotate_left
          · (obtain ⟨_, hS⟩ := hS; obtain ⟨c0, c1, c2, c3, _⟩ := wal_cells hS; go_simp; try with_reducible rfl)
          simp only [Act.put, List.setIfInBounds_toArray, List.set_cons_zero, List.set_cons_succ]
          refine wpL_yield (v := ?_) rfl (fun w' hS => ?_) ?_
          rotate_left
          · (obtain ⟨_, hS⟩ := hS; obtain ⟨c0, c1, c2, c3, _⟩ := wal_cells hS; go_simp; try with_reducible rfl)
          simp only [Act.put, List.setIfInBounds_toArray, List.set_cons_zero, List.set_cons_succ]
          refine wpL_yield (v := ?_) rfl (fun w' hS => ?_) ?_
          rotate_left
          · (obtain ⟨_, hS⟩ := hS; obtain ⟨c0, c1, c2, c3, _⟩ := wal_cells hS; go_simp; try with_reducible rfl)
          simp only [Act.put, List.setIfInBounds_toArray, List.set_cons_zero, List.set_cons_succ]
          refine wpL_yield (v := ?_) rfl (fun w' hS => ?_) ?_
          rotate_left
          · (obtain ⟨_, hS⟩ := hS; obtain ⟨c0, c1, c2, c3, _⟩ := wal_cells hS; go_simp; try with_reducible rfl)
          simp only [Act.put, List.setIfInBounds_toArray, List.set_cons_zero, List.set_cons_succ]
          refine wpL_yield (v := ?_) rfl (fun w' hS => ?_) ?_
          rotate_left
          · (obtain ⟨_, hS⟩ := hS; obtain ⟨c0, c1, c2, c3, _⟩ := wal_cells hS; go_simp; try with_reducible rfl)
          simp only [Act.put, List.setIfInBounds_toArray, List.set_cons_zero, List.set_cons_succ]
          refine wpL_yield (v := ?_) rfl (fun w' hS => ?_) ?_
          rotate_left
          · (obtain ⟨_, hS⟩ := hS; obtain ⟨c0, c1, c2, c3, _⟩ := wal_cells hS; go_simp; try with_reducible rfl)
          simp only [Act.put, List.setIfInBounds_toArray, List.set_cons_zero, List.set_cons_succ]
          refine wpL_yield (v := ?_) rfl (fun w' hS => ?_) ?_
          rotate_left
          · (obtain ⟨_, hS⟩ := hS; obtain ⟨c0, c1, c2, c3, _⟩ := wal_cells hS; go_simp; try with_reducible rfl)
          simp only [Act.put, List.setIfInBounds_toArray, List.set_cons_zero, List.set_cons_succ]
          refine wpL_yield (v := ?_) rfl (fun w' hS => ?_) ?_
          rotate_left
          · (obtain ⟨_, hS⟩ := hS; obtain ⟨c0, c1, c2, c3, _⟩ := wal_cells hS; go_simp; try with_reducible rfl)
          simp only [Act.put, List.setIfInBounds_toArray, List.set_cons_zero, List.set_cons_succ]
          refine wpL_yield (v := ?_) rfl (fun w' hS => ?_) ?_
          rotate_left
          · (obtain ⟨_, hS⟩ := hS; obtain ⟨c0, c1, c2, c3, _⟩ := wal_cells hS; go_simp; try with_reducible rfl)
          simp only [Act.put, List.setIfInBounds_toArray, List.set_cons_zero, List.set_cons_succ]
          have hz8 : ∀ w, (Go.sizeOf 5).run Try.prog w = .ok 1 w := fun w => by kernel_rfl
          refine wpL_yield rfl (fun w' hS => exec_slice3 (lo := j) (hi := j + 2) (mx := j + 2) rfl Try.underlying43 (hz8 w') rfl rfl (by go_simp) (by go_simp) (by omega) (by omega) (by omega)) ?_
          simp only [Act.put, List.setIfInBounds_toArray, List.set_cons_zero, List.set_cons_succ]
          rw [show j + 2 - j = 2 by omega]
          refine wpL_yield (v := ?_) rfl (fun w' hS => ?_) ?_
          rotate_left
          · (go_simp; try with_reducible rfl)
          simp only [Act.put, List.setIfInBounds_toArray, List.set_cons_zero, List.set_cons_succ]
          refine wpL_eff rfl ?_
          go_simp
          refine (taken_any h5.drew (pair_tells_at hs1 hj) (by simp [hs1]; omega)).mono ?_
          rintro e w4 ⟨rfl, h6⟩
          refine ⟨⟨_, h6⟩, ?_⟩
          refine wpL_eff rfl ?_
          go_simp
          refine (write_to h6.pull3 HW.out (BytesIn.tells _ _ (by rw [hs2])).right (by omega)).mono ?_
          rintro e w5 ⟨rfl, h7⟩
          refine ⟨⟨_, h7.pull2⟩, ?_⟩
          refine wpL_nil ?_
          refine wpL_yield (v := ?_) rfl (fun w' hS => ?_) ?_
          rotate_left
          · (go_simp; try with_reducible rfl)
          simp only [Act.put, List.setIfInBounds_toArray, List.set_cons_zero, List.set_cons_succ]
          refine wpL_nil ?_
          have h8 : Bears w5 (walObj x p at' size g * (diskA p d2 * R)) := (h7.pull3.right.pull3.right).cast (by ac_rfl)
          clear h3 h4 h5 h6 h7 q1
          by_cases hr0 : r = 0
          · subst hr0
            have HS := Hsucc.out
            rw [if_pos rfl] at HS
            clear HW Hwr Hsucc
            go_wp2_with fail
            go_roundw
            case rel => exact ⟨k + 1, hlt, by go_num, d2, HS, h8⟩
            case measure => simp [intOf]; omega
          · by_cases hr2 : r = 2
            · subst hr2
              have HS := Hsucc.out
              rw [if_neg (by decide), if_pos rfl] at HS
              have Hstop := Lib.hid (wFinish_stop (g := g) (n := n) HS (by decide) (by omega))
              clear HW Hwr Hsucc HS
              go_wp2_with fail
              go_ret
              rw [Hstop.out]
              exact ⟨rfl, h8⟩
            · have HS := Hsucc.out
              rw [if_neg hr0, if_neg hr2] at HS
              have Hstop := Lib.hid (wFinish_stop (g := g) (n := n) HS (by decide) (by omega))
              clear HW Hwr Hsucc HS
              go_wp2_with fail
              go_ret
              rw [Hstop.out]
              exact ⟨rfl, h8⟩
        · rw [wRound_no2 Hc1.out hc2] at hsucc
          have Hstop := Lib.hid (wFinish_stop (g := g) (n := n) hsucc hc2 (by omega))
          obtain ⟨c, hcc⟩ : ∃ c, dk.check ((wFirst at' size + k : Nat) : Int) = c := ⟨_, rfl⟩
          rw [hcc] at hc2 Hstop
          rw [e2] at hcc
          have Hcc := Lib.hid hcc
          clear hsucc hcc e2
          go_wp2_with fail
          refine (read_bad h3.pull2 _ Hcc.out hc2).mono ?_
          rintro e w3 ⟨rfl, rfl⟩
          go_wp2_with fail
          go_ret
          rw [Hstop.out]
          exact ⟨rfl, h3.right.pull2⟩
      · rw [wRound_no1 hc1] at hsucc
        have Hstop := Lib.hid (wFinish_stop (g := g) (n := n) hsucc hc1 (by omega))
        obtain ⟨c, hcc⟩ : ∃ c, dk.check ((at' + 1 + k / 32 : Nat) : Int) = c := ⟨_, rfl⟩
        rw [hcc] at hc1 Hstop
        have Hcc := Lib.hid hcc
        clear hsucc hcc
        go_wp2_with fail
        refine wp_region_L (fun w' => Bears w' (walObj x p at' size g * (diskA p dk * R))) 17
          [(true, 0), (true, 1), (true, 2), (true, 3), (true, 4), (true, 5), (true, 6), (true, 7), (true, 8), (true, 9), (true, 10), (true, 11), (false, 12), (true, 13), (true, 14), (true, 15), (true, 16)] [(true, 17)] (by kernel_rfl) (by kernel_rfl) h2.drew ?_
        simp only [pick, List.getElem?_cons_zero, List.getElem?_cons_succ]
        refine wpL_yield (v := ?_) rfl (fun w' hS => ?_) ?_
        rotate_left
        · (obtain ⟨c0, c1, c2, c3, _⟩ := wal_cells hS; go_simp; try with_reducible rfl)
        simp only [Act.put, List.setIfInBounds_toArray, List.set_cons_zero, List.set_cons_succ]
        refine wpL_yield (v := ?_) rfl (fun w' hS => ?_) ?_
        rotate_left
        · (obtain ⟨c0, c1, c2, c3, _⟩ := wal_cells hS; go_simp; try with_reducible rfl)
        simp only [Act.put, List.setIfInBounds_toArray, List.set_cons_zero, List.set_cons_succ]
        refine wpL_yield (v := ?_) rfl (fun w' hS => ?_) ?_
        rotate_left
        · (obtain ⟨c0, c1, c2, c3, _⟩ := wal_cells hS; go_simp; try with_reducible rfl)
        simp only [Act.put, List.setIfInBounds_toArray, List.set_cons_zero, List.set_cons_succ]
        refine wpL_yield (v := ?_) rfl (fun w' hS => ?_) ?_
        rotate_left
        · (obtain ⟨c0, c1, c2, c3, _⟩ := wal_cells hS; go_simp; try with_reducible rfl)
        simp only [Act.put, List.setIfInBounds_toArray, List.set_cons_zero, List.set_cons_succ]
        refine wpL_yield (v := ?_) rfl (fun w' hS => ?_) ?_
        rotate_left
        · (obtain ⟨c0, c1, c2, c3, _⟩ := wal_cells hS; go_simp; try with_reducible rfl)
        simp only [Act.put, List.setIfInBounds_toArray, List.set_cons_zero, List.set_cons_succ]
        refine wpL_yield (v := ?_) rfl (fun w' hS => ?_) ?_
        rotate_left
        · (obtain ⟨c0, c1, c2, c3, _⟩ := wal_cells hS; go_simp; try with_reducible rfl)
        simp only [Act.put, List.setIfInBounds_toArray, List.set_cons_zero, List.set_cons_succ]
        refine wpL_yield (v := ?_) rfl (fun w' hS => ?_) ?_
        rotate_left
        · (obtain ⟨c0, c1, c2, c3, _⟩ := wal_cells hS; go_simp; try with_reducible rfl)
        simp only [Act.put, List.setIfInBounds_toArray, List.set_cons_zero, List.set_cons_succ]
        refine wpL_yield (v := ?_) rfl (fun w' hS => ?_) ?_
        rotate_left
        · (obtain ⟨c0, c1, c2, c3, _⟩ := wal_cells hS; go_simp; try with_reducible rfl)
        simp only [Act.put, List.setIfInBounds_toArray, List.set_cons_zero, List.set_cons_succ]
        refine wpL_yield (v := ?_) rfl (fun w' hS => ?_) ?_
        rotate_left
        · (obtain ⟨c0, c1, c2, c3, _⟩ := wal_cells hS; go_simp; try with_reducible rfl)
        simp only [Act.put, List.setIfInBounds_toArray, List.set_cons_zero, List.set_cons_succ]
        refine wpL_yield (v := ?_) rfl (fun w' hS => ?_) ?_
        rotate_left
        · (obtain ⟨c0, c1, c2, c3, _⟩ := wal_cells hS; go_simp; try with_reducible rfl)
        simp only [Act.put, List.setIfInBounds_toArray, List.set_cons_zero, List.set_cons_succ]
        refine wpL_yield (v := ?_) rfl (fun w' hS => ?_) ?_
        rotate_left
        · (obtain ⟨c0, c1, c2, c3, _⟩ := wal_cells hS; go_simp; try with_reducible rfl)
        simp only [Act.put, List.setIfInBounds_toArray, List.set_cons_zero, List.set_cons_succ]
        refine wpL_yield (v := ?_) rfl (fun w' hS => ?_) ?_
        rotate_left
        · (obtain ⟨c0, c1, c2, c3, _⟩ := wal_cells hS; go_simp; try with_reducible rfl)
        simp only [Act.put, List.setIfInBounds_toArray, List.set_cons_zero, List.set_cons_succ]
        refine wpL_eff rfl ?_
        go_simp
        refine (read_bad h2.drew.pull2 _ Hcc.out hc1).mono ?_
        rintro e w2 ⟨rfl, rfl⟩
        refine ⟨h2.drew, ?_⟩
        refine wpL_yield (v := ?_) rfl (fun w' hS => ?_) ?_
        rotate_left
        · (go_simp; try with_reducible rfl)
        simp only [Act.put, List.setIfInBounds_toArray, List.set_cons_zero, List.set_cons_succ]
        refine wpL_yield (v := ?_) rfl (fun w' hS => ?_) ?_
        rotate_left
        · (go_simp; try with_reducible rfl)
        simp only [Act.put, List.setIfInBounds_toArray, List.set_cons_zero, List.set_cons_succ]
        refine wpL_yield (v := ?_) rfl (fun w' hS => ?_) ?_
        rotate_left
        · (go_simp; try with_reducible rfl)
        simp only [Act.put, List.setIfInBounds_toArray, List.set_cons_zero, List.set_cons_succ]
        refine wpL_yield (v := ?_) rfl (fun w' hS => ?_) ?_
        rotate_left
        · (go_simp; try with_reducible rfl)
        simp only [Act.put, List.setIfInBounds_toArray, List.set_cons_zero, List.set_cons_succ]
        refine wpL_nil ?_
        refine wpL_yield (v := ?_) rfl (fun w' hS => ?_) ?_
        rotate_left
        · (go_simp; try with_reducible rfl)
        simp only [Act.put, List.setIfInBounds_toArray, List.set_cons_zero, List.set_cons_succ]
        refine wpL_nil ?_
        go_wp2_with fail
        go_ret
        rw [Hstop.out]
        exact ⟨rfl, h2.drew⟩
    · obtain rfl : k = n := by omega
      have hfin := Lib.hid (wFinish_go (g := g) hdk)
      clear hdk
      go_wp2_with fail
      refine (both_any h2 0 (by omega)).mono ?_
      rintro e w2 ⟨rfl, h3⟩
      go_wp2_with fail
      go_ret
      rw [hfin.out]
      exact ⟨rfl, h3⟩

end Go.Proofs.Ytaiobekochhemaa
