/- The log: made and opened; no condition. -/
import Derived.Test.YtaiobekochhemaaWalW3
namespace Go.Proofs.Ytaiobekochhemaa
open Go.RowKit Go.MapKept

theorem there_nats {d : DiskM} {at' size : Int} (h : wThere d at' size = true) : ∃ a z : Nat, at' = a ∧ size = z ∧ 3 ≤ z ∧ a + z ≤ d.len := by
  unfold wThere at h
  simp only [Bool.and_eq_true, decide_eq_true_eq] at h
  exact ⟨at'.toNat, size.toNat, by omega, by omega, by omega, by omega⟩

set_option maxRecDepth 100000 in
set_option maxHeartbeats 800000 in
theorem format_any {p : Nat} {d : DiskM} {R : Assn} {w : World} (h : Bears w (diskA p d * R)) (at' size : Int) (ha : -9223372036854775808 ≤ at' ∧ at' ≤ 9223372036854775807) (hs : -9223372036854775808 ≤ size ∧ size ≤ 9223372036854775807) (hroom : d.waits.length + 1 < 1099511627776) :
    Calls Try.prog 66 #[.pointer (some ⟨p, 0, none⟩), .int .i64 at', .int .i64 size] w fun e w' => e = .returned (.int .i64 (wFormat d at' size).1) ∧ Bears w' (diskA p (wFormat d at' size).2 * R) := by
  by_cases ht : wThere d at' size = true
  · have hfin : wFormat d at' size = wBoth d at'.toNat size.toNat 0 0 := by unfold wFormat; rw [if_neg (by simp [ht])]
    have Hfin := Lib.hid hfin
    have Ht := Lib.hid ht
    obtain ⟨a, z, rfl, rfl, hz, haz⟩ := there_nats ht
    clear hfin ht
    go_enter Try.func66, Try.ntmps66
    go_wp2_with fail
    refine (there_any h a z ha hs).mono ?_
    rintro e w1 ⟨rfl, h1⟩
    rw [Ht.out]
    go_wp2_with fail
    refine (both_any (h1.alloc (.cells #[.pointer (some ⟨p, 0, none⟩), .int .i64 a, .int .i64 z, .int .i64 0] 132)) 0 hroom).mono ?_
    rintro e w2 ⟨rfl, h2⟩
    go_wp2_with fail
    go_ret
    rw [Hfin.out]
    exact ⟨rfl, h2.right⟩
  · have ht : wThere d at' size = false := by simpa using ht
    have hfin : wFormat d at' size = (1, d) := by unfold wFormat; rw [if_pos ht]
    rw [hfin]
    have Ht := Lib.hid ht
    clear hfin ht
    go_enter Try.func66, Try.ntmps66
    go_wp2_with fail
    refine (there_any h at' size ha hs).mono ?_
    rintro e w1 ⟨rfl, h1⟩
    rw [Ht.out]
    go_wp2_with fail
    go_ret
    exact ⟨rfl, h1⟩

/-- Bytes out of the middle of a sector that was read. -/
theorem mid_tells {g : Nat} {s : Sec} {t : TypeId} {R : Assn} {v m cap : Nat} (hs : s.length = 64) (hk : v + m ≤ 64) :
    (Assn.obj g (.cells (cellsV s).toArray t (0, 0)) * R).Tells (fun w => BytesIn w (.slice (some ⟨g, v, none⟩) m cap) ((s.drop v).take m)) := by
  intro w h
  have hl : ((s.drop v).take m).length = m := by simp [hs]; omega
  refine ⟨_, cap, by rw [hl], fun _ => ⟨g, v, rfl, fun j u hv => ?_⟩⟩
  have hj : j < m := by
    have := (List.getElem?_eq_some_iff.1 hv).1
    simpa [hl] using this
  rw [cell_of_obj h.obj]
  rw [← hv]
  simp [cellsV, hj]

theorem open_bytes {w : World} {A : Assn} {b : Nat} {s : Sec} {t : TypeId} {n : Nat} (hn : s.length = n) (h : ∃ Q, Bears w (A * (Assn.obj b (.cells (cellsV s).toArray t (0, 0)) * Q))) : BytesIn w (.slice (some ⟨b, 0, none⟩) n n) s := by
  obtain ⟨Q, h⟩ := h
  exact BytesIn.tells n n hn.symm _ h.pull2

theorem beN_lt : ∀ l : List UInt8, beN l < 256 ^ l.length
  | [] => by simp [beN]
  | c :: l => by
    have := beN_lt l
    have hc := c.toNat_lt
    rw [beN_cons, List.length_cons, Nat.pow_succ]
    have h2 : c.toNat * 256 ^ l.length ≤ 255 * 256 ^ l.length := Nat.mul_le_mul_right _ (by omega)
    omega

theorem hand_nonneg (s : Sec) : 0 ≤ handIn s := by
  have hl : ((s.drop 25).take 2).length ≤ 2 := by simp; omega
  have h1 := beN_lt ((s.drop 25).take 2)
  have h2 : 256 ^ ((s.drop 25).take 2).length ≤ 256 ^ 2 := Nat.pow_le_pow_right (by decide) hl
  unfold handIn takenB wrap64
  omega

/-- What Open answers. -/
abbrev OpenPost (p : Nat) (d : DiskM) (at' size : Int) (R : Assn) (e : Ending) (w' : World) : Prop :=
  ((wOpen d at' size).1 ≠ 0 ∧ e = .returned (.tuple #[.pointer none, .int .i64 (wOpen d at' size).1]) ∧ Bears w' (diskA p (wOpen d at' size).2 * R)) ∨
  ((wOpen d at' size).1 = 0 ∧ ∃ x, e = .returned (.tuple #[.pointer (some ⟨x, 0, none⟩), .int .i64 0]) ∧ Bears w' (walObj x p at'.toNat size.toNat (groupsIn (d.now at'.toNat)) * (diskA p (wOpen d at' size).2 * R)))

set_option maxRecDepth 100000 in
set_option maxHeartbeats 1600000 in
theorem open_any {p : Nat} {d : DiskM} {R : Assn} {w : World} (h : Bears w (diskA p d * R)) (at' size : Int) (ha : -9223372036854775808 ≤ at' ∧ at' ≤ 9223372036854775807) (hs : -9223372036854775808 ≤ size ∧ size ≤ 9223372036854775807) (hroom : d.waits.length + 20000 < 1099511627776) :
    Calls Try.prog 42 #[.pointer (some ⟨p, 0, none⟩), .int .i64 at', .int .i64 size] w fun e w' => OpenPost p d at' size R e w' := by
  by_cases ht : wThere d at' size = true
  · have Ht := Lib.hid ht
    obtain ⟨a, z, rfl, rfl, hz, haz⟩ := there_nats ht
    have hlen : d.len ≤ 8192 := by obtain ⟨_, _, _, _, _, hwf, _⟩ := Bears.disk.1 h; exact hwf.len
    by_cases hck : d.check (a : Int) = 0
    · obtain ⟨s, hse⟩ : ∃ s, d.now a = s := ⟨_, rfl⟩
      have hs64 : s.length = 64 := by rw [← hse]; obtain ⟨_, _, _, _, _, hwf, _⟩ := Bears.disk.1 h; exact hwf.now _
      have hopen : wOpen d (a : Int) (z : Int) = if s ≠ headB z (groupsIn s) (handIn s) ∨ (roomN z : Int) < handIn s ∨ groupsIn s < 0 then (4, d) else if 0 < handIn s then wFinish d a z (groupsIn s) (handIn s).toNat else (0, d) := by
        unfold wOpen
        rw [if_neg (by simp [ht]), if_neg (fun h' => h' hck)]
        simp only [Int.toNat_natCast]
        rw [hse]
      have hg : takenB ((s.drop 17).take 8) = groupsIn s := rfl
      have hh : takenB ((s.drop 25).take 2) = handIn s := rfl
      have Hse := Lib.hid hse
      have Hck := Lib.hid hck
      have Hopen := Lib.hid hopen
      clear hopen hck ht
      clear hse
      go_enter Try.func42, Try.ntmps42
      go_wp2_with fail
      refine (there_any h a z ha hs).mono ?_
      rintro e w1 ⟨rfl, h1⟩
      rw [Ht.out]
      go_wp2_with fail
      refine (read_to (s := s) a h1 Hck.out Hse.out).mono ?_
      rintro e w2 ⟨b, rfl, h2⟩
      go_wp2_with fail
      refine (taken_any h2 (mid_tells (v := 17) (m := 8) hs64 (by decide)) (by simp; omega)).mono ?_
      rintro e w3 ⟨rfl, h3⟩
      rw [hg]
      have h4 := h3.alloc (.cells #[.pointer (some ⟨p, 0, none⟩), .int .i64 a, .int .i64 z, .int .i64 (groupsIn s)] 132)
      go_wp2_with fail
      refine (taken_any h4 (mid_tells (v := 25) (m := 2) hs64 (by decide)).right (by simp; omega)).mono ?_
      rintro e w4 ⟨rfl, h5⟩
      rw [hh]
      generalize w3.heap.size = x at h5
      obtain ⟨g, hge⟩ : ∃ g, groupsIn s = g := ⟨_, rfl⟩
      obtain ⟨hd, hhe⟩ : ∃ hd, handIn s = hd := ⟨_, rfl⟩
      have HO := Hopen.out
      rw [hge, hhe] at HO
      rw [hge] at h5
      rw [hge, hhe]
      have Hge := Lib.hid hge
      have Hhd := Lib.hid hhe
      have Hop := Lib.hid HO
      clear h1 h2 h3 h4 hg hh hge hhe HO Hopen
      have hl := headB_length z g hd
      go_wp2_with fail
      by_cases hne : s = headB z g hd
      · subst hne
        have hroomz : roomN z ≤ z := by unfold roomN; split <;> omega
        by_cases hbig : (roomN z : Int) < hd
        · rw [if_pos (.inr (.inl hbig))] at Hop
          refine wp_region_L (fun w' => ∃ Q, Bears w' (walObj x p a z g * (Assn.obj b (.cells (cellsV (headB z g hd)).toArray 125 (0, 0)) * Q))) 24
            [(true, 0), (true, 1), (true, 2), (true, 3), (true, 4), (true, 5), (true, 6), (true, 7), (false, 8), (false, 9), (true, 10), (true, 11), (true, 12), (true, 13), (false, 14), (true, 15), (true, 16), (true, 17), (true, 18), (true, 19), (true, 20), (true, 21), (true, 22), (true, 23)] [] (by kernel_rfl) (by kernel_rfl) ⟨_, h5.drew⟩ ?_
          simp only [pick, List.getElem?_cons_zero, List.getElem?_cons_succ]
          refine wpL_yield (v := ?_) rfl (fun w' hS => ?_) ?_
          rotate_left
          · (go_simp; try with_reducible rfl)
          simp only [Act.put, List.setIfInBounds_toArray, List.set_cons_zero, List.set_cons_succ]
          refine wpL_yield rfl (fun w' hS => exec_convert rfl rfl (run_convert_in (open_bytes hs64 hS))) ?_
          simp only [Act.put, List.setIfInBounds_toArray, List.set_cons_zero, List.set_cons_succ]
          refine wpL_yield (v := ?_) rfl (fun w' hS => ?_) ?_
          rotate_left
          · (obtain ⟨_, hS⟩ := hS; obtain ⟨c0, c1, c2, c3, _⟩ := wal_cells hS; go_simp; try with_reducible rfl)
          simp only [Act.put, List.setIfInBounds_toArray, List.set_cons_zero, List.set_cons_succ]
          refine wpL_yield (v := ?_) rfl (fun w' hS => ?_) ?_
          rotate_left
          · (obtain ⟨_, hS⟩ := hS; obtain ⟨c0, c1, c2, c3, _⟩ := wal_cells hS; go_simp; try with_reducible rfl)
          simp only [Act.put, List.setIfInBounds_toArray, List.set_cons_zero, List.set_cons_succ]
          refine wpL_yield (v := ?_) rfl (fun w' hS => ?_) ?_
          rotate_left
          · (obtain ⟨_, hS⟩ := hS; obtain ⟨c0, c1, c2, c3, _⟩ := wal_cells hS; go_simp; try with_reducible rfl)
          simp only [Act.put, List.setIfInBounds_toArray, List.set_cons_zero, List.set_cons_succ]
          refine wpL_yield (v := ?_) rfl (fun w' hS => ?_) ?_
          rotate_left
          · (obtain ⟨_, hS⟩ := hS; obtain ⟨c0, c1, c2, c3, _⟩ := wal_cells hS; go_simp; try with_reducible rfl)
          simp only [Act.put, List.setIfInBounds_toArray, List.set_cons_zero, List.set_cons_succ]
          refine wpL_yield (v := ?_) rfl (fun w' hS => ?_) ?_
          rotate_left
          · (obtain ⟨_, hS⟩ := hS; obtain ⟨c0, c1, c2, c3, _⟩ := wal_cells hS; go_simp; try with_reducible rfl)
          simp only [Act.put, List.setIfInBounds_toArray, List.set_cons_zero, List.set_cons_succ]
          refine wpL_yield (v := ?_) rfl (fun w' hS => ?_) ?_
          rotate_left
          · (obtain ⟨_, hS⟩ := hS; obtain ⟨c0, c1, c2, c3, _⟩ := wal_cells hS; go_simp; try with_reducible rfl)
          simp only [Act.put, List.setIfInBounds_toArray, List.set_cons_zero, List.set_cons_succ]
          refine wpL_eff rfl ?_
          go_simp
          refine (whead_any h5.drew z g hd).mono ?_
          rintro e w5 ⟨b2, rfl, h6⟩
          refine ⟨⟨_, h6.right⟩, ?_⟩
          refine wpL_eff rfl (wp_of_run (exec_convert rfl rfl (run_convert_in (BytesIn.tells _ _ (by rw [hl]) _ h6))) ⟨⟨_, h6.right⟩, ?_⟩)
          simp only [Act.put, List.setIfInBounds_toArray, List.set_cons_zero, List.set_cons_succ]
          refine wpL_yield (v := ?_) rfl (fun w' hS => ?_) ?_
          rotate_left
          · (go_simp; try with_reducible rfl)
          simp only [Act.put, List.setIfInBounds_toArray, List.set_cons_zero, List.set_cons_succ]
          refine wpL_yield (v := ?_) rfl (fun w' hS => ?_) ?_
          rotate_left
          · (go_simp; try with_reducible rfl)
          simp only [Act.put, List.setIfInBounds_toArray, List.set_cons_zero, List.set_cons_succ]
          refine wpL_guarded (v := ?_) rfl (fun w' hS => ?_) ?_
          rotate_left
          · (go_simp; try with_reducible rfl)
          simp only [Act.put, List.setIfInBounds_toArray, List.set_cons_zero, List.set_cons_succ]
          refine wpL_guarded (v := ?_) rfl (fun w' hS => ?_) ?_
          rotate_left
          · (go_simp; try with_reducible rfl)
          simp only [Act.put, List.setIfInBounds_toArray, List.set_cons_zero, List.set_cons_succ]
          refine wpL_effG rfl ?_
          go_simp
          refine (room_any w5 z (by omega)).mono ?_
          rintro e w6 ⟨rfl, rfl⟩
          refine ⟨⟨_, h6.right⟩, ?_⟩
          refine wpL_guarded (v := ?_) rfl (fun w' hS => ?_) ?_
          rotate_left
          · (go_simp; try with_reducible rfl)
          simp only [Act.put, List.setIfInBounds_toArray, List.set_cons_zero, List.set_cons_succ]
          refine wpL_yield (v := ?_) rfl (fun w' hS => ?_) ?_
          rotate_left
          · (go_simp; try with_reducible rfl)
          simp only [Act.put, List.setIfInBounds_toArray, List.set_cons_zero, List.set_cons_succ]
          refine wpL_yield (v := ?_) rfl (fun w' hS => ?_) ?_
          rotate_left
          · (go_simp; try with_reducible rfl)
          simp only [Act.put, List.setIfInBounds_toArray, List.set_cons_zero, List.set_cons_succ]
          refine wpL_skip rfl ?_
          simp only [Act.put, List.setIfInBounds_toArray, List.set_cons_zero, List.set_cons_succ]
          refine wpL_skip rfl ?_
          simp only [Act.put, List.setIfInBounds_toArray, List.set_cons_zero, List.set_cons_succ]
          refine wpL_skip rfl ?_
          simp only [Act.put, List.setIfInBounds_toArray, List.set_cons_zero, List.set_cons_succ]
          refine wpL_skip rfl ?_
          simp only [Act.put, List.setIfInBounds_toArray, List.set_cons_zero, List.set_cons_succ]
          refine wpL_skip rfl ?_
          simp only [Act.put, List.setIfInBounds_toArray, List.set_cons_zero, List.set_cons_succ]
          refine wpL_yield (v := ?_) rfl (fun w' hS => ?_) ?_
          rotate_left
          · (go_simp; try with_reducible rfl)
          simp only [Act.put, List.setIfInBounds_toArray, List.set_cons_zero, List.set_cons_succ]
          refine wpL_nil ?_
          refine wpL_nil ?_
          go_wp2_with fail
          go_ret2
          refine .inl ?_
          rw [Hop.out]
          exact ⟨by show (4 : Int) ≠ 0; decide, rfl, h6.right.right.right⟩
        · have hhdnat : 0 ≤ hd := by rw [← Hhd.out]; exact hand_nonneg _
          obtain ⟨m, rfl⟩ := Int.eq_ofNat_of_zero_le hhdnat
          refine wp_region_L (fun w' => ∃ Q, Bears w' (walObj x p a z g * (Assn.obj b (.cells (cellsV (headB z g m)).toArray 125 (0, 0)) * Q))) 24
            [(true, 0), (true, 1), (true, 2), (true, 3), (true, 4), (true, 5), (true, 6), (true, 7), (false, 8), (false, 9), (true, 10), (true, 11), (true, 12), (true, 13), (false, 14), (true, 15), (true, 16), (true, 17), (true, 18), (true, 19), (true, 20), (true, 21), (true, 22), (true, 23)] [] (by kernel_rfl) (by kernel_rfl) ⟨_, h5.drew⟩ ?_
          simp only [pick, List.getElem?_cons_zero, List.getElem?_cons_succ]
          refine wpL_yield (v := ?_) rfl (fun w' hS => ?_) ?_
          rotate_left
          · (go_simp; try with_reducible rfl)
          simp only [Act.put, List.setIfInBounds_toArray, List.set_cons_zero, List.set_cons_succ]
          refine wpL_yield rfl (fun w' hS => exec_convert rfl rfl (run_convert_in (open_bytes hs64 hS))) ?_
          simp only [Act.put, List.setIfInBounds_toArray, List.set_cons_zero, List.set_cons_succ]
          refine wpL_yield (v := ?_) rfl (fun w' hS => ?_) ?_
          rotate_left
          · (obtain ⟨_, hS⟩ := hS; obtain ⟨c0, c1, c2, c3, _⟩ := wal_cells hS; go_simp; try with_reducible rfl)
          simp only [Act.put, List.setIfInBounds_toArray, List.set_cons_zero, List.set_cons_succ]
          refine wpL_yield (v := ?_) rfl (fun w' hS => ?_) ?_
          rotate_left
          · (obtain ⟨_, hS⟩ := hS; obtain ⟨c0, c1, c2, c3, _⟩ := wal_cells hS; go_simp; try with_reducible rfl)
          simp only [Act.put, List.setIfInBounds_toArray, List.set_cons_zero, List.set_cons_succ]
          refine wpL_yield (v := ?_) rfl (fun w' hS => ?_) ?_
          rotate_left
          · (obtain ⟨_, hS⟩ := hS; obtain ⟨c0, c1, c2, c3, _⟩ := wal_cells hS; go_simp; try with_reducible rfl)
          simp only [Act.put, List.setIfInBounds_toArray, List.set_cons_zero, List.set_cons_succ]
          refine wpL_yield (v := ?_) rfl (fun w' hS => ?_) ?_
          rotate_left
          · (obtain ⟨_, hS⟩ := hS; obtain ⟨c0, c1, c2, c3, _⟩ := wal_cells hS; go_simp; try with_reducible rfl)
          simp only [Act.put, List.setIfInBounds_toArray, List.set_cons_zero, List.set_cons_succ]
          refine wpL_yield (v := ?_) rfl (fun w' hS => ?_) ?_
          rotate_left
          · (obtain ⟨_, hS⟩ := hS; obtain ⟨c0, c1, c2, c3, _⟩ := wal_cells hS; go_simp; try with_reducible rfl)
          simp only [Act.put, List.setIfInBounds_toArray, List.set_cons_zero, List.set_cons_succ]
          refine wpL_yield (v := ?_) rfl (fun w' hS => ?_) ?_
          rotate_left
          · (obtain ⟨_, hS⟩ := hS; obtain ⟨c0, c1, c2, c3, _⟩ := wal_cells hS; go_simp; try with_reducible rfl)
          simp only [Act.put, List.setIfInBounds_toArray, List.set_cons_zero, List.set_cons_succ]
          refine wpL_eff rfl ?_
          go_simp
          refine (whead_any h5.drew z g m).mono ?_
          rintro e w5 ⟨b2, rfl, h6⟩
          refine ⟨⟨_, h6.right⟩, ?_⟩
          refine wpL_eff rfl (wp_of_run (exec_convert rfl rfl (run_convert_in (BytesIn.tells _ _ (by rw [hl]) _ h6))) ⟨⟨_, h6.right⟩, ?_⟩)
          simp only [Act.put, List.setIfInBounds_toArray, List.set_cons_zero, List.set_cons_succ]
          refine wpL_yield (v := ?_) rfl (fun w' hS => ?_) ?_
          rotate_left
          · (go_simp; try with_reducible rfl)
          simp only [Act.put, List.setIfInBounds_toArray, List.set_cons_zero, List.set_cons_succ]
          refine wpL_yield (v := ?_) rfl (fun w' hS => ?_) ?_
          rotate_left
          · (go_simp; try with_reducible rfl)
          simp only [Act.put, List.setIfInBounds_toArray, List.set_cons_zero, List.set_cons_succ]
          refine wpL_guarded (v := ?_) rfl (fun w' hS => ?_) ?_
          rotate_left
          · (go_simp; try with_reducible rfl)
          simp only [Act.put, List.setIfInBounds_toArray, List.set_cons_zero, List.set_cons_succ]
          refine wpL_guarded (v := ?_) rfl (fun w' hS => ?_) ?_
          rotate_left
          · (go_simp; try with_reducible rfl)
          simp only [Act.put, List.setIfInBounds_toArray, List.set_cons_zero, List.set_cons_succ]
          refine wpL_effG rfl ?_
          go_simp
          refine (room_any w5 z (by omega)).mono ?_
          rintro e w6 ⟨rfl, rfl⟩
          refine ⟨⟨_, h6.right⟩, ?_⟩
          refine wpL_guarded (v := ?_) rfl (fun w' hS => ?_) ?_
          rotate_left
          · (go_simp; try with_reducible rfl)
          simp only [Act.put, List.setIfInBounds_toArray, List.set_cons_zero, List.set_cons_succ]
          refine wpL_yield (v := ?_) rfl (fun w' hS => ?_) ?_
          rotate_left
          · (go_simp; try with_reducible rfl)
          simp only [Act.put, List.setIfInBounds_toArray, List.set_cons_zero, List.set_cons_succ]
          refine wpL_yield (v := ?_) rfl (fun w' hS => ?_) ?_
          rotate_left
          · (go_simp; try with_reducible rfl)
          simp only [Act.put, List.setIfInBounds_toArray, List.set_cons_zero, List.set_cons_succ]
          refine wpL_guarded (v := ?_) rfl (fun w' hS => ?_) ?_
          rotate_left
          · (obtain ⟨_, hS⟩ := hS; obtain ⟨c0, c1, c2, c3, _⟩ := wal_cells hS; go_simp; try with_reducible rfl)
          simp only [Act.put, List.setIfInBounds_toArray, List.set_cons_zero, List.set_cons_succ]
          refine wpL_guarded (v := ?_) rfl (fun w' hS => ?_) ?_
          rotate_left
          · (obtain ⟨_, hS⟩ := hS; obtain ⟨c0, c1, c2, c3, _⟩ := wal_cells hS; go_simp; try with_reducible rfl)
          simp only [Act.put, List.setIfInBounds_toArray, List.set_cons_zero, List.set_cons_succ]
          refine wpL_guarded (v := ?_) rfl (fun w' hS => ?_) ?_
          rotate_left
          · (obtain ⟨_, hS⟩ := hS; obtain ⟨c0, c1, c2, c3, _⟩ := wal_cells hS; go_simp; try with_reducible rfl)
          simp only [Act.put, List.setIfInBounds_toArray, List.set_cons_zero, List.set_cons_succ]
          refine wpL_guarded (v := ?_) rfl (fun w' hS => ?_) ?_
          rotate_left
          · (obtain ⟨_, hS⟩ := hS; obtain ⟨c0, c1, c2, c3, _⟩ := wal_cells hS; go_simp; try with_reducible rfl)
          simp only [Act.put, List.setIfInBounds_toArray, List.set_cons_zero, List.set_cons_succ]
          refine wpL_guarded (v := ?_) rfl (fun w' hS => ?_) ?_
          rotate_left
          · (obtain ⟨_, hS⟩ := hS; obtain ⟨c0, c1, c2, c3, _⟩ := wal_cells hS; go_simp; try with_reducible rfl)
          simp only [Act.put, List.setIfInBounds_toArray, List.set_cons_zero, List.set_cons_succ]
          refine wpL_yield (v := ?_) rfl (fun w' hS => ?_) ?_
          rotate_left
          · (go_simp; try with_reducible rfl)
          simp only [Act.put, List.setIfInBounds_toArray, List.set_cons_zero, List.set_cons_succ]
          refine wpL_nil ?_
          refine wpL_nil ?_
          by_cases hg0 : g < 0
          · rw [if_pos (.inr (.inr hg0))] at Hop
            go_wp2_with fail
            go_ret2
            refine .inl ?_
            rw [Hop.out]
            exact ⟨by show (4 : Int) ≠ 0; decide, rfl, h6.right.right.right⟩
          · rw [if_neg (fun h' => h'.elim (fun h' => h' rfl) fun h' => h'.elim hbig hg0)] at Hop
            by_cases hm : 0 < m
            · rw [if_pos (by omega), Int.toNat_natCast] at Hop
              go_wp2_with fail
              refine (finish_any (h6.right.pull2.right) m (by omega) (by omega) (by omega) (by omega)).mono ?_
              rintro e w6 ⟨rfl, h7⟩
              by_cases hf : (wFinish d a z g m).1 = 0
              · rw [hf]
                go_wp2_with fail
                go_ret2
                refine .inr ?_
                rw [Hop.out]
                refine ⟨hf, x, rfl, ?_⟩
                rw [show (a : Int).toNat = a from rfl, show (z : Int).toNat = z from rfl, Hse.out, Hge.out]
                exact h7
              · go_wp2_with fail
                go_ret2
                refine .inl ?_
                rw [Hop.out]
                exact ⟨hf, rfl, h7.right⟩
            · rw [if_neg (by omega)] at Hop
              go_wp2_with fail
              go_ret2
              refine .inr ?_
              rw [Hop.out]
              refine ⟨rfl, x, rfl, ?_⟩
              rw [show (a : Int).toNat = a from rfl, show (z : Int).toNat = z from rfl, Hse.out, Hge.out]
              exact h6.right.pull2.right
      · have hnn : (s == headB z g hd) = false := by rw [beq_eq_false_iff_ne]; exact hne
        rw [if_pos (.inl hne)] at Hop
        refine wp_region_L (fun w' => ∃ Q, Bears w' (walObj x p a z g * (Assn.obj b (.cells (cellsV s).toArray 125 (0, 0)) * Q))) 24
          [(true, 0), (true, 1), (true, 2), (true, 3), (true, 4), (true, 5), (true, 6), (true, 7), (false, 8), (false, 9), (true, 10), (true, 11), (true, 12), (true, 13), (true, 14), (true, 15), (true, 16), (true, 17), (true, 18), (true, 19), (true, 20), (true, 21), (true, 22), (true, 23)] [] (by kernel_rfl) (by kernel_rfl) ⟨_, h5.drew⟩ ?_
        simp only [pick, List.getElem?_cons_zero, List.getElem?_cons_succ]
        refine wpL_yield (v := ?_) rfl (fun w' hS => ?_) ?_
        rotate_left
        · (go_simp; try with_reducible rfl)
        simp only [Act.put, List.setIfInBounds_toArray, List.set_cons_zero, List.set_cons_succ]
        refine wpL_yield rfl (fun w' hS => exec_convert rfl rfl (run_convert_in (open_bytes hs64 hS))) ?_
        simp only [Act.put, List.setIfInBounds_toArray, List.set_cons_zero, List.set_cons_succ]
        refine wpL_yield (v := ?_) rfl (fun w' hS => ?_) ?_
        rotate_left
        · (obtain ⟨_, hS⟩ := hS; obtain ⟨c0, c1, c2, c3, _⟩ := wal_cells hS; go_simp; try with_reducible rfl)
        simp only [Act.put, List.setIfInBounds_toArray, List.set_cons_zero, List.set_cons_succ]
        refine wpL_yield (v := ?_) rfl (fun w' hS => ?_) ?_
        rotate_left
        · (obtain ⟨_, hS⟩ := hS; obtain ⟨c0, c1, c2, c3, _⟩ := wal_cells hS; go_simp; try with_reducible rfl)
        simp only [Act.put, List.setIfInBounds_toArray, List.set_cons_zero, List.set_cons_succ]
        refine wpL_yield (v := ?_) rfl (fun w' hS => ?_) ?_
        rotate_left
        · (obtain ⟨_, hS⟩ := hS; obtain ⟨c0, c1, c2, c3, _⟩ := wal_cells hS; go_simp; try with_reducible rfl)
        simp only [Act.put, List.setIfInBounds_toArray, List.set_cons_zero, List.set_cons_succ]
        refine wpL_yield (v := ?_) rfl (fun w' hS => ?_) ?_
        rotate_left
        · (obtain ⟨_, hS⟩ := hS; obtain ⟨c0, c1, c2, c3, _⟩ := wal_cells hS; go_simp; try with_reducible rfl)
        simp only [Act.put, List.setIfInBounds_toArray, List.set_cons_zero, List.set_cons_succ]
        refine wpL_yield (v := ?_) rfl (fun w' hS => ?_) ?_
        rotate_left
        · (obtain ⟨_, hS⟩ := hS; obtain ⟨c0, c1, c2, c3, _⟩ := wal_cells hS; go_simp; try with_reducible rfl)
        simp only [Act.put, List.setIfInBounds_toArray, List.set_cons_zero, List.set_cons_succ]
        refine wpL_yield (v := ?_) rfl (fun w' hS => ?_) ?_
        rotate_left
        · (obtain ⟨_, hS⟩ := hS; obtain ⟨c0, c1, c2, c3, _⟩ := wal_cells hS; go_simp; try with_reducible rfl)
        simp only [Act.put, List.setIfInBounds_toArray, List.set_cons_zero, List.set_cons_succ]
        refine wpL_eff rfl ?_
        go_simp
        refine (whead_any h5.drew z g hd).mono ?_
        rintro e w5 ⟨b2, rfl, h6⟩
        refine ⟨⟨_, h6.right⟩, ?_⟩
        refine wpL_eff rfl (wp_of_run (exec_convert rfl rfl (run_convert_in (BytesIn.tells _ _ (by rw [hl]) _ h6))) ⟨⟨_, h6.right⟩, ?_⟩)
        simp only [Act.put, List.setIfInBounds_toArray, List.set_cons_zero, List.set_cons_succ]
        refine wpL_yield (v := ?_) rfl (fun w' hS => ?_) ?_
        rotate_left
        · (go_simp; try with_reducible rfl)
        simp only [Act.put, List.setIfInBounds_toArray, List.set_cons_zero, List.set_cons_succ]
        refine wpL_yield (v := ?_) rfl (fun w' hS => ?_) ?_
        rotate_left
        · (go_simp; try with_reducible rfl)
        simp only [Act.put, List.setIfInBounds_toArray, List.set_cons_zero, List.set_cons_succ]
        refine wpL_skip rfl ?_
        simp only [Act.put, List.setIfInBounds_toArray, List.set_cons_zero, List.set_cons_succ]
        refine wpL_skip rfl ?_
        simp only [Act.put, List.setIfInBounds_toArray, List.set_cons_zero, List.set_cons_succ]
        refine wpL_skip rfl ?_
        simp only [Act.put, List.setIfInBounds_toArray, List.set_cons_zero, List.set_cons_succ]
        refine wpL_skip rfl ?_
        simp only [Act.put, List.setIfInBounds_toArray, List.set_cons_zero, List.set_cons_succ]
        refine wpL_yield (v := ?_) rfl (fun w' hS => ?_) ?_
        rotate_left
        · (go_simp; try with_reducible rfl)
        simp only [Act.put, List.setIfInBounds_toArray, List.set_cons_zero, List.set_cons_succ]
        refine wpL_yield (v := ?_) rfl (fun w' hS => ?_) ?_
        rotate_left
        · (go_simp; try with_reducible rfl)
        simp only [Act.put, List.setIfInBounds_toArray, List.set_cons_zero, List.set_cons_succ]
        refine wpL_skip rfl ?_
        simp only [Act.put, List.setIfInBounds_toArray, List.set_cons_zero, List.set_cons_succ]
        refine wpL_skip rfl ?_
        simp only [Act.put, List.setIfInBounds_toArray, List.set_cons_zero, List.set_cons_succ]
        refine wpL_skip rfl ?_
        simp only [Act.put, List.setIfInBounds_toArray, List.set_cons_zero, List.set_cons_succ]
        refine wpL_skip rfl ?_
        simp only [Act.put, List.setIfInBounds_toArray, List.set_cons_zero, List.set_cons_succ]
        refine wpL_skip rfl ?_
        simp only [Act.put, List.setIfInBounds_toArray, List.set_cons_zero, List.set_cons_succ]
        refine wpL_yield (v := ?_) rfl (fun w' hS => ?_) ?_
        rotate_left
        · (go_simp; try with_reducible rfl)
        simp only [Act.put, List.setIfInBounds_toArray, List.set_cons_zero, List.set_cons_succ]
        refine wpL_nil ?_
        refine wpL_nil ?_
        go_wp2_with fail
        go_ret2
        refine .inl ?_
        rw [Hop.out]
        exact ⟨by show (4 : Int) ≠ 0; decide, rfl, h6.right.right.right⟩
    · obtain ⟨c, hcc⟩ : ∃ c, d.check (a : Int) = c := ⟨_, rfl⟩
      have hopen : wOpen d (a : Int) (z : Int) = (c, d) := by
        unfold wOpen
        rw [if_neg (by simp [ht]), if_pos hck, hcc]
      rw [hcc] at hck
      have Hcc := Lib.hid hcc
      have Hopen := Lib.hid hopen
      clear hopen hcc ht
      go_enter Try.func42, Try.ntmps42
      go_wp2_with fail
      refine (there_any h a z ha hs).mono ?_
      rintro e w1 ⟨rfl, h1⟩
      rw [Ht.out]
      go_wp2_with fail
      refine (read_bad h1 a Hcc.out hck).mono ?_
      rintro e w2 ⟨rfl, rfl⟩
      go_wp2_with fail
      go_ret2
      refine .inl ?_
      rw [Hopen.out]
      exact ⟨hck, rfl, h1⟩
  · have ht : wThere d at' size = false := by simpa using ht
    have hfin : wOpen d at' size = (1, d) := by unfold wOpen; rw [if_pos ht]
    have Hfin := Lib.hid hfin
    have Ht := Lib.hid ht
    clear hfin ht
    go_enter Try.func42, Try.ntmps42
    go_wp2_with fail
    refine (there_any h at' size ha hs).mono ?_
    rintro e w1 ⟨rfl, h1⟩
    rw [Ht.out]
    go_wp2_with fail
    go_ret2
    refine .inl ?_
    rw [Hfin.out]
    exact ⟨by show (1 : Int) ≠ 0; decide, rfl, h1⟩

end Go.Proofs.Ytaiobekochhemaa
