/- The log: a group is done: the walk; no condition. -/
import Derived.Test.YtaiobekochhemaaWalW6
namespace Go.Proofs.Ytaiobekochhemaa
open Go.RowKit Go.MapKept

theorem may_facts {len a s : Nat} {l : List PutM} (h : wMay len a s l = true) : l.length ≤ roomN s ∧ ∀ k, k < l.length → (l.getD k default).bytes.length = 64 ∧ 0 ≤ (l.getD k default).sector ∧ (l.getD k default).sector < len := by
  unfold wMay at h
  simp only [Bool.and_eq_true, decide_eq_true_eq] at h
  refine ⟨h.2, fun k hk => ?_⟩
  have := (wMayTo_true l []).1 h.1 k hk
  simp only [wOk, Bool.and_eq_true, decide_eq_true_eq, beq_iff_eq] at this
  exact ⟨this.2, this.1.1.2, this.1.2⟩

theorem wBoth_waits (d : DiskM) (a s : Nat) (g h : Int) : (wBoth d a s g h).2.waits.length ≤ d.waits.length + 1 := by
  have h1 := barrier_waits d
  have h2 := write_waits d.barrier.2 a (headB s g h)
  have h3 := barrier_waits (d.barrier.2.write a (headB s g h)).2
  unfold wBoth
  split
  · omega
  · split
    · omega
    · omega

set_option maxRecDepth 100000 in
set_option maxHeartbeats 3200000 in
theorem commit_any {x p at' size : Nat} {g : Int} {d : DiskM} {R : Assn} {w : World} (h : Bears w (walObj x p at' size g * (diskA p d * R))) (l : List PutM) (ad : Option Addr) (cap : Nat) (hl : R.Tells (fun w => PutsIn w (.slice ad l.length cap) l))
    (hlen : l.length ≤ 9223372036854775807) (ha : at' ≤ 100000) (hs : size ≤ 100000) (hroom : d.waits.length + 400000 < 1099511627776) :
    Calls Try.prog 82 #[.pointer (some ⟨x, 0, none⟩), .slice ad l.length cap] w fun e w' => e = .returned (.int .i64 (wCommit d at' size g l).1) ∧
      Bears w' (walObj x p at' size (wCommit d at' size g l).2.1 * (diskA p (wCommit d at' size g l).2.2 * R)) := by
  by_cases hmay : wMay d.len at' size l = true
  · have hm := may_facts hmay
    have hr1 : roomN size ≤ size := by unfold roomN; split <;> omega
    have hl1 : listsN (roomN size) ≤ size := by unfold listsN; omega
    have hfirst : ((wFirst at' size : Nat) : Int) = (at' : Int) + 1 + (listsN (roomN size) : Nat) := by unfold wFirst; omega
    have hfb : wFirst at' size ≤ 300000 := by unfold wFirst; omega
    have hll : l.length ≤ 100000 := by omega
    have Hfirst := Lib.hid hfirst
    have Hmay := Lib.hid hmay
    have Hm := Lib.hid hm
    clear hfirst hmay hm
    go_enter Try.func82, Try.ntmps82
    go_wp2_with fail
    refine (may_any h l ad cap hl hlen ha hs).mono ?_
    rintro e w1 ⟨rfl, h1⟩
    rw [Hmay.out]
    clear h
    go_wp2_with fail
    refine wp_region_L (fun w' => Bears w' (walObj x p at' size g * (diskA p d * R))) 12
      [(true, 0), (true, 1), (true, 2), (true, 3), (true, 4), (true, 5), (true, 6), (true, 7), (false, 8), (false, 9), (false, 10), (true, 11)] [(true, 12)] (by kernel_rfl) (by kernel_rfl) h1.drew ?_
    simp only [pick, List.getElem?_cons_zero, List.getElem?_cons_succ]
    have q1 : IntKind.i64.wrap ((at' : Int) + 1) = (at' : Int) + 1 := IntWalk.i64_in _ (by omega)
    refine wpL_yield (v := ?_) rfl (fun w' hS => ?_) ?_
    rotate_left
    · (obtain ⟨c0, c1, c2, c3, _⟩ := wal_cells hS; go_simp; try with_reducible rfl)
    simp only [Act.put, List.setIfInBounds_toArray, List.set_cons_zero, List.set_cons_succ]
    refine wpL_yield (v := ?_) rfl (fun w' hS => ?_) ?_
    rotate_left
    · (obtain ⟨c0, c1, c2, c3, _⟩ := wal_cells hS; go_simp; try with_reducible rfl)
    simp only [Act.put, List.setIfInBounds_toArray, List.set_cons_zero, List.set_cons_succ]
    refine wpL_yield (v := ?_) rfl (fun w' hS => ?_) ?_
    rotate_left
    · (obtain ⟨c0, c1, c2, c3, _⟩ := wal_cells hS; go_simp; try with_reducible rfl)
    simp only [Act.put, List.setIfInBounds_toArray, List.set_cons_zero, List.set_cons_succ]
    refine wpL_yield (v := ?_) rfl (fun w' hS => ?_) ?_
    rotate_left
    · (obtain ⟨c0, c1, c2, c3, _⟩ := wal_cells hS; go_simp; try with_reducible rfl)
    simp only [Act.put, List.setIfInBounds_toArray, List.set_cons_zero, List.set_cons_succ]
    refine wpL_yield (v := ?_) rfl (fun w' hS => ?_) ?_
    rotate_left
    · (obtain ⟨c0, c1, c2, c3, _⟩ := wal_cells hS; go_simp; try with_reducible rfl)
    simp only [Act.put, List.setIfInBounds_toArray, List.set_cons_zero, List.set_cons_succ]
    refine wpL_yield (v := ?_) rfl (fun w' hS => ?_) ?_
    rotate_left
    · (obtain ⟨c0, c1, c2, c3, _⟩ := wal_cells hS; go_simp; try with_reducible rfl)
    simp only [Act.put, List.setIfInBounds_toArray, List.set_cons_zero, List.set_cons_succ]
    refine wpL_yield (v := ?_) rfl (fun w' hS => ?_) ?_
    rotate_left
    · (obtain ⟨c0, c1, c2, c3, _⟩ := wal_cells hS; go_simp; try with_reducible rfl)
    simp only [Act.put, List.setIfInBounds_toArray, List.set_cons_zero, List.set_cons_succ]
    refine wpL_yield (v := ?_) rfl (fun w' hS => ?_) ?_
    rotate_left
    · (obtain ⟨c0, c1, c2, c3, _⟩ := wal_cells hS; go_simp; try with_reducible rfl)
    simp only [Act.put, List.setIfInBounds_toArray, List.set_cons_zero, List.set_cons_succ]
    obtain ⟨c0, c1, c2, c3, _⟩ := wal_cells h1.drew
    refine wpL_eff rfl ?_
    go_simp
    refine ⟨h1.drew, ?_⟩
    refine wpL_eff rfl ?_
    go_simp
    refine (room_any w1.drew size (by omega)).mono ?_
    rintro e w2 ⟨rfl, rfl⟩
    refine ⟨h1.drew, ?_⟩
    refine wpL_eff rfl ?_
    go_simp
    refine (lists_any w1.drew (roomN size) (by omega)).mono ?_
    rintro e w2 ⟨rfl, rfl⟩
    refine ⟨h1.drew, ?_⟩
    have q2 : IntKind.i64.wrap ((at' : Int) + 1 + (listsN (roomN size) : Nat)) = (wFirst at' size : Nat) := by rw [Hfirst.out]; exact IntWalk.i64_in _ (by omega)
    refine wpL_yield (v := ?_) rfl (fun w' hS => ?_) ?_
    rotate_left
    · (go_simp; try with_reducible rfl)
    simp only [Act.put, List.setIfInBounds_toArray, List.set_cons_zero, List.set_cons_succ]
    refine wpL_nil ?_
    refine wpL_yield (v := ?_) rfl (fun w' hS => ?_) ?_
    rotate_left
    · (go_simp; try with_reducible rfl)
    simp only [Act.put, List.setIfInBounds_toArray, List.set_cons_zero, List.set_cons_succ]
    refine wpL_nil ?_
    have h2 := h1.drew
    generalize w1.drew = w2 at h2
    clear c0 c1 c2 c3 q1 q2 h1
    go_wp2_with fail
    go_loopw [33] (fun i wr => ∃ k : Nat, k ≤ l.length ∧ i = .int .i64 k ∧ ∃ dk : DiskM, wBytes d at' size l k = (0, dk) ∧ Bears wr (walObj x p at' size g * (diskA p dk * R)))
      (fun i _ => l.length - (intOf i).toNat)
    case atStart => exact ⟨0, by omega, rfl, d, rfl, h2⟩
    case round =>
      obtain ⟨k, hk, rfl, dk, hdk, h3⟩ := hrel
      have hwk : dk.waits.length ≤ d.waits.length + k := by have := wBytes_waits d at' size l k; rw [hdk] at this; exact this
      by_cases hlt : k < l.length
      · obtain ⟨b, o, rfl, q1, q2, _⟩ := (hl _ h3.right.right).cells hlt
        have hsucc := wBytes_succ hdk
        have h64 := (Hm.out.2 k hlt).1
        have hbt := PutsIn.bytes hl hlt
        generalize hc : l.getD k default = pt at q1 q2 hsucc h64 hbt
        obtain ⟨sec, bs, ad', cap'⟩ := pt
        simp only [PutM.val] at q1 q2 hsucc h64 hbt
        obtain ⟨r, d2, hwr⟩ : ∃ r d2, dk.write ((wFirst at' size + k : Nat) : Int) bs = (r, d2) := ⟨_, _, rfl⟩
        rw [hwr] at hsucc
        have h4 := h3.alloc (.cells #[.int .i64 sec, .slice ad' bs.length cap'] 121)
        have Hwr := Lib.hid hwr
        have Hsucc := Lib.hid hsucc
        clear hc hwr hsucc hdk h64
        go_wp2_with fail
        generalize wr.heap.size = c at h4
        generalize wr.alloc (.cells #[.int .i64 sec, .slice ad' bs.length cap'] 121) = w4 at h4
        have e1 : ((wFirst at' size + k : Nat) : Int) = (wFirst at' size : Nat) + (k : Int) := by omega
        have q4 : IntKind.i64.wrap ((wFirst at' size : Nat) + (k : Int)) = (wFirst at' size : Nat) + (k : Int) := IntWalk.i64_in _ (by omega)
        have Hw := Hwr.out
        rw [e1] at Hw
        have HW := Lib.hid Hw
        clear Hw e1 q1 q2 h3
        refine wp_region_L (fun w' => ∃ A Q, Bears w' (Assn.obj c (.cells #[.int .i64 sec, .slice ad' bs.length cap'] 121 (0, 0)) * (walObj x p at' size g * (A * Q)))) 10
          [(true, 0), (true, 1), (true, 2), (true, 3), (true, 4), (true, 5), (true, 6), (true, 7), (true, 8), (false, 9)] [(true, 10)] (by kernel_rfl) (by kernel_rfl) ⟨_, _, h4.drew⟩ ?_
        simp only [pick, List.getElem?_cons_zero, List.getElem?_cons_succ]
        refine wpL_yield (v := ?_) rfl (fun w' hS => ?_) ?_
        rotate_left
        · (obtain ⟨_, _, hS⟩ := hS; obtain ⟨p0, p1⟩ := put_cells hS; obtain ⟨c0, c1, c2, c3, _⟩ := wal_cells hS.pull2; go_simp; try with_reducible rfl)
        simp only [Act.put, List.setIfInBounds_toArray, List.set_cons_zero, List.set_cons_succ]
        refine wpL_yield (v := ?_) rfl (fun w' hS => ?_) ?_
        rotate_left
        · (obtain ⟨_, _, hS⟩ := hS; obtain ⟨p0, p1⟩ := put_cells hS; obtain ⟨c0, c1, c2, c3, _⟩ := wal_cells hS.pull2; go_simp; try with_reducible rfl)
        simp only [Act.put, List.setIfInBounds_toArray, List.set_cons_zero, List.set_cons_succ]
        refine wpL_yield (v := ?_) rfl (fun w' hS => ?_) ?_
        rotate_left
        · (obtain ⟨_, _, hS⟩ := hS; obtain ⟨p0, p1⟩ := put_cells hS; obtain ⟨c0, c1, c2, c3, _⟩ := wal_cells hS.pull2; go_simp; try with_reducible rfl)
        simp only [Act.put, List.setIfInBounds_toArray, List.set_cons_zero, List.set_cons_succ]
        refine wpL_yield (v := ?_) rfl (fun w' hS => ?_) ?_
        rotate_left
        · (obtain ⟨_, _, hS⟩ := hS; obtain ⟨p0, p1⟩ := put_cells hS; obtain ⟨c0, c1, c2, c3, _⟩ := wal_cells hS.pull2; go_simp; try with_reducible rfl)
        simp only [Act.put, List.setIfInBounds_toArray, List.set_cons_zero, List.set_cons_succ]
        refine wpL_yield (v := ?_) rfl (fun w' hS => ?_) ?_
        rotate_left
        · (obtain ⟨_, _, hS⟩ := hS; obtain ⟨p0, p1⟩ := put_cells hS; obtain ⟨c0, c1, c2, c3, _⟩ := wal_cells hS.pull2; go_simp; try with_reducible rfl)
        simp only [Act.put, List.setIfInBounds_toArray, List.set_cons_zero, List.set_cons_succ]
        refine wpL_yield (v := ?_) rfl (fun w' hS => ?_) ?_
        rotate_left
        · (obtain ⟨_, _, hS⟩ := hS; obtain ⟨p0, p1⟩ := put_cells hS; obtain ⟨c0, c1, c2, c3, _⟩ := wal_cells hS.pull2; go_simp; try with_reducible rfl)
        simp only [Act.put, List.setIfInBounds_toArray, List.set_cons_zero, List.set_cons_succ]
        refine wpL_yield (v := ?_) rfl (fun w' hS => ?_) ?_
        rotate_left
        · (obtain ⟨_, _, hS⟩ := hS; obtain ⟨p0, p1⟩ := put_cells hS; obtain ⟨c0, c1, c2, c3, _⟩ := wal_cells hS.pull2; go_simp; try with_reducible rfl)
        simp only [Act.put, List.setIfInBounds_toArray, List.set_cons_zero, List.set_cons_succ]
        refine wpL_yield (v := ?_) rfl (fun w' hS => ?_) ?_
        rotate_left
        · (obtain ⟨_, _, hS⟩ := hS; obtain ⟨p0, p1⟩ := put_cells hS; obtain ⟨c0, c1, c2, c3, _⟩ := wal_cells hS.pull2; go_simp; try with_reducible rfl)
        simp only [Act.put, List.setIfInBounds_toArray, List.set_cons_zero, List.set_cons_succ]
        refine wpL_yield (v := ?_) rfl (fun w' hS => ?_) ?_
        rotate_left
        · (obtain ⟨_, _, hS⟩ := hS; obtain ⟨p0, p1⟩ := put_cells hS; obtain ⟨c0, c1, c2, c3, _⟩ := wal_cells hS.pull2; go_simp; try with_reducible rfl)
        simp only [Act.put, List.setIfInBounds_toArray, List.set_cons_zero, List.set_cons_succ]
        refine wpL_eff rfl ?_
        go_simp
        refine (write_to h4.drew.pull3 HW.out hbt.right.right (by omega)).mono ?_
        rintro e w5 ⟨rfl, h5⟩
        have h6 : Bears w5 (Assn.obj c (.cells #[.int .i64 sec, .slice ad' bs.length cap'] 121 (0, 0)) * (walObj x p at' size g * (diskA p d2 * R))) := h5.cast (by ac_rfl)
        refine ⟨⟨_, _, h6⟩, ?_⟩
        refine wpL_nil ?_
        refine wpL_yield (v := ?_) rfl (fun w' hS => ?_) ?_
        rotate_left
        · (go_simp; try with_reducible rfl)
        simp only [Act.put, List.setIfInBounds_toArray, List.set_cons_zero, List.set_cons_succ]
        refine wpL_nil ?_
        clear h4 h5 q4
        by_cases hr0 : r = 0
        · subst hr0
          clear Hwr HW
          go_wp2_with fail
          go_roundw
          case rel => exact ⟨k + 1, hlt, by go_num, d2, Hsucc.out, h6.right⟩
          case measure => simp [intOf]; omega
        · have Hfin := Lib.hid (wCommit_bytes (g := g) Hmay.out Hsucc.out hr0 (by omega))
          clear Hwr HW
          go_wp2_with fail
          go_ret
          rw [Hfin.out]
          exact ⟨rfl, h6.right⟩
      · obtain rfl : k = l.length := by omega
        have Hdk := Lib.hid hdk
        clear hdk hk
        go_wp2_with fail
        go_loopw [9] (fun i wr => ∃ c : Nat, c ≤ listsN l.length ∧ i = .int .i64 (32 * (c : Int)) ∧ ∃ dm : DiskM, wLists dk at' l c = (0, dm) ∧ Bears wr (walObj x p at' size g * (diskA p dm * R)))
          (fun i _ => l.length + 32 - (intOf i).toNat)
        case atStart => exact ⟨0, by omega, by simp, dk, rfl, h3⟩
        case round =>
          obtain ⟨c, hc, rfl, dm, hdm, h4⟩ := hrel
          have hwm : dm.waits.length ≤ dk.waits.length + c := by have := wLists_waits dk at' l c; rw [hdm] at this; exact this
          have hll2 : listsN l.length ≤ 100000 := by unfold listsN; omega
          by_cases hlt : 32 * c < l.length
          · have hcl : c < listsN l.length := by unfold listsN; omega
            have hsucc := wLists_succ hdm
            have hmk : ∀ w, (Instr.makeSlice 43 (.int .i64 64) (.int .i64 64)).run Try.prog w = .ok (.slice (some ⟨w.heap.size, 0, none⟩) 64 64) (w.alloc (.cells (cellsV (List.replicate 64 0)).toArray 5)) := fun _ => by kernel_rfl
            have hz0 : List.replicate 64 0 = wListTo l c 0 := by simp [wListTo]
            rw [hz0] at hmk
            have h5 := h4.alloc (.cells (cellsV (wListTo l c 0)).toArray 5)
            have hlc : (wListTo l c 0).length = 64 := wListTo_length (by omega) (by omega)
            have hcap := (hl _ h4.right.right).le
            obtain ⟨b, o, rfl, _⟩ := (hl _ h4.right.right).cells hlt
            have Hsucc := Lib.hid hsucc
            clear hz0 hlc hsucc hdm
            rcases Nat.lt_or_ge (32 * c + 32) l.length with h32 | h32
            · have q0 : (32 : Int) * (c : Int) + 32 ≤ (l.length : Int) := by omega
              have q9 : decide (32 * (c : Int) < (l.length : Int)) = true := by rw [decide_eq_true_eq]; omega
              have hN : 32 = min 32 (l.length - 32 * c) := by omega
              have HN := Lib.hid hN
              clear hN
              go_wp2_with fail
              generalize wr.heap.size = zb at h5
              try rw [Nat.add_sub_cancel_left]
              go_loopw [68] (fun i wr' => ∃ k : Nat, k ≤ 32 ∧ i = .int .i64 k ∧ Bears wr' (Assn.obj zb (.cells (cellsV (wListTo l c k)).toArray 5 (0, 0)) * (walObj x p at' size g * (diskA p dm * R)))) (fun i _ => 32 - (intOf i).toNat)
              case atStart => exact ⟨0, by omega, rfl, h5⟩
              case round =>
                obtain ⟨k, hk2, rfl, h6⟩ := hrel
                by_cases hlt2 : k < 32
                · obtain ⟨b', o', he, q1, q2, _⟩ := (hl _ h6.right.right.right).cells (k := 32 * c + k) (by omega)
                  cases he
                  have e2 : o + (32 * c + k) * 2 = o + 32 * c * 2 + k * 2 := by omega
                  rw [e2] at q1 q2
                  have hsu := wListTo_succ (l := l) (c := c) (k := k) (by omega) (by omega)
                  have hlen64 : (wListTo l c k).length = 64 := wListTo_length (by omega) (by omega)
                  generalize hcc : l.getD (32 * c + k) default = pt at q1 q2 hsu
                  obtain ⟨sec, bs, ad', cap'⟩ := pt
                  simp only [PutM.val] at q1 q2 hsu
                  have h7 := h6.alloc (.cells #[.int .i64 sec, .slice ad' bs.length cap'] 121)
                  have Hsu := Lib.hid hsu
                  clear hcc hsu e2
                  go_wp2_with fail
                  generalize wr.heap.size = pc at h7
                  generalize wr.alloc (.cells #[.int .i64 sec, .slice ad' bs.length cap'] 121) = w7 at h7
                  have r1 : IntKind.i64.wrap (2 * (k : Int)) = 2 * (k : Int) := IntWalk.i64_in _ (by omega)
                  have r2 : IntKind.i64.wrap (2 * (k : Int) + 2) = 2 * (k : Int) + 2 := IntWalk.i64_in _ (by omega)
                  refine wp_region_L (fun w' => ∃ Q, Bears w' (Assn.obj pc (.cells #[.int .i64 sec, .slice ad' bs.length cap'] 121 (0, 0)) * Q)) 13
                    [(true, 0), (true, 1), (true, 2), (true, 3), (true, 4), (true, 5), (true, 6), (true, 7), (true, 8), (true, 9), (true, 10), (true, 11), (false, 12)] [] (by kernel_rfl) (by kernel_rfl) ⟨_, h7.drew⟩ ?_
                  simp only [pick, List.getElem?_cons_zero, List.getElem?_cons_succ]
                  refine wpL_yield (v := ?_) rfl (fun w' hS => ?_) ?_
                  rotate_left
                  · (go_simp; try with_reducible rfl)
                  simp only [Act.put, List.setIfInBounds_toArray, List.set_cons_zero, List.set_cons_succ]
                  refine wpL_yield (v := ?_) rfl (fun w' hS => ?_) ?_
                  rotate_left
                  · (go_simp; try with_reducible rfl)
                  simp only [Act.put, List.setIfInBounds_toArray, List.set_cons_zero, List.set_cons_succ]
                  refine wpL_yield (v := ?_) rfl (fun w' hS => ?_) ?_
                  rotate_left
                  · (go_simp; try with_reducible rfl)
                  simp only [Act.put, List.setIfInBounds_toArray, List.set_cons_zero, List.set_cons_succ]
                  refine wpL_yield (v := ?_) rfl (fun w' hS => ?_) ?_
                  rotate_left
                  · (go_simp; try with_reducible rfl)
                  simp only [Act.put, List.setIfInBounds_toArray, List.set_cons_zero, List.set_cons_succ]
                  refine wpL_yield (v := ?_) rfl (fun w' hS => ?_) ?_
                  rotate_left
                  · (go_simp; try with_reducible rfl)
                  simp only [Act.put, List.setIfInBounds_toArray, List.set_cons_zero, List.set_cons_succ]
                  refine wpL_yield (v := ?_) rfl (fun w' hS => ?_) ?_
                  rotate_left
                  · (go_simp; try with_reducible rfl)
                  simp only [Act.put, List.setIfInBounds_toArray, List.set_cons_zero, List.set_cons_succ]
                  refine wpL_yield (v := ?_) rfl (fun w' hS => ?_) ?_
                  rotate_left
                  · (go_simp; try with_reducible rfl)
                  simp only [Act.put, List.setIfInBounds_toArray, List.set_cons_zero, List.set_cons_succ]
                  refine wpL_yield (v := ?_) rfl (fun w' hS => ?_) ?_
                  rotate_left
                  · (go_simp; try with_reducible rfl)
                  simp only [Act.put, List.setIfInBounds_toArray, List.set_cons_zero, List.set_cons_succ]
                  refine wpL_yield (v := ?_) rfl (fun w' hS => ?_) ?_
                  rotate_left
                  · (go_simp; try with_reducible rfl)
                  simp only [Act.put, List.setIfInBounds_toArray, List.set_cons_zero, List.set_cons_succ]
                  have hz8 : ∀ w, (Go.sizeOf 5).run Try.prog w = .ok 1 w := fun w => by kernel_rfl
                  refine wpL_yield rfl (fun w' hS => exec_slice3 (lo := 2 * k) (hi := 2 * k + 2) (mx := 2 * k + 2) rfl Try.underlying43 (hz8 w') rfl (by go_simp) (by go_simp) (by go_simp) (by omega) (by omega) (by omega)) ?_
                  simp only [Act.put, List.setIfInBounds_toArray, List.set_cons_zero, List.set_cons_succ]
                  rw [show 2 * k + 2 - 2 * k = 2 by omega]
                  refine wpL_yield (v := ?_) rfl (fun w' hS => ?_) ?_
                  rotate_left
                  · (obtain ⟨_, hS⟩ := hS; obtain ⟨p0, p1⟩ := put_cells hS; go_simp; try with_reducible rfl)
                  simp only [Act.put, List.setIfInBounds_toArray, List.set_cons_zero, List.set_cons_succ]
                  refine wpL_yield (v := ?_) rfl (fun w' hS => ?_) ?_
                  rotate_left
                  · (obtain ⟨_, hS⟩ := hS; obtain ⟨p0, p1⟩ := put_cells hS; go_simp; try with_reducible rfl)
                  simp only [Act.put, List.setIfInBounds_toArray, List.set_cons_zero, List.set_cons_succ]
                  refine wpL_eff rfl ?_
                  go_simp
                  refine (number_any (o := 2 * k) (m := 2) h7.drew.pull2 sec (by rw [hlen64]; omega) (by decide)).mono ?_
                  rintro e w8 ⟨rfl, h8⟩
                  rw [Hsu.out] at h8
                  refine ⟨⟨_, h8.pull2⟩, ?_⟩
                  refine wpL_nil ?_
                  refine wpL_nil ?_
                  go_wp2_with fail
                  go_roundw
                  case rel => exact ⟨k + 1, hlt2, by go_num, h8.pull2.right⟩
                  case measure => simp [intOf]; omega
                · obtain rfl : k = 32 := by omega
                  rw [wList_eq HN.out] at h6
                  obtain ⟨r, d2, hwr⟩ : ∃ r d2, dm.write ((at' + 1 + c : Nat) : Int) (wList l c) = (r, d2) := ⟨_, _, rfl⟩
                  have hl64 : (wList l c).length = 64 := by rw [← wList_eq HN.out]; exact wListTo_length (by omega) (by omega)
                  have HS := Hsucc.out
                  rw [hwr] at HS
                  have e3 : ((at' + 1 + c : Nat) : Int) = (at' : Int) + 1 + (c : Int) := by omega
                  rw [e3] at hwr
                  have Hwr := Lib.hid hwr
                  have HS2 := Lib.hid HS
                  clear hwr HS e3
                  go_wp2_with fail
                  have r1 : IntKind.i64.wrap ((at' : Int) + 1) = (at' : Int) + 1 := IntWalk.i64_in _ (by omega)
                  have r2 : (32 * (c : Int)).tdiv 32 = (c : Int) := by rw [Int.tdiv_eq_ediv_of_nonneg (by omega)]; omega
                  have r3 : IntKind.i64.wrap (c : Int) = (c : Int) := IntWalk.i64_in _ (by omega)
                  have r4 : IntKind.i64.wrap ((at' : Int) + 1 + (c : Int)) = (at' : Int) + 1 + (c : Int) := IntWalk.i64_in _ (by omega)
                  have r5 : 32 * (c : Int) / 32 = (c : Int) := by omega
                  have h6' := h6.pull2
                  refine wp_region_L (fun w' => ∃ Q, Bears w' (walObj x p at' size g * Q)) 14
                    [(true, 0), (true, 1), (true, 2), (true, 3), (true, 4), (true, 5), (true, 6), (true, 7), (true, 8), (true, 9), (true, 10), (true, 11), (true, 12), (false, 13)] [(true, 14)] (by kernel_rfl) (by kernel_rfl) ⟨_, h6'.drew⟩ ?_
                  simp only [pick, List.getElem?_cons_zero, List.getElem?_cons_succ]
                  refine wpL_yield (v := ?_) rfl (fun w' hS => ?_) ?_
                  rotate_left
                  · (obtain ⟨_, hS⟩ := hS; obtain ⟨c0, c1, c2, c3, _⟩ := wal_cells hS; go_simp; try with_reducible rfl)
                  simp only [Act.put, List.setIfInBounds_toArray, List.set_cons_zero, List.set_cons_succ]
                  refine wpL_yield (v := ?_) rfl (fun w' hS => ?_) ?_
                  rotate_left
                  · (obtain ⟨_, hS⟩ := hS; obtain ⟨c0, c1, c2, c3, _⟩ := wal_cells hS; go_simp; try with_reducible rfl)
                  simp only [Act.put, List.setIfInBounds_toArray, List.set_cons_zero, List.set_cons_succ]
                  refine wpL_yield (v := ?_) rfl (fun w' hS => ?_) ?_
                  rotate_left
                  · (obtain ⟨_, hS⟩ := hS; obtain ⟨c0, c1, c2, c3, _⟩ := wal_cells hS; go_simp; try with_reducible rfl)
                  simp only [Act.put, List.setIfInBounds_toArray, List.set_cons_zero, List.set_cons_succ]
                  refine wpL_yield (v := ?_) rfl (fun w' hS => ?_) ?_
                  rotate_left
                  · (obtain ⟨_, hS⟩ := hS; obtain ⟨c0, c1, c2, c3, _⟩ := wal_cells hS; go_simp; try with_reducible rfl)
                  simp only [Act.put, List.setIfInBounds_toArray, List.set_cons_zero, List.set_cons_succ]
                  refine wpL_yield (v := ?_) rfl (fun w' hS => ?_) ?_
                  rotate_left
                  · (obtain ⟨_, hS⟩ := hS; obtain ⟨c0, c1, c2, c3, _⟩ := wal_cells hS; go_simp; try with_reducible rfl)
                  simp only [Act.put, List.setIfInBounds_toArray, List.set_cons_zero, List.set_cons_succ]
                  refine wpL_yield (v := ?_) rfl (fun w' hS => ?_) ?_
                  rotate_left
                  · (obtain ⟨_, hS⟩ := hS; obtain ⟨c0, c1, c2, c3, _⟩ := wal_cells hS; go_simp; try with_reducible rfl)
                  simp only [Act.put, List.setIfInBounds_toArray, List.set_cons_zero, List.set_cons_succ]
                  refine wpL_yield (v := ?_) rfl (fun w' hS => ?_) ?_
                  rotate_left
                  · (obtain ⟨_, hS⟩ := hS; obtain ⟨c0, c1, c2, c3, _⟩ := wal_cells hS; go_simp; try with_reducible rfl)
                  simp only [Act.put, List.setIfInBounds_toArray, List.set_cons_zero, List.set_cons_succ]
                  refine wpL_yield (v := ?_) rfl (fun w' hS => ?_) ?_
                  rotate_left
                  · (obtain ⟨_, hS⟩ := hS; obtain ⟨c0, c1, c2, c3, _⟩ := wal_cells hS; go_simp; try with_reducible rfl)
                  simp only [Act.put, List.setIfInBounds_toArray, List.set_cons_zero, List.set_cons_succ]
                  refine wpL_yield (v := ?_) rfl (fun w' hS => ?_) ?_
                  rotate_left
                  · (obtain ⟨_, hS⟩ := hS; obtain ⟨c0, c1, c2, c3, _⟩ := wal_cells hS; go_simp; try with_reducible rfl)
                  simp only [Act.put, List.setIfInBounds_toArray, List.set_cons_zero, List.set_cons_succ]
                  refine wpL_yield (v := ?_) rfl (fun w' hS => ?_) ?_
                  rotate_left
                  · (obtain ⟨_, hS⟩ := hS; obtain ⟨c0, c1, c2, c3, _⟩ := wal_cells hS; go_simp; try with_reducible rfl)
                  simp only [Act.put, List.setIfInBounds_toArray, List.set_cons_zero, List.set_cons_succ]
                  refine wpL_yield (v := ?_) rfl (fun w' hS => ?_) ?_
                  rotate_left
                  · (obtain ⟨_, hS⟩ := hS; obtain ⟨c0, c1, c2, c3, _⟩ := wal_cells hS; go_simp; try with_reducible rfl)
                  simp only [Act.put, List.setIfInBounds_toArray, List.set_cons_zero, List.set_cons_succ]
                  refine wpL_yield (v := ?_) rfl (fun w' hS => ?_) ?_
                  rotate_left
                  · (obtain ⟨_, hS⟩ := hS; obtain ⟨c0, c1, c2, c3, _⟩ := wal_cells hS; go_simp; try with_reducible rfl)
                  simp only [Act.put, List.setIfInBounds_toArray, List.set_cons_zero, List.set_cons_succ]
                  refine wpL_yield (v := ?_) rfl (fun w' hS => ?_) ?_
                  rotate_left
                  · (obtain ⟨_, hS⟩ := hS; obtain ⟨c0, c1, c2, c3, _⟩ := wal_cells hS; go_simp; try with_reducible rfl)
                  simp only [Act.put, List.setIfInBounds_toArray, List.set_cons_zero, List.set_cons_succ]
                  refine wpL_eff rfl ?_
                  go_simp
                  refine (write_to h6.drew.pull3 Hwr.out (BytesIn.tells _ _ (by rw [hl64])) (by omega)).mono ?_
                  rintro e w8 ⟨rfl, h8⟩
                  have h9 : Bears w8 (walObj x p at' size g * (diskA p d2 * R)) := (h8.pull2.right).cast (by ac_rfl)
                  refine ⟨⟨_, h9⟩, ?_⟩
                  refine wpL_nil ?_
                  refine wpL_yield (v := ?_) rfl (fun w' hS => ?_) ?_
                  rotate_left
                  · (go_simp; try with_reducible rfl)
                  simp only [Act.put, List.setIfInBounds_toArray, List.set_cons_zero, List.set_cons_succ]
                  refine wpL_nil ?_
                  clear r1 r2 r3 r4 r5 h6 h6' h8
                  by_cases hr0 : r = 0
                  · subst hr0
                    clear Hwr
                    go_wp2_with fail
                    go_roundw
                    case rel => exact ⟨c + 1, hcl, by go_num, d2, HS2.out, h9⟩
                    case measure => simp [intOf]; omega
                  · have Hfin := Lib.hid (wCommit_lists (g := g) Hmay.out Hdk.out HS2.out hr0 (by omega))
                    clear Hwr
                    go_wp2_with fail
                    go_ret
                    rw [Hfin.out]
                    exact ⟨rfl, h9⟩
            · have q0 : (l.length : Int) ≤ (32 : Int) * (c : Int) + 32 := by omega
              have q9 : decide (32 * (c : Int) < (l.length : Int)) = true := by rw [decide_eq_true_eq]; omega
              have hN : l.length - 32 * c = min 32 (l.length - 32 * c) := by omega
              have HN := Lib.hid hN
              clear hN
              go_wp2_with fail
              generalize wr.heap.size = zb at h5
              try rw [Nat.add_sub_cancel_left]
              go_loopw [68] (fun i wr' => ∃ k : Nat, k ≤ l.length - 32 * c ∧ i = .int .i64 k ∧ Bears wr' (Assn.obj zb (.cells (cellsV (wListTo l c k)).toArray 5 (0, 0)) * (walObj x p at' size g * (diskA p dm * R)))) (fun i _ => l.length - 32 * c - (intOf i).toNat)
              case atStart => exact ⟨0, by omega, rfl, h5⟩
              case round =>
                obtain ⟨k, hk2, rfl, h6⟩ := hrel
                by_cases hlt2 : k < l.length - 32 * c
                · obtain ⟨b', o', he, q1, q2, _⟩ := (hl _ h6.right.right.right).cells (k := 32 * c + k) (by omega)
                  cases he
                  have e2 : o + (32 * c + k) * 2 = o + 32 * c * 2 + k * 2 := by omega
                  rw [e2] at q1 q2
                  have hsu := wListTo_succ (l := l) (c := c) (k := k) (by omega) (by omega)
                  have hlen64 : (wListTo l c k).length = 64 := wListTo_length (by omega) (by omega)
                  generalize hcc : l.getD (32 * c + k) default = pt at q1 q2 hsu
                  obtain ⟨sec, bs, ad', cap'⟩ := pt
                  simp only [PutM.val] at q1 q2 hsu
                  have h7 := h6.alloc (.cells #[.int .i64 sec, .slice ad' bs.length cap'] 121)
                  have Hsu := Lib.hid hsu
                  clear hcc hsu e2
                  go_wp2_with fail
                  generalize wr.heap.size = pc at h7
                  generalize wr.alloc (.cells #[.int .i64 sec, .slice ad' bs.length cap'] 121) = w7 at h7
                  have r1 : IntKind.i64.wrap (2 * (k : Int)) = 2 * (k : Int) := IntWalk.i64_in _ (by omega)
                  have r2 : IntKind.i64.wrap (2 * (k : Int) + 2) = 2 * (k : Int) + 2 := IntWalk.i64_in _ (by omega)
                  refine wp_region_L (fun w' => ∃ Q, Bears w' (Assn.obj pc (.cells #[.int .i64 sec, .slice ad' bs.length cap'] 121 (0, 0)) * Q)) 13
                    [(true, 0), (true, 1), (true, 2), (true, 3), (true, 4), (true, 5), (true, 6), (true, 7), (true, 8), (true, 9), (true, 10), (true, 11), (false, 12)] [] (by kernel_rfl) (by kernel_rfl) ⟨_, h7.drew⟩ ?_
                  simp only [pick, List.getElem?_cons_zero, List.getElem?_cons_succ]
                  refine wpL_yield (v := ?_) rfl (fun w' hS => ?_) ?_
                  rotate_left
                  · (go_simp; try with_reducible rfl)
                  simp only [Act.put, List.setIfInBounds_toArray, List.set_cons_zero, List.set_cons_succ]
                  refine wpL_yield (v := ?_) rfl (fun w' hS => ?_) ?_
                  rotate_left
                  · (go_simp; try with_reducible rfl)
                  simp only [Act.put, List.setIfInBounds_toArray, List.set_cons_zero, List.set_cons_succ]
                  refine wpL_yield (v := ?_) rfl (fun w' hS => ?_) ?_
                  rotate_left
                  · (go_simp; try with_reducible rfl)
                  simp only [Act.put, List.setIfInBounds_toArray, List.set_cons_zero, List.set_cons_succ]
                  refine wpL_yield (v := ?_) rfl (fun w' hS => ?_) ?_
                  rotate_left
                  · (go_simp; try with_reducible rfl)
                  simp only [Act.put, List.setIfInBounds_toArray, List.set_cons_zero, List.set_cons_succ]
                  refine wpL_yield (v := ?_) rfl (fun w' hS => ?_) ?_
                  rotate_left
                  · (go_simp; try with_reducible rfl)
                  simp only [Act.put, List.setIfInBounds_toArray, List.set_cons_zero, List.set_cons_succ]
                  refine wpL_yield (v := ?_) rfl (fun w' hS => ?_) ?_
                  rotate_left
                  · (go_simp; try with_reducible rfl)
                  simp only [Act.put, List.setIfInBounds_toArray, List.set_cons_zero, List.set_cons_succ]
                  refine wpL_yield (v := ?_) rfl (fun w' hS => ?_) ?_
                  rotate_left
                  · (go_simp; try with_reducible rfl)
                  simp only [Act.put, List.setIfInBounds_toArray, List.set_cons_zero, List.set_cons_succ]
                  refine wpL_yield (v := ?_) rfl (fun w' hS => ?_) ?_
                  rotate_left
                  · (go_simp; try with_reducible rfl)
                  simp only [Act.put, List.setIfInBounds_toArray, List.set_cons_zero, List.set_cons_succ]
                  refine wpL_yield (v := ?_) rfl (fun w' hS => ?_) ?_
                  rotate_left
                  · (go_simp; try with_reducible rfl)
                  simp only [Act.put, List.setIfInBounds_toArray, List.set_cons_zero, List.set_cons_succ]
                  have hz8 : ∀ w, (Go.sizeOf 5).run Try.prog w = .ok 1 w := fun w => by kernel_rfl
                  refine wpL_yield rfl (fun w' hS => exec_slice3 (lo := 2 * k) (hi := 2 * k + 2) (mx := 2 * k + 2) rfl Try.underlying43 (hz8 w') rfl (by go_simp) (by go_simp) (by go_simp) (by omega) (by omega) (by omega)) ?_
                  simp only [Act.put, List.setIfInBounds_toArray, List.set_cons_zero, List.set_cons_succ]
                  rw [show 2 * k + 2 - 2 * k = 2 by omega]
                  refine wpL_yield (v := ?_) rfl (fun w' hS => ?_) ?_
                  rotate_left
                  · (obtain ⟨_, hS⟩ := hS; obtain ⟨p0, p1⟩ := put_cells hS; go_simp; try with_reducible rfl)
                  simp only [Act.put, List.setIfInBounds_toArray, List.set_cons_zero, List.set_cons_succ]
                  refine wpL_yield (v := ?_) rfl (fun w' hS => ?_) ?_
                  rotate_left
                  · (obtain ⟨_, hS⟩ := hS; obtain ⟨p0, p1⟩ := put_cells hS; go_simp; try with_reducible rfl)
                  simp only [Act.put, List.setIfInBounds_toArray, List.set_cons_zero, List.set_cons_succ]
                  refine wpL_eff rfl ?_
                  go_simp
                  refine (number_any (o := 2 * k) (m := 2) h7.drew.pull2 sec (by rw [hlen64]; omega) (by decide)).mono ?_
                  rintro e w8 ⟨rfl, h8⟩
                  rw [Hsu.out] at h8
                  refine ⟨⟨_, h8.pull2⟩, ?_⟩
                  refine wpL_nil ?_
                  refine wpL_nil ?_
                  go_wp2_with fail
                  go_roundw
                  case rel => exact ⟨k + 1, hlt2, by go_num, h8.pull2.right⟩
                  case measure => simp [intOf]; omega
                · obtain rfl : k = l.length - 32 * c := by omega
                  rw [wList_eq HN.out] at h6
                  obtain ⟨r, d2, hwr⟩ : ∃ r d2, dm.write ((at' + 1 + c : Nat) : Int) (wList l c) = (r, d2) := ⟨_, _, rfl⟩
                  have hl64 : (wList l c).length = 64 := by rw [← wList_eq HN.out]; exact wListTo_length (by omega) (by omega)
                  have HS := Hsucc.out
                  rw [hwr] at HS
                  have e3 : ((at' + 1 + c : Nat) : Int) = (at' : Int) + 1 + (c : Int) := by omega
                  rw [e3] at hwr
                  have Hwr := Lib.hid hwr
                  have HS2 := Lib.hid HS
                  clear hwr HS e3
                  go_wp2_with fail
                  have r1 : IntKind.i64.wrap ((at' : Int) + 1) = (at' : Int) + 1 := IntWalk.i64_in _ (by omega)
                  have r2 : (32 * (c : Int)).tdiv 32 = (c : Int) := by rw [Int.tdiv_eq_ediv_of_nonneg (by omega)]; omega
                  have r3 : IntKind.i64.wrap (c : Int) = (c : Int) := IntWalk.i64_in _ (by omega)
                  have r4 : IntKind.i64.wrap ((at' : Int) + 1 + (c : Int)) = (at' : Int) + 1 + (c : Int) := IntWalk.i64_in _ (by omega)
                  have r5 : 32 * (c : Int) / 32 = (c : Int) := by omega
                  have h6' := h6.pull2
                  refine wp_region_L (fun w' => ∃ Q, Bears w' (walObj x p at' size g * Q)) 14
                    [(true, 0), (true, 1), (true, 2), (true, 3), (true, 4), (true, 5), (true, 6), (true, 7), (true, 8), (true, 9), (true, 10), (true, 11), (true, 12), (false, 13)] [(true, 14)] (by kernel_rfl) (by kernel_rfl) ⟨_, h6'.drew⟩ ?_
                  simp only [pick, List.getElem?_cons_zero, List.getElem?_cons_succ]
                  refine wpL_yield (v := ?_) rfl (fun w' hS => ?_) ?_
                  rotate_left
                  · (obtain ⟨_, hS⟩ := hS; obtain ⟨c0, c1, c2, c3, _⟩ := wal_cells hS; go_simp; try with_reducible rfl)
                  simp only [Act.put, List.setIfInBounds_toArray, List.set_cons_zero, List.set_cons_succ]
                  refine wpL_yield (v := ?_) rfl (fun w' hS => ?_) ?_
                  rotate_left
                  · (obtain ⟨_, hS⟩ := hS; obtain ⟨c0, c1, c2, c3, _⟩ := wal_cells hS; go_simp; try with_reducible rfl)
                  simp only [Act.put, List.setIfInBounds_toArray, List.set_cons_zero, List.set_cons_succ]
                  refine wpL_yield (v := ?_) rfl (fun w' hS => ?_) ?_
                  rotate_left
                  · (obtain ⟨_, hS⟩ := hS; obtain ⟨c0, c1, c2, c3, _⟩ := wal_cells hS; go_simp; try with_reducible rfl)
                  simp only [Act.put, List.setIfInBounds_toArray, List.set_cons_zero, List.set_cons_succ]
                  refine wpL_yield (v := ?_) rfl (fun w' hS => ?_) ?_
                  rotate_left
                  · (obtain ⟨_, hS⟩ := hS; obtain ⟨c0, c1, c2, c3, _⟩ := wal_cells hS; go_simp; try with_reducible rfl)
                  simp only [Act.put, List.setIfInBounds_toArray, List.set_cons_zero, List.set_cons_succ]
                  refine wpL_yield (v := ?_) rfl (fun w' hS => ?_) ?_
                  rotate_left
                  · (obtain ⟨_, hS⟩ := hS; obtain ⟨c0, c1, c2, c3, _⟩ := wal_cells hS; go_simp; try with_reducible rfl)
                  simp only [Act.put, List.setIfInBounds_toArray, List.set_cons_zero, List.set_cons_succ]
                  refine wpL_yield (v := ?_) rfl (fun w' hS => ?_) ?_
                  rotate_left
                  · (obtain ⟨_, hS⟩ := hS; obtain ⟨c0, c1, c2, c3, _⟩ := wal_cells hS; go_simp; try with_reducible rfl)
                  simp only [Act.put, List.setIfInBounds_toArray, List.set_cons_zero, List.set_cons_succ]
                  refine wpL_yield (v := ?_) rfl (fun w' hS => ?_) ?_
                  rotate_left
                  · (obtain ⟨_, hS⟩ := hS; obtain ⟨c0, c1, c2, c3, _⟩ := wal_cells hS; go_simp; try with_reducible rfl)
                  simp only [Act.put, List.setIfInBounds_toArray, List.set_cons_zero, List.set_cons_succ]
                  refine wpL_yield (v := ?_) rfl (fun w' hS => ?_) ?_
                  rotate_left
                  · (obtain ⟨_, hS⟩ := hS; obtain ⟨c0, c1, c2, c3, _⟩ := wal_cells hS; go_simp; try with_reducible rfl)
                  simp only [Act.put, List.setIfInBounds_toArray, List.set_cons_zero, List.set_cons_succ]
                  refine wpL_yield (v := ?_) rfl (fun w' hS => ?_) ?_
                  rotate_left
                  · (obtain ⟨_, hS⟩ := hS; obtain ⟨c0, c1, c2, c3, _⟩ := wal_cells hS; go_simp; try with_reducible rfl)
                  simp only [Act.put, List.setIfInBounds_toArray, List.set_cons_zero, List.set_cons_succ]
                  refine wpL_yield (v := ?_) rfl (fun w' hS => ?_) ?_
                  rotate_left
                  · (obtain ⟨_, hS⟩ := hS; obtain ⟨c0, c1, c2, c3, _⟩ := wal_cells hS; go_simp; try with_reducible rfl)
                  simp only [Act.put, List.setIfInBounds_toArray, List.set_cons_zero, List.set_cons_succ]
                  refine wpL_yield (v := ?_) rfl (fun w' hS => ?_) ?_
                  rotate_left
                  · (obtain ⟨_, hS⟩ := hS; obtain ⟨c0, c1, c2, c3, _⟩ := wal_cells hS; go_simp; try with_reducible rfl)
                  simp only [Act.put, List.setIfInBounds_toArray, List.set_cons_zero, List.set_cons_succ]
                  refine wpL_yield (v := ?_) rfl (fun w' hS => ?_) ?_
                  rotate_left
                  · (obtain ⟨_, hS⟩ := hS; obtain ⟨c0, c1, c2, c3, _⟩ := wal_cells hS; go_simp; try with_reducible rfl)
                  simp only [Act.put, List.setIfInBounds_toArray, List.set_cons_zero, List.set_cons_succ]
                  refine wpL_yield (v := ?_) rfl (fun w' hS => ?_) ?_
                  rotate_left
                  · (obtain ⟨_, hS⟩ := hS; obtain ⟨c0, c1, c2, c3, _⟩ := wal_cells hS; go_simp; try with_reducible rfl)
                  simp only [Act.put, List.setIfInBounds_toArray, List.set_cons_zero, List.set_cons_succ]
                  refine wpL_eff rfl ?_
                  go_simp
                  refine (write_to h6.drew.pull3 Hwr.out (BytesIn.tells _ _ (by rw [hl64])) (by omega)).mono ?_
                  rintro e w8 ⟨rfl, h8⟩
                  have h9 : Bears w8 (walObj x p at' size g * (diskA p d2 * R)) := (h8.pull2.right).cast (by ac_rfl)
                  refine ⟨⟨_, h9⟩, ?_⟩
                  refine wpL_nil ?_
                  refine wpL_yield (v := ?_) rfl (fun w' hS => ?_) ?_
                  rotate_left
                  · (go_simp; try with_reducible rfl)
                  simp only [Act.put, List.setIfInBounds_toArray, List.set_cons_zero, List.set_cons_succ]
                  refine wpL_nil ?_
                  clear r1 r2 r3 r4 r5 h6 h6' h8
                  by_cases hr0 : r = 0
                  · subst hr0
                    clear Hwr
                    go_wp2_with fail
                    go_roundw
                    case rel => exact ⟨c + 1, hcl, by go_num, d2, HS2.out, h9⟩
                    case measure => simp [intOf]; omega
                  · have Hfin := Lib.hid (wCommit_lists (g := g) Hmay.out Hdk.out HS2.out hr0 (by omega))
                    clear Hwr
                    go_wp2_with fail
                    go_ret
                    rw [Hfin.out]
                    exact ⟨rfl, h9⟩
          · have hcl : c = listsN l.length := by unfold listsN at hc ⊢; omega
            obtain ⟨r, db, hbo⟩ : ∃ r db, wBoth dm at' size (wrap64 (g + 1)) l.length = (r, db) := ⟨_, _, rfl⟩
            rw [hcl] at hdm
            have Hfin := Lib.hid (wCommit_both (g := g) Hmay.out Hdk.out hdm hbo)
            have Hbo := Lib.hid hbo
            obtain ⟨c0, c1, c2, c3, f3⟩ := wal_cells h4
            have h5 : Bears (wr.setCell ⟨x, 3, none⟩ (.int .i64 (wrap64 (g + 1)))) (walObj x p at' size (wrap64 (g + 1)) * (diskA p dm * R)) := h4.setCell (i := 3) (.int .i64 (wrap64 (g + 1)))
            clear hdm hbo
            go_wp2_with fail
            refine (both_any h5 l.length (by omega)).mono ?_
            rintro e w5 ⟨rfl, h6⟩
            rw [Hbo.out] at h6 ⊢
            by_cases hr0 : r = 0
            · subst hr0
              by_cases hn0 : l.length = 0
              · have HF := Hfin.out
                rw [if_pos (.inr hn0)] at HF
                have HF2 := Lib.hid HF
                have n0 : ((l.length : Int) == 0) = true := by rw [beq_iff_eq]; omega
                clear HF Hfin
                go_wp2_with fail
                go_ret
                rw [HF2.out]
                exact ⟨rfl, h6⟩
              · have HF := Hfin.out
                rw [if_neg (by simp [hn0])] at HF
                have HF2 := Lib.hid HF
                have n0 : ((l.length : Int) == 0) = false := by rw [beq_eq_false_iff_ne]; omega
                have hwb : db.waits.length ≤ dm.waits.length + 1 := by have := wBoth_waits dm at' size (wrap64 (g + 1)) l.length; rw [Hbo.out] at this; exact this
                clear HF Hfin
                go_wp2_with fail
                refine (finish_any h6 l.length (by omega) hll ha hs).mono ?_
                rintro e w6 ⟨rfl, h7⟩
                go_wp2_with fail
                go_ret
                rw [HF2.out]
                exact ⟨rfl, h7⟩
            · have HF := Hfin.out
              rw [if_pos (.inl hr0)] at HF
              have HF2 := Lib.hid HF
              clear HF Hfin
              go_wp2_with fail
              go_ret
              rw [HF2.out]
              exact ⟨rfl, h6⟩
  · have hmay : wMay d.len at' size l = false := by simpa using hmay
    rw [wCommit_no hmay]
    have Hmay := Lib.hid hmay
    clear hmay
    go_enter Try.func82, Try.ntmps82
    go_wp2_with fail
    refine (may_any h l ad cap hl hlen ha hs).mono ?_
    rintro e w1 ⟨rfl, h1⟩
    rw [Hmay.out]
    go_wp2_with fail
    go_ret
    exact ⟨rfl, h1⟩

theorem groups_any {x p at' size : Nat} {g : Int} {R : Assn} {w : World} (h : Bears w (walObj x p at' size g * R)) :
    Calls Try.prog 101 #[.pointer (some ⟨x, 0, none⟩)] w fun e w' => e = .returned (.int .i64 g) ∧ w = w' := by
  obtain ⟨c0, c1, c2, c3, _⟩ := wal_cells h
  go_enter Try.func101, Try.ntmps101
  go_wp2
  go_ret
  exact ⟨rfl, rfl⟩

end Go.Proofs.Ytaiobekochhemaa
