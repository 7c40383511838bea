/- Texts of this claim, put together: WalW7, CacheA, CacheW1, CacheW2, Shelf, CacheW3, CacheW4; no condition. -/
import Derived.Test.YtcggloceabjjdaaGreatM204cfad09c
import Derived.Shelf.Small.Bits
import Derived.Shelf.Small.Wraps
import Derived.Shelf.Strconv.Itoa0
import Derived.Shelf.Slices.Turned
import Derived.Ground.Names2Prog
import Derived.Shelf.Slices.SearchI
import Derived.Shelf.Slices.Delete
import Derived.Shelf.Slices.Cells
import Derived.Shelf.Slices.In.SortNone
import Derived.Shelf.Slices.Empties
import Derived.Ground.SlgmProg
import Derived.Shelf.SortM.Plain
import Derived.Ground.GgzProg
import Derived.Shelf.SlIterI.Nil
import Derived.Test.YtcggloceabjjdaaGreatProg

set_option linter.unusedSimpArgs false
set_option linter.unusedVariables false

/- The log: a group is done: the walk; no condition. -/
namespace Go.Proofs.YtcggloceabjjdaaGreat
open Go.RowKit Go.MapKept

theorem may_facts {len a s : Nat} {l : List PutM} (h : wMay len a s l = true) : l.length ≤ roomN s ∧ ∀ k, k < l.length → (l.getD k default).bytes.length = 64 ∧ 0 ≤ (l.getD k default).sector ∧ (l.getD k default).sector < len := by
  unfold wMay at h
  simp only [Bool.and_eq_true, decide_eq_true_eq] at h
  refine ⟨h.2, fun k hk => ?_⟩
  have := (wMayTo_true l []).1 h.1 k hk
  simp only [wOk, Bool.and_eq_true, decide_eq_true_eq, beq_iff_eq] at this
  exact ⟨this.2, this.1.1.2, this.1.2⟩

theorem wBoth_waits (d : DiskM) (a s : Nat) (g h : Int) : (wBoth d a s g h).2.waits.length ≤ d.waits.length + 1 := by
  have h1 := barrier_waits d
  have h2 := write_waits d.barrier.2 a (headB s g h)
  have h3 := barrier_waits (d.barrier.2.write a (headB s g h)).2
  unfold wBoth
  split
  · omega
  · split
    · omega
    · omega

set_option maxRecDepth 100000 in
set_option maxHeartbeats 3200000 in
theorem commit_any {x p at' size : Nat} {g : Int} {d : DiskM} {R : Assn} {w : World} (h : Bears w (walObj x p at' size g * (diskA p d * R))) (l : List PutM) (ad : Option Addr) (cap : Nat) (hl : R.Tells (fun w => PutsIn w (.slice ad l.length cap) l))
    (hlen : l.length ≤ 9223372036854775807) (ha : at' ≤ 100000) (hs : size ≤ 100000) (hroom : d.waits.length + 400000 < 1099511627776) :
    Calls Tryz.prog 91 #[.pointer (some ⟨x, 0, none⟩), .slice ad l.length cap] w fun e w' => e = .returned (.int .i64 (wCommit d at' size g l).1) ∧
      Bears w' (walObj x p at' size (wCommit d at' size g l).2.1 * (diskA p (wCommit d at' size g l).2.2 * R)) := by
  by_cases hmay : wMay d.len at' size l = true
  · have hm := may_facts hmay
    have hr1 : roomN size ≤ size := by unfold roomN; split <;> omega
    have hl1 : listsN (roomN size) ≤ size := by unfold listsN; omega
    have hfirst : ((wFirst at' size : Nat) : Int) = (at' : Int) + 1 + (listsN (roomN size) : Nat) := by unfold wFirst; omega
    have hfb : wFirst at' size ≤ 300000 := by unfold wFirst; omega
    have hll : l.length ≤ 100000 := by omega
    have Hfirst := Lib.hid hfirst
    have Hmay := Lib.hid hmay
    have Hm := Lib.hid hm
    clear hfirst hmay hm
    go_enter Tryz.func91, Tryz.ntmps91
    go_wp2_with fail
    refine (may_any h l ad cap hl hlen ha hs).mono ?_
    rintro e w1 ⟨rfl, h1⟩
    rw [Hmay.out]
    clear h
    go_wp2_with fail
    refine wp_region_L (fun w' => Bears w' (walObj x p at' size g * (diskA p d * R))) 12
      [(true, 0), (true, 1), (true, 2), (true, 3), (true, 4), (true, 5), (true, 6), (true, 7), (false, 8), (false, 9), (false, 10), (true, 11)] [(true, 12)] (by kernel_rfl) (by kernel_rfl) h1.drew ?_
    simp only [pick, List.getElem?_cons_zero, List.getElem?_cons_succ]
    have q1 : IntKind.i64.wrap ((at' : Int) + 1) = (at' : Int) + 1 := IntWalk.i64_in _ (by omega)
    refine wpL_yield (v := ?_) rfl (fun w' hS => ?_) ?_
    rotate_left
    · (obtain ⟨c0, c1, c2, c3, _⟩ := wal_cells hS; go_simp; try with_reducible rfl)
    simp only [Act.put, List.setIfInBounds_toArray, List.set_cons_zero, List.set_cons_succ]
    refine wpL_yield (v := ?_) rfl (fun w' hS => ?_) ?_
    rotate_left
    · (obtain ⟨c0, c1, c2, c3, _⟩ := wal_cells hS; go_simp; try with_reducible rfl)
    simp only [Act.put, List.setIfInBounds_toArray, List.set_cons_zero, List.set_cons_succ]
    refine wpL_yield (v := ?_) rfl (fun w' hS => ?_) ?_
    rotate_left
    · (obtain ⟨c0, c1, c2, c3, _⟩ := wal_cells hS; go_simp; try with_reducible rfl)
    simp only [Act.put, List.setIfInBounds_toArray, List.set_cons_zero, List.set_cons_succ]
    refine wpL_yield (v := ?_) rfl (fun w' hS => ?_) ?_
    rotate_left
    · (obtain ⟨c0, c1, c2, c3, _⟩ := wal_cells hS; go_simp; try with_reducible rfl)
    simp only [Act.put, List.setIfInBounds_toArray, List.set_cons_zero, List.set_cons_succ]
    refine wpL_yield (v := ?_) rfl (fun w' hS => ?_) ?_
    rotate_left
    · (obtain ⟨c0, c1, c2, c3, _⟩ := wal_cells hS; go_simp; try with_reducible rfl)
    simp only [Act.put, List.setIfInBounds_toArray, List.set_cons_zero, List.set_cons_succ]
    refine wpL_yield (v := ?_) rfl (fun w' hS => ?_) ?_
    rotate_left
    · (obtain ⟨c0, c1, c2, c3, _⟩ := wal_cells hS; go_simp; try with_reducible rfl)
    simp only [Act.put, List.setIfInBounds_toArray, List.set_cons_zero, List.set_cons_succ]
    refine wpL_yield (v := ?_) rfl (fun w' hS => ?_) ?_
    rotate_left
    · (obtain ⟨c0, c1, c2, c3, _⟩ := wal_cells hS; go_simp; try with_reducible rfl)
    simp only [Act.put, List.setIfInBounds_toArray, List.set_cons_zero, List.set_cons_succ]
    refine wpL_yield (v := ?_) rfl (fun w' hS => ?_) ?_
    rotate_left
    · (obtain ⟨c0, c1, c2, c3, _⟩ := wal_cells hS; go_simp; try with_reducible rfl)
    simp only [Act.put, List.setIfInBounds_toArray, List.set_cons_zero, List.set_cons_succ]
    obtain ⟨c0, c1, c2, c3, _⟩ := wal_cells h1.drew
    refine wpL_eff rfl ?_
    go_simp
    refine ⟨h1.drew, ?_⟩
    refine wpL_eff rfl ?_
    go_simp
    refine (room_any w1.drew size (by omega)).mono ?_
    rintro e w2 ⟨rfl, rfl⟩
    refine ⟨h1.drew, ?_⟩
    refine wpL_eff rfl ?_
    go_simp
    refine (lists_any w1.drew (roomN size) (by omega)).mono ?_
    rintro e w2 ⟨rfl, rfl⟩
    refine ⟨h1.drew, ?_⟩
    have q2 : IntKind.i64.wrap ((at' : Int) + 1 + (listsN (roomN size) : Nat)) = (wFirst at' size : Nat) := by rw [Hfirst.out]; exact IntWalk.i64_in _ (by omega)
    refine wpL_yield (v := ?_) rfl (fun w' hS => ?_) ?_
    rotate_left
    · (go_simp; try with_reducible rfl)
    simp only [Act.put, List.setIfInBounds_toArray, List.set_cons_zero, List.set_cons_succ]
    refine wpL_nil ?_
    refine wpL_yield (v := ?_) rfl (fun w' hS => ?_) ?_
    rotate_left
    · (go_simp; try with_reducible rfl)
    simp only [Act.put, List.setIfInBounds_toArray, List.set_cons_zero, List.set_cons_succ]
    refine wpL_nil ?_
    have h2 := h1.drew
    generalize w1.drew = w2 at h2
    clear c0 c1 c2 c3 q1 q2 h1
    go_wp2_with fail
    go_loopw [33] (fun i wr => ∃ k : Nat, k ≤ l.length ∧ i = .int .i64 k ∧ ∃ dk : DiskM, wBytes d at' size l k = (0, dk) ∧ Bears wr (walObj x p at' size g * (diskA p dk * R)))
      (fun i _ => l.length - (intOf i).toNat)
    case atStart => exact ⟨0, by omega, rfl, d, rfl, h2⟩
    case round =>
      obtain ⟨k, hk, rfl, dk, hdk, h3⟩ := hrel
      have hwk : dk.waits.length ≤ d.waits.length + k := by have := wBytes_waits d at' size l k; rw [hdk] at this; exact this
      by_cases hlt : k < l.length
      · obtain ⟨b, o, rfl, q1, q2, _⟩ := (hl _ h3.right.right).cells hlt
        have hsucc := wBytes_succ hdk
        have h64 := (Hm.out.2 k hlt).1
        have hbt := PutsIn.bytes hl hlt
        generalize hc : l.getD k default = pt at q1 q2 hsucc h64 hbt
        obtain ⟨sec, bs, ad', cap'⟩ := pt
        simp only [PutM.val] at q1 q2 hsucc h64 hbt
        obtain ⟨r, d2, hwr⟩ : ∃ r d2, dk.write ((wFirst at' size + k : Nat) : Int) bs = (r, d2) := ⟨_, _, rfl⟩
        rw [hwr] at hsucc
        have h4 := h3.alloc (.cells #[.int .i64 sec, .slice ad' bs.length cap'] 115)
        have Hwr := Lib.hid hwr
        have Hsucc := Lib.hid hsucc
        clear hc hwr hsucc hdk h64
        go_wp2_with fail
        generalize wr.heap.size = c at h4
        generalize wr.alloc (.cells #[.int .i64 sec, .slice ad' bs.length cap'] 115) = w4 at h4
        have e1 : ((wFirst at' size + k : Nat) : Int) = (wFirst at' size : Nat) + (k : Int) := by omega
        have q4 : IntKind.i64.wrap ((wFirst at' size : Nat) + (k : Int)) = (wFirst at' size : Nat) + (k : Int) := IntWalk.i64_in _ (by omega)
        have Hw := Hwr.out
        rw [e1] at Hw
        have HW := Lib.hid Hw
        clear Hw e1 q1 q2 h3
        refine wp_region_L (fun w' => ∃ A Q, Bears w' (Assn.obj c (.cells #[.int .i64 sec, .slice ad' bs.length cap'] 115 (0, 0)) * (walObj x p at' size g * (A * Q)))) 10
          [(true, 0), (true, 1), (true, 2), (true, 3), (true, 4), (true, 5), (true, 6), (true, 7), (true, 8), (false, 9)] [(true, 10)] (by kernel_rfl) (by kernel_rfl) ⟨_, _, h4.drew⟩ ?_
        simp only [pick, List.getElem?_cons_zero, List.getElem?_cons_succ]
        refine wpL_yield (v := ?_) rfl (fun w' hS => ?_) ?_
        rotate_left
        · (obtain ⟨_, _, hS⟩ := hS; obtain ⟨p0, p1⟩ := put_cells hS; obtain ⟨c0, c1, c2, c3, _⟩ := wal_cells hS.pull2; go_simp; try with_reducible rfl)
        simp only [Act.put, List.setIfInBounds_toArray, List.set_cons_zero, List.set_cons_succ]
        refine wpL_yield (v := ?_) rfl (fun w' hS => ?_) ?_
        rotate_left
        · (obtain ⟨_, _, hS⟩ := hS; obtain ⟨p0, p1⟩ := put_cells hS; obtain ⟨c0, c1, c2, c3, _⟩ := wal_cells hS.pull2; go_simp; try with_reducible rfl)
        simp only [Act.put, List.setIfInBounds_toArray, List.set_cons_zero, List.set_cons_succ]
        refine wpL_yield (v := ?_) rfl (fun w' hS => ?_) ?_
        rotate_left
        · (obtain ⟨_, _, hS⟩ := hS; obtain ⟨p0, p1⟩ := put_cells hS; obtain ⟨c0, c1, c2, c3, _⟩ := wal_cells hS.pull2; go_simp; try with_reducible rfl)
        simp only [Act.put, List.setIfInBounds_toArray, List.set_cons_zero, List.set_cons_succ]
        refine wpL_yield (v := ?_) rfl (fun w' hS => ?_) ?_
        rotate_left
        · (obtain ⟨_, _, hS⟩ := hS; obtain ⟨p0, p1⟩ := put_cells hS; obtain ⟨c0, c1, c2, c3, _⟩ := wal_cells hS.pull2; go_simp; try with_reducible rfl)
        simp only [Act.put, List.setIfInBounds_toArray, List.set_cons_zero, List.set_cons_succ]
        refine wpL_yield (v := ?_) rfl (fun w' hS => ?_) ?_
        rotate_left
        · (obtain ⟨_, _, hS⟩ := hS; obtain ⟨p0, p1⟩ := put_cells hS; obtain ⟨c0, c1, c2, c3, _⟩ := wal_cells hS.pull2; go_simp; try with_reducible rfl)
        simp only [Act.put, List.setIfInBounds_toArray, List.set_cons_zero, List.set_cons_succ]
        refine wpL_yield (v := ?_) rfl (fun w' hS => ?_) ?_
        rotate_left
        · (obtain ⟨_, _, hS⟩ := hS; obtain ⟨p0, p1⟩ := put_cells hS; obtain ⟨c0, c1, c2, c3, _⟩ := wal_cells hS.pull2; go_simp; try with_reducible rfl)
        simp only [Act.put, List.setIfInBounds_toArray, List.set_cons_zero, List.set_cons_succ]
        refine wpL_yield (v := ?_) rfl (fun w' hS => ?_) ?_
        rotate_left
        · (obtain ⟨_, _, hS⟩ := hS; obtain ⟨p0, p1⟩ := put_cells hS; obtain ⟨c0, c1, c2, c3, _⟩ := wal_cells hS.pull2; go_simp; try with_reducible rfl)
        simp only [Act.put, List.setIfInBounds_toArray, List.set_cons_zero, List.set_cons_succ]
        refine wpL_yield (v := ?_) rfl (fun w' hS => ?_) ?_
        rotate_left
        · (obtain ⟨_, _, hS⟩ := hS; obtain ⟨p0, p1⟩ := put_cells hS; obtain ⟨c0, c1, c2, c3, _⟩ := wal_cells hS.pull2; go_simp; try with_reducible rfl)
        simp only [Act.put, List.setIfInBounds_toArray, List.set_cons_zero, List.set_cons_succ]
        refine wpL_yield (v := ?_) rfl (fun w' hS => ?_) ?_
        rotate_left
        · (obtain ⟨_, _, hS⟩ := hS; obtain ⟨p0, p1⟩ := put_cells hS; obtain ⟨c0, c1, c2, c3, _⟩ := wal_cells hS.pull2; go_simp; try with_reducible rfl)
        simp only [Act.put, List.setIfInBounds_toArray, List.set_cons_zero, List.set_cons_succ]
        refine wpL_eff rfl ?_
        go_simp
        refine (write_to h4.drew.pull3 HW.out hbt.right.right (by omega)).mono ?_
        rintro e w5 ⟨rfl, h5⟩
        have h6 : Bears w5 (Assn.obj c (.cells #[.int .i64 sec, .slice ad' bs.length cap'] 115 (0, 0)) * (walObj x p at' size g * (diskA p d2 * R))) := h5.cast (by ac_rfl)
        refine ⟨⟨_, _, h6⟩, ?_⟩
        refine wpL_nil ?_
        refine wpL_yield (v := ?_) rfl (fun w' hS => ?_) ?_
        rotate_left
        · (go_simp; try with_reducible rfl)
        simp only [Act.put, List.setIfInBounds_toArray, List.set_cons_zero, List.set_cons_succ]
        refine wpL_nil ?_
        clear h4 h5 q4
        by_cases hr0 : r = 0
        · subst hr0
          clear Hwr HW
          go_wp2_with fail
          go_roundw
          case rel => exact ⟨k + 1, hlt, by go_num, d2, Hsucc.out, h6.right⟩
          case measure => simp [intOf]; omega
        · have Hfin := Lib.hid (wCommit_bytes (g := g) Hmay.out Hsucc.out hr0 (by omega))
          clear Hwr HW
          go_wp2_with fail
          go_ret
          rw [Hfin.out]
          exact ⟨rfl, h6.right⟩
      · obtain rfl : k = l.length := by omega
        have Hdk := Lib.hid hdk
        clear hdk hk
        go_wp2_with fail
        go_loopw [9] (fun i wr => ∃ c : Nat, c ≤ listsN l.length ∧ i = .int .i64 (32 * (c : Int)) ∧ ∃ dm : DiskM, wLists dk at' l c = (0, dm) ∧ Bears wr (walObj x p at' size g * (diskA p dm * R)))
          (fun i _ => l.length + 32 - (intOf i).toNat)
        case atStart => exact ⟨0, by omega, by simp, dk, rfl, h3⟩
        case round =>
          obtain ⟨c, hc, rfl, dm, hdm, h4⟩ := hrel
          have hwm : dm.waits.length ≤ dk.waits.length + c := by have := wLists_waits dk at' l c; rw [hdm] at this; exact this
          have hll2 : listsN l.length ≤ 100000 := by unfold listsN; omega
          by_cases hlt : 32 * c < l.length
          · have hcl : c < listsN l.length := by unfold listsN; omega
            have hsucc := wLists_succ hdm
            have hmk : ∀ w, (Instr.makeSlice 34 (.int .i64 64) (.int .i64 64)).run Tryz.prog w = .ok (.slice (some ⟨w.heap.size, 0, none⟩) 64 64) (w.alloc (.cells (cellsV (List.replicate 64 0)).toArray 5)) := fun _ => by kernel_rfl
            have hz0 : List.replicate 64 0 = wListTo l c 0 := by simp [wListTo]
            rw [hz0] at hmk
            have h5 := h4.alloc (.cells (cellsV (wListTo l c 0)).toArray 5)
            have hlc : (wListTo l c 0).length = 64 := wListTo_length (by omega) (by omega)
            have hcap := (hl _ h4.right.right).le
            obtain ⟨b, o, rfl, _⟩ := (hl _ h4.right.right).cells hlt
            have Hsucc := Lib.hid hsucc
            clear hz0 hlc hsucc hdm
            rcases Nat.lt_or_ge (32 * c + 32) l.length with h32 | h32
            · have q0 : (32 : Int) * (c : Int) + 32 ≤ (l.length : Int) := by omega
              have q9 : decide (32 * (c : Int) < (l.length : Int)) = true := by rw [decide_eq_true_eq]; omega
              have hN : 32 = min 32 (l.length - 32 * c) := by omega
              have HN := Lib.hid hN
              clear hN
              go_wp2_with fail
              generalize wr.heap.size = zb at h5
              try rw [Nat.add_sub_cancel_left]
              go_loopw [68] (fun i wr' => ∃ k : Nat, k ≤ 32 ∧ i = .int .i64 k ∧ Bears wr' (Assn.obj zb (.cells (cellsV (wListTo l c k)).toArray 5 (0, 0)) * (walObj x p at' size g * (diskA p dm * R)))) (fun i _ => 32 - (intOf i).toNat)
              case atStart => exact ⟨0, by omega, rfl, h5⟩
              case round =>
                obtain ⟨k, hk2, rfl, h6⟩ := hrel
                by_cases hlt2 : k < 32
                · obtain ⟨b', o', he, q1, q2, _⟩ := (hl _ h6.right.right.right).cells (k := 32 * c + k) (by omega)
                  cases he
                  have e2 : o + (32 * c + k) * 2 = o + 32 * c * 2 + k * 2 := by omega
                  rw [e2] at q1 q2
                  have hsu := wListTo_succ (l := l) (c := c) (k := k) (by omega) (by omega)
                  have hlen64 : (wListTo l c k).length = 64 := wListTo_length (by omega) (by omega)
                  generalize hcc : l.getD (32 * c + k) default = pt at q1 q2 hsu
                  obtain ⟨sec, bs, ad', cap'⟩ := pt
                  simp only [PutM.val] at q1 q2 hsu
                  have h7 := h6.alloc (.cells #[.int .i64 sec, .slice ad' bs.length cap'] 115)
                  have Hsu := Lib.hid hsu
                  clear hcc hsu e2
                  go_wp2_with fail
                  generalize wr.heap.size = pc at h7
                  generalize wr.alloc (.cells #[.int .i64 sec, .slice ad' bs.length cap'] 115) = w7 at h7
                  have r1 : IntKind.i64.wrap (2 * (k : Int)) = 2 * (k : Int) := IntWalk.i64_in _ (by omega)
                  have r2 : IntKind.i64.wrap (2 * (k : Int) + 2) = 2 * (k : Int) + 2 := IntWalk.i64_in _ (by omega)
                  refine wp_region_L (fun w' => ∃ Q, Bears w' (Assn.obj pc (.cells #[.int .i64 sec, .slice ad' bs.length cap'] 115 (0, 0)) * Q)) 13
                    [(true, 0), (true, 1), (true, 2), (true, 3), (true, 4), (true, 5), (true, 6), (true, 7), (true, 8), (true, 9), (true, 10), (true, 11), (false, 12)] [] (by kernel_rfl) (by kernel_rfl) ⟨_, h7.drew⟩ ?_
                  simp only [pick, List.getElem?_cons_zero, List.getElem?_cons_succ]
                  refine wpL_yield (v := ?_) rfl (fun w' hS => ?_) ?_
                  rotate_left
                  · (go_simp; try with_reducible rfl)
                  simp only [Act.put, List.setIfInBounds_toArray, List.set_cons_zero, List.set_cons_succ]
                  refine wpL_yield (v := ?_) rfl (fun w' hS => ?_) ?_
                  rotate_left
                  · (go_simp; try with_reducible rfl)
                  simp only [Act.put, List.setIfInBounds_toArray, List.set_cons_zero, List.set_cons_succ]
                  refine wpL_yield (v := ?_) rfl (fun w' hS => ?_) ?_
                  rotate_left
                  · (go_simp; try with_reducible rfl)
                  simp only [Act.put, List.setIfInBounds_toArray, List.set_cons_zero, List.set_cons_succ]
                  refine wpL_yield (v := ?_) rfl (fun w' hS => ?_) ?_
                  rotate_left
                  · (go_simp; try with_reducible rfl)
                  simp only [Act.put, List.setIfInBounds_toArray, List.set_cons_zero, List.set_cons_succ]
                  refine wpL_yield (v := ?_) rfl (fun w' hS => ?_) ?_
                  rotate_left
                  · (go_simp; try with_reducible rfl)
                  simp only [Act.put, List.setIfInBounds_toArray, List.set_cons_zero, List.set_cons_succ]
                  refine wpL_yield (v := ?_) rfl (fun w' hS => ?_) ?_
                  rotate_left
                  · (go_simp; try with_reducible rfl)
                  simp only [Act.put, List.setIfInBounds_toArray, List.set_cons_zero, List.set_cons_succ]
                  refine wpL_yield (v := ?_) rfl (fun w' hS => ?_) ?_
                  rotate_left
                  · (go_simp; try with_reducible rfl)
                  simp only [Act.put, List.setIfInBounds_toArray, List.set_cons_zero, List.set_cons_succ]
                  refine wpL_yield (v := ?_) rfl (fun w' hS => ?_) ?_
                  rotate_left
                  · (go_simp; try with_reducible rfl)
                  simp only [Act.put, List.setIfInBounds_toArray, List.set_cons_zero, List.set_cons_succ]
                  refine wpL_yield (v := ?_) rfl (fun w' hS => ?_) ?_
                  rotate_left
                  · (go_simp; try with_reducible rfl)
                  simp only [Act.put, List.setIfInBounds_toArray, List.set_cons_zero, List.set_cons_succ]
                  have hz8 : ∀ w, (Go.sizeOf 5).run Tryz.prog w = .ok 1 w := fun w => by kernel_rfl
                  refine wpL_yield rfl (fun w' hS => exec_slice3 (lo := 2 * k) (hi := 2 * k + 2) (mx := 2 * k + 2) rfl Tryz.underlying34 (hz8 w') rfl (by go_simp) (by go_simp) (by go_simp) (by omega) (by omega) (by omega)) ?_
                  simp only [Act.put, List.setIfInBounds_toArray, List.set_cons_zero, List.set_cons_succ]
                  rw [show 2 * k + 2 - 2 * k = 2 by omega]
                  refine wpL_yield (v := ?_) rfl (fun w' hS => ?_) ?_
                  rotate_left
                  · (obtain ⟨_, hS⟩ := hS; obtain ⟨p0, p1⟩ := put_cells hS; go_simp; try with_reducible rfl)
                  simp only [Act.put, List.setIfInBounds_toArray, List.set_cons_zero, List.set_cons_succ]
                  refine wpL_yield (v := ?_) rfl (fun w' hS => ?_) ?_
                  rotate_left
                  · (obtain ⟨_, hS⟩ := hS; obtain ⟨p0, p1⟩ := put_cells hS; go_simp; try with_reducible rfl)
                  simp only [Act.put, List.setIfInBounds_toArray, List.set_cons_zero, List.set_cons_succ]
                  refine wpL_eff rfl ?_
                  go_simp
                  refine (number_any (o := 2 * k) (m := 2) h7.drew.pull2 sec (by rw [hlen64]; omega) (by decide)).mono ?_
                  rintro e w8 ⟨rfl, h8⟩
                  rw [Hsu.out] at h8
                  refine ⟨⟨_, h8.pull2⟩, ?_⟩
                  refine wpL_nil ?_
                  refine wpL_nil ?_
                  go_wp2_with fail
                  go_roundw
                  case rel => exact ⟨k + 1, hlt2, by go_num, h8.pull2.right⟩
                  case measure => simp [intOf]; omega
                · obtain rfl : k = 32 := by omega
                  rw [wList_eq HN.out] at h6
                  obtain ⟨r, d2, hwr⟩ : ∃ r d2, dm.write ((at' + 1 + c : Nat) : Int) (wList l c) = (r, d2) := ⟨_, _, rfl⟩
                  have hl64 : (wList l c).length = 64 := by rw [← wList_eq HN.out]; exact wListTo_length (by omega) (by omega)
                  have HS := Hsucc.out
                  rw [hwr] at HS
                  have e3 : ((at' + 1 + c : Nat) : Int) = (at' : Int) + 1 + (c : Int) := by omega
                  rw [e3] at hwr
                  have Hwr := Lib.hid hwr
                  have HS2 := Lib.hid HS
                  clear hwr HS e3
                  go_wp2_with fail
                  have r1 : IntKind.i64.wrap ((at' : Int) + 1) = (at' : Int) + 1 := IntWalk.i64_in _ (by omega)
                  have r2 : (32 * (c : Int)).tdiv 32 = (c : Int) := by rw [Int.tdiv_eq_ediv_of_nonneg (by omega)]; omega
                  have r3 : IntKind.i64.wrap (c : Int) = (c : Int) := IntWalk.i64_in _ (by omega)
                  have r4 : IntKind.i64.wrap ((at' : Int) + 1 + (c : Int)) = (at' : Int) + 1 + (c : Int) := IntWalk.i64_in _ (by omega)
                  have r5 : 32 * (c : Int) / 32 = (c : Int) := by omega
                  have h6' := h6.pull2
                  refine wp_region_L (fun w' => ∃ Q, Bears w' (walObj x p at' size g * Q)) 14
                    [(true, 0), (true, 1), (true, 2), (true, 3), (true, 4), (true, 5), (true, 6), (true, 7), (true, 8), (true, 9), (true, 10), (true, 11), (true, 12), (false, 13)] [(true, 14)] (by kernel_rfl) (by kernel_rfl) ⟨_, h6'.drew⟩ ?_
                  simp only [pick, List.getElem?_cons_zero, List.getElem?_cons_succ]
                  refine wpL_yield (v := ?_) rfl (fun w' hS => ?_) ?_
                  rotate_left
                  · (obtain ⟨_, hS⟩ := hS; obtain ⟨c0, c1, c2, c3, _⟩ := wal_cells hS; go_simp; try with_reducible rfl)
                  simp only [Act.put, List.setIfInBounds_toArray, List.set_cons_zero, List.set_cons_succ]
                  refine wpL_yield (v := ?_) rfl (fun w' hS => ?_) ?_
                  rotate_left
                  · (obtain ⟨_, hS⟩ := hS; obtain ⟨c0, c1, c2, c3, _⟩ := wal_cells hS; go_simp; try with_reducible rfl)
                  simp only [Act.put, List.setIfInBounds_toArray, List.set_cons_zero, List.set_cons_succ]
                  refine wpL_yield (v := ?_) rfl (fun w' hS => ?_) ?_
                  rotate_left
                  · (obtain ⟨_, hS⟩ := hS; obtain ⟨c0, c1, c2, c3, _⟩ := wal_cells hS; go_simp; try with_reducible rfl)
                  simp only [Act.put, List.setIfInBounds_toArray, List.set_cons_zero, List.set_cons_succ]
                  refine wpL_yield (v := ?_) rfl (fun w' hS => ?_) ?_
                  rotate_left
                  · (obtain ⟨_, hS⟩ := hS; obtain ⟨c0, c1, c2, c3, _⟩ := wal_cells hS; go_simp; try with_reducible rfl)
                  simp only [Act.put, List.setIfInBounds_toArray, List.set_cons_zero, List.set_cons_succ]
                  refine wpL_yield (v := ?_) rfl (fun w' hS => ?_) ?_
                  rotate_left
                  · (obtain ⟨_, hS⟩ := hS; obtain ⟨c0, c1, c2, c3, _⟩ := wal_cells hS; go_simp; try with_reducible rfl)
                  simp only [Act.put, List.setIfInBounds_toArray, List.set_cons_zero, List.set_cons_succ]
                  refine wpL_yield (v := ?_) rfl (fun w' hS => ?_) ?_
                  rotate_left
                  · (obtain ⟨_, hS⟩ := hS; obtain ⟨c0, c1, c2, c3, _⟩ := wal_cells hS; go_simp; try with_reducible rfl)
                  simp only [Act.put, List.setIfInBounds_toArray, List.set_cons_zero, List.set_cons_succ]
                  refine wpL_yield (v := ?_) rfl (fun w' hS => ?_) ?_
                  rotate_left
                  · (obtain ⟨_, hS⟩ := hS; obtain ⟨c0, c1, c2, c3, _⟩ := wal_cells hS; go_simp; try with_reducible rfl)
                  simp only [Act.put, List.setIfInBounds_toArray, List.set_cons_zero, List.set_cons_succ]
                  refine wpL_yield (v := ?_) rfl (fun w' hS => ?_) ?_
                  rotate_left
                  · (obtain ⟨_, hS⟩ := hS; obtain ⟨c0, c1, c2, c3, _⟩ := wal_cells hS; go_simp; try with_reducible rfl)
                  simp only [Act.put, List.setIfInBounds_toArray, List.set_cons_zero, List.set_cons_succ]
                  refine wpL_yield (v := ?_) rfl (fun w' hS => ?_) ?_
                  rotate_left
                  · (obtain ⟨_, hS⟩ := hS; obtain ⟨c0, c1, c2, c3, _⟩ := wal_cells hS; go_simp; try with_reducible rfl)
                  simp only [Act.put, List.setIfInBounds_toArray, List.set_cons_zero, List.set_cons_succ]
                  refine wpL_yield (v := ?_) rfl (fun w' hS => ?_) ?_
                  rotate_left
                  · (obtain ⟨_, hS⟩ := hS; obtain ⟨c0, c1, c2, c3, _⟩ := wal_cells hS; go_simp; try with_reducible rfl)
                  simp only [Act.put, List.setIfInBounds_toArray, List.set_cons_zero, List.set_cons_succ]
                  refine wpL_yield (v := ?_) rfl (fun w' hS => ?_) ?_
                  rotate_left
                  · (obtain ⟨_, hS⟩ := hS; obtain ⟨c0, c1, c2, c3, _⟩ := wal_cells hS; go_simp; try with_reducible rfl)
                  simp only [Act.put, List.setIfInBounds_toArray, List.set_cons_zero, List.set_cons_succ]
                  refine wpL_yield (v := ?_) rfl (fun w' hS => ?_) ?_
                  rotate_left
                  · (obtain ⟨_, hS⟩ := hS; obtain ⟨c0, c1, c2, c3, _⟩ := wal_cells hS; go_simp; try with_reducible rfl)
                  simp only [Act.put, List.setIfInBounds_toArray, List.set_cons_zero, List.set_cons_succ]
                  refine wpL_yield (v := ?_) rfl (fun w' hS => ?_) ?_
                  rotate_left
                  · (obtain ⟨_, hS⟩ := hS; obtain ⟨c0, c1, c2, c3, _⟩ := wal_cells hS; go_simp; try with_reducible rfl)
                  simp only [Act.put, List.setIfInBounds_toArray, List.set_cons_zero, List.set_cons_succ]
                  refine wpL_eff rfl ?_
                  go_simp
                  refine (write_to h6.drew.pull3 Hwr.out (BytesIn.tells _ _ (by rw [hl64])) (by omega)).mono ?_
                  rintro e w8 ⟨rfl, h8⟩
                  have h9 : Bears w8 (walObj x p at' size g * (diskA p d2 * R)) := (h8.pull2.right).cast (by ac_rfl)
                  refine ⟨⟨_, h9⟩, ?_⟩
                  refine wpL_nil ?_
                  refine wpL_yield (v := ?_) rfl (fun w' hS => ?_) ?_
                  rotate_left
                  · (go_simp; try with_reducible rfl)
                  simp only [Act.put, List.setIfInBounds_toArray, List.set_cons_zero, List.set_cons_succ]
                  refine wpL_nil ?_
                  clear r1 r2 r3 r4 r5 h6 h6' h8
                  by_cases hr0 : r = 0
                  · subst hr0
                    clear Hwr
                    go_wp2_with fail
                    go_roundw
                    case rel => exact ⟨c + 1, hcl, by go_num, d2, HS2.out, h9⟩
                    case measure => simp [intOf]; omega
                  · have Hfin := Lib.hid (wCommit_lists (g := g) Hmay.out Hdk.out HS2.out hr0 (by omega))
                    clear Hwr
                    go_wp2_with fail
                    go_ret
                    rw [Hfin.out]
                    exact ⟨rfl, h9⟩
            · have q0 : (l.length : Int) ≤ (32 : Int) * (c : Int) + 32 := by omega
              have q9 : decide (32 * (c : Int) < (l.length : Int)) = true := by rw [decide_eq_true_eq]; omega
              have hN : l.length - 32 * c = min 32 (l.length - 32 * c) := by omega
              have HN := Lib.hid hN
              clear hN
              go_wp2_with fail
              generalize wr.heap.size = zb at h5
              try rw [Nat.add_sub_cancel_left]
              go_loopw [68] (fun i wr' => ∃ k : Nat, k ≤ l.length - 32 * c ∧ i = .int .i64 k ∧ Bears wr' (Assn.obj zb (.cells (cellsV (wListTo l c k)).toArray 5 (0, 0)) * (walObj x p at' size g * (diskA p dm * R)))) (fun i _ => l.length - 32 * c - (intOf i).toNat)
              case atStart => exact ⟨0, by omega, rfl, h5⟩
              case round =>
                obtain ⟨k, hk2, rfl, h6⟩ := hrel
                by_cases hlt2 : k < l.length - 32 * c
                · obtain ⟨b', o', he, q1, q2, _⟩ := (hl _ h6.right.right.right).cells (k := 32 * c + k) (by omega)
                  cases he
                  have e2 : o + (32 * c + k) * 2 = o + 32 * c * 2 + k * 2 := by omega
                  rw [e2] at q1 q2
                  have hsu := wListTo_succ (l := l) (c := c) (k := k) (by omega) (by omega)
                  have hlen64 : (wListTo l c k).length = 64 := wListTo_length (by omega) (by omega)
                  generalize hcc : l.getD (32 * c + k) default = pt at q1 q2 hsu
                  obtain ⟨sec, bs, ad', cap'⟩ := pt
                  simp only [PutM.val] at q1 q2 hsu
                  have h7 := h6.alloc (.cells #[.int .i64 sec, .slice ad' bs.length cap'] 115)
                  have Hsu := Lib.hid hsu
                  clear hcc hsu e2
                  go_wp2_with fail
                  generalize wr.heap.size = pc at h7
                  generalize wr.alloc (.cells #[.int .i64 sec, .slice ad' bs.length cap'] 115) = w7 at h7
                  have r1 : IntKind.i64.wrap (2 * (k : Int)) = 2 * (k : Int) := IntWalk.i64_in _ (by omega)
                  have r2 : IntKind.i64.wrap (2 * (k : Int) + 2) = 2 * (k : Int) + 2 := IntWalk.i64_in _ (by omega)
                  refine wp_region_L (fun w' => ∃ Q, Bears w' (Assn.obj pc (.cells #[.int .i64 sec, .slice ad' bs.length cap'] 115 (0, 0)) * Q)) 13
                    [(true, 0), (true, 1), (true, 2), (true, 3), (true, 4), (true, 5), (true, 6), (true, 7), (true, 8), (true, 9), (true, 10), (true, 11), (false, 12)] [] (by kernel_rfl) (by kernel_rfl) ⟨_, h7.drew⟩ ?_
                  simp only [pick, List.getElem?_cons_zero, List.getElem?_cons_succ]
                  refine wpL_yield (v := ?_) rfl (fun w' hS => ?_) ?_
                  rotate_left
                  · (go_simp; try with_reducible rfl)
                  simp only [Act.put, List.setIfInBounds_toArray, List.set_cons_zero, List.set_cons_succ]
                  refine wpL_yield (v := ?_) rfl (fun w' hS => ?_) ?_
                  rotate_left
                  · (go_simp; try with_reducible rfl)
                  simp only [Act.put, List.setIfInBounds_toArray, List.set_cons_zero, List.set_cons_succ]
                  refine wpL_yield (v := ?_) rfl (fun w' hS => ?_) ?_
                  rotate_left
                  · (go_simp; try with_reducible rfl)
                  simp only [Act.put, List.setIfInBounds_toArray, List.set_cons_zero, List.set_cons_succ]
                  refine wpL_yield (v := ?_) rfl (fun w' hS => ?_) ?_
                  rotate_left
                  · (go_simp; try with_reducible rfl)
                  simp only [Act.put, List.setIfInBounds_toArray, List.set_cons_zero, List.set_cons_succ]
                  refine wpL_yield (v := ?_) rfl (fun w' hS => ?_) ?_
                  rotate_left
                  · (go_simp; try with_reducible rfl)
                  simp only [Act.put, List.setIfInBounds_toArray, List.set_cons_zero, List.set_cons_succ]
                  refine wpL_yield (v := ?_) rfl (fun w' hS => ?_) ?_
                  rotate_left
                  · (go_simp; try with_reducible rfl)
                  simp only [Act.put, List.setIfInBounds_toArray, List.set_cons_zero, List.set_cons_succ]
                  refine wpL_yield (v := ?_) rfl (fun w' hS => ?_) ?_
                  rotate_left
                  · (go_simp; try with_reducible rfl)
                  simp only [Act.put, List.setIfInBounds_toArray, List.set_cons_zero, List.set_cons_succ]
                  refine wpL_yield (v := ?_) rfl (fun w' hS => ?_) ?_
                  rotate_left
                  · (go_simp; try with_reducible rfl)
                  simp only [Act.put, List.setIfInBounds_toArray, List.set_cons_zero, List.set_cons_succ]
                  refine wpL_yield (v := ?_) rfl (fun w' hS => ?_) ?_
                  rotate_left
                  · (go_simp; try with_reducible rfl)
                  simp only [Act.put, List.setIfInBounds_toArray, List.set_cons_zero, List.set_cons_succ]
                  have hz8 : ∀ w, (Go.sizeOf 5).run Tryz.prog w = .ok 1 w := fun w => by kernel_rfl
                  refine wpL_yield rfl (fun w' hS => exec_slice3 (lo := 2 * k) (hi := 2 * k + 2) (mx := 2 * k + 2) rfl Tryz.underlying34 (hz8 w') rfl (by go_simp) (by go_simp) (by go_simp) (by omega) (by omega) (by omega)) ?_
                  simp only [Act.put, List.setIfInBounds_toArray, List.set_cons_zero, List.set_cons_succ]
                  rw [show 2 * k + 2 - 2 * k = 2 by omega]
                  refine wpL_yield (v := ?_) rfl (fun w' hS => ?_) ?_
                  rotate_left
                  · (obtain ⟨_, hS⟩ := hS; obtain ⟨p0, p1⟩ := put_cells hS; go_simp; try with_reducible rfl)
                  simp only [Act.put, List.setIfInBounds_toArray, List.set_cons_zero, List.set_cons_succ]
                  refine wpL_yield (v := ?_) rfl (fun w' hS => ?_) ?_
                  rotate_left
                  · (obtain ⟨_, hS⟩ := hS; obtain ⟨p0, p1⟩ := put_cells hS; go_simp; try with_reducible rfl)
                  simp only [Act.put, List.setIfInBounds_toArray, List.set_cons_zero, List.set_cons_succ]
                  refine wpL_eff rfl ?_
                  go_simp
                  refine (number_any (o := 2 * k) (m := 2) h7.drew.pull2 sec (by rw [hlen64]; omega) (by decide)).mono ?_
                  rintro e w8 ⟨rfl, h8⟩
                  rw [Hsu.out] at h8
                  refine ⟨⟨_, h8.pull2⟩, ?_⟩
                  refine wpL_nil ?_
                  refine wpL_nil ?_
                  go_wp2_with fail
                  go_roundw
                  case rel => exact ⟨k + 1, hlt2, by go_num, h8.pull2.right⟩
                  case measure => simp [intOf]; omega
                · obtain rfl : k = l.length - 32 * c := by omega
                  rw [wList_eq HN.out] at h6
                  obtain ⟨r, d2, hwr⟩ : ∃ r d2, dm.write ((at' + 1 + c : Nat) : Int) (wList l c) = (r, d2) := ⟨_, _, rfl⟩
                  have hl64 : (wList l c).length = 64 := by rw [← wList_eq HN.out]; exact wListTo_length (by omega) (by omega)
                  have HS := Hsucc.out
                  rw [hwr] at HS
                  have e3 : ((at' + 1 + c : Nat) : Int) = (at' : Int) + 1 + (c : Int) := by omega
                  rw [e3] at hwr
                  have Hwr := Lib.hid hwr
                  have HS2 := Lib.hid HS
                  clear hwr HS e3
                  go_wp2_with fail
                  have r1 : IntKind.i64.wrap ((at' : Int) + 1) = (at' : Int) + 1 := IntWalk.i64_in _ (by omega)
                  have r2 : (32 * (c : Int)).tdiv 32 = (c : Int) := by rw [Int.tdiv_eq_ediv_of_nonneg (by omega)]; omega
                  have r3 : IntKind.i64.wrap (c : Int) = (c : Int) := IntWalk.i64_in _ (by omega)
                  have r4 : IntKind.i64.wrap ((at' : Int) + 1 + (c : Int)) = (at' : Int) + 1 + (c : Int) := IntWalk.i64_in _ (by omega)
                  have r5 : 32 * (c : Int) / 32 = (c : Int) := by omega
                  have h6' := h6.pull2
                  refine wp_region_L (fun w' => ∃ Q, Bears w' (walObj x p at' size g * Q)) 14
                    [(true, 0), (true, 1), (true, 2), (true, 3), (true, 4), (true, 5), (true, 6), (true, 7), (true, 8), (true, 9), (true, 10), (true, 11), (true, 12), (false, 13)] [(true, 14)] (by kernel_rfl) (by kernel_rfl) ⟨_, h6'.drew⟩ ?_
                  simp only [pick, List.getElem?_cons_zero, List.getElem?_cons_succ]
                  refine wpL_yield (v := ?_) rfl (fun w' hS => ?_) ?_
                  rotate_left
                  · (obtain ⟨_, hS⟩ := hS; obtain ⟨c0, c1, c2, c3, _⟩ := wal_cells hS; go_simp; try with_reducible rfl)
                  simp only [Act.put, List.setIfInBounds_toArray, List.set_cons_zero, List.set_cons_succ]
                  refine wpL_yield (v := ?_) rfl (fun w' hS => ?_) ?_
                  rotate_left
                  · (obtain ⟨_, hS⟩ := hS; obtain ⟨c0, c1, c2, c3, _⟩ := wal_cells hS; go_simp; try with_reducible rfl)
                  simp only [Act.put, List.setIfInBounds_toArray, List.set_cons_zero, List.set_cons_succ]
                  refine wpL_yield (v := ?_) rfl (fun w' hS => ?_) ?_
                  rotate_left
                  · (obtain ⟨_, hS⟩ := hS; obtain ⟨c0, c1, c2, c3, _⟩ := wal_cells hS; go_simp; try with_reducible rfl)
                  simp only [Act.put, List.setIfInBounds_toArray, List.set_cons_zero, List.set_cons_succ]
                  refine wpL_yield (v := ?_) rfl (fun w' hS => ?_) ?_
                  rotate_left
                  · (obtain ⟨_, hS⟩ := hS; obtain ⟨c0, c1, c2, c3, _⟩ := wal_cells hS; go_simp; try with_reducible rfl)
                  simp only [Act.put, List.setIfInBounds_toArray, List.set_cons_zero, List.set_cons_succ]
                  refine wpL_yield (v := ?_) rfl (fun w' hS => ?_) ?_
                  rotate_left
                  · (obtain ⟨_, hS⟩ := hS; obtain ⟨c0, c1, c2, c3, _⟩ := wal_cells hS; go_simp; try with_reducible rfl)
                  simp only [Act.put, List.setIfInBounds_toArray, List.set_cons_zero, List.set_cons_succ]
                  refine wpL_yield (v := ?_) rfl (fun w' hS => ?_) ?_
                  rotate_left
                  · (obtain ⟨_, hS⟩ := hS; obtain ⟨c0, c1, c2, c3, _⟩ := wal_cells hS; go_simp; try with_reducible rfl)
                  simp only [Act.put, List.setIfInBounds_toArray, List.set_cons_zero, List.set_cons_succ]
                  refine wpL_yield (v := ?_) rfl (fun w' hS => ?_) ?_
                  rotate_left
                  · (obtain ⟨_, hS⟩ := hS; obtain ⟨c0, c1, c2, c3, _⟩ := wal_cells hS; go_simp; try with_reducible rfl)
                  simp only [Act.put, List.setIfInBounds_toArray, List.set_cons_zero, List.set_cons_succ]
                  refine wpL_yield (v := ?_) rfl (fun w' hS => ?_) ?_
                  rotate_left
                  · (obtain ⟨_, hS⟩ := hS; obtain ⟨c0, c1, c2, c3, _⟩ := wal_cells hS; go_simp; try with_reducible rfl)
                  simp only [Act.put, List.setIfInBounds_toArray, List.set_cons_zero, List.set_cons_succ]
                  refine wpL_yield (v := ?_) rfl (fun w' hS => ?_) ?_
                  rotate_left
                  · (obtain ⟨_, hS⟩ := hS; obtain ⟨c0, c1, c2, c3, _⟩ := wal_cells hS; go_simp; try with_reducible rfl)
                  simp only [Act.put, List.setIfInBounds_toArray, List.set_cons_zero, List.set_cons_succ]
                  refine wpL_yield (v := ?_) rfl (fun w' hS => ?_) ?_
                  rotate_left
                  · (obtain ⟨_, hS⟩ := hS; obtain ⟨c0, c1, c2, c3, _⟩ := wal_cells hS; go_simp; try with_reducible rfl)
                  simp only [Act.put, List.setIfInBounds_toArray, List.set_cons_zero, List.set_cons_succ]
                  refine wpL_yield (v := ?_) rfl (fun w' hS => ?_) ?_
                  rotate_left
                  · (obtain ⟨_, hS⟩ := hS; obtain ⟨c0, c1, c2, c3, _⟩ := wal_cells hS; go_simp; try with_reducible rfl)
                  simp only [Act.put, List.setIfInBounds_toArray, List.set_cons_zero, List.set_cons_succ]
                  refine wpL_yield (v := ?_) rfl (fun w' hS => ?_) ?_
                  rotate_left
                  · (obtain ⟨_, hS⟩ := hS; obtain ⟨c0, c1, c2, c3, _⟩ := wal_cells hS; go_simp; try with_reducible rfl)
                  simp only [Act.put, List.setIfInBounds_toArray, List.set_cons_zero, List.set_cons_succ]
                  refine wpL_yield (v := ?_) rfl (fun w' hS => ?_) ?_
                  rotate_left
                  · (obtain ⟨_, hS⟩ := hS; obtain ⟨c0, c1, c2, c3, _⟩ := wal_cells hS; go_simp; try with_reducible rfl)
                  simp only [Act.put, List.setIfInBounds_toArray, List.set_cons_zero, List.set_cons_succ]
                  refine wpL_eff rfl ?_
                  go_simp
                  refine (write_to h6.drew.pull3 Hwr.out (BytesIn.tells _ _ (by rw [hl64])) (by omega)).mono ?_
                  rintro e w8 ⟨rfl, h8⟩
                  have h9 : Bears w8 (walObj x p at' size g * (diskA p d2 * R)) := (h8.pull2.right).cast (by ac_rfl)
                  refine ⟨⟨_, h9⟩, ?_⟩
                  refine wpL_nil ?_
                  refine wpL_yield (v := ?_) rfl (fun w' hS => ?_) ?_
                  rotate_left
                  · (go_simp; try with_reducible rfl)
                  simp only [Act.put, List.setIfInBounds_toArray, List.set_cons_zero, List.set_cons_succ]
                  refine wpL_nil ?_
                  clear r1 r2 r3 r4 r5 h6 h6' h8
                  by_cases hr0 : r = 0
                  · subst hr0
                    clear Hwr
                    go_wp2_with fail
                    go_roundw
                    case rel => exact ⟨c + 1, hcl, by go_num, d2, HS2.out, h9⟩
                    case measure => simp [intOf]; omega
                  · have Hfin := Lib.hid (wCommit_lists (g := g) Hmay.out Hdk.out HS2.out hr0 (by omega))
                    clear Hwr
                    go_wp2_with fail
                    go_ret
                    rw [Hfin.out]
                    exact ⟨rfl, h9⟩
          · have hcl : c = listsN l.length := by unfold listsN at hc ⊢; omega
            obtain ⟨r, db, hbo⟩ : ∃ r db, wBoth dm at' size (wrap64 (g + 1)) l.length = (r, db) := ⟨_, _, rfl⟩
            rw [hcl] at hdm
            have Hfin := Lib.hid (wCommit_both (g := g) Hmay.out Hdk.out hdm hbo)
            have Hbo := Lib.hid hbo
            obtain ⟨c0, c1, c2, c3, f3⟩ := wal_cells h4
            have h5 : Bears (wr.setCell ⟨x, 3, none⟩ (.int .i64 (wrap64 (g + 1)))) (walObj x p at' size (wrap64 (g + 1)) * (diskA p dm * R)) := h4.setCell (i := 3) (.int .i64 (wrap64 (g + 1)))
            clear hdm hbo
            go_wp2_with fail
            refine (both_any h5 l.length (by omega)).mono ?_
            rintro e w5 ⟨rfl, h6⟩
            rw [Hbo.out] at h6 ⊢
            by_cases hr0 : r = 0
            · subst hr0
              by_cases hn0 : l.length = 0
              · have HF := Hfin.out
                rw [if_pos (.inr hn0)] at HF
                have HF2 := Lib.hid HF
                have n0 : ((l.length : Int) == 0) = true := by rw [beq_iff_eq]; omega
                clear HF Hfin
                go_wp2_with fail
                go_ret
                rw [HF2.out]
                exact ⟨rfl, h6⟩
              · have HF := Hfin.out
                rw [if_neg (by simp [hn0])] at HF
                have HF2 := Lib.hid HF
                have n0 : ((l.length : Int) == 0) = false := by rw [beq_eq_false_iff_ne]; omega
                have hwb : db.waits.length ≤ dm.waits.length + 1 := by have := wBoth_waits dm at' size (wrap64 (g + 1)) l.length; rw [Hbo.out] at this; exact this
                clear HF Hfin
                go_wp2_with fail
                refine (finish_any h6 l.length (by omega) hll ha hs).mono ?_
                rintro e w6 ⟨rfl, h7⟩
                go_wp2_with fail
                go_ret
                rw [HF2.out]
                exact ⟨rfl, h7⟩
            · have HF := Hfin.out
              rw [if_pos (.inl hr0)] at HF
              have HF2 := Lib.hid HF
              clear HF Hfin
              go_wp2_with fail
              go_ret
              rw [HF2.out]
              exact ⟨rfl, h6⟩
  · have hmay : wMay d.len at' size l = false := by simpa using hmay
    rw [wCommit_no hmay]
    have Hmay := Lib.hid hmay
    clear hmay
    go_enter Tryz.func91, Tryz.ntmps91
    go_wp2_with fail
    refine (may_any h l ad cap hl hlen ha hs).mono ?_
    rintro e w1 ⟨rfl, h1⟩
    rw [Hmay.out]
    go_wp2_with fail
    go_ret
    exact ⟨rfl, h1⟩

theorem groups_any {x p at' size : Nat} {g : Int} {R : Assn} {w : World} (h : Bears w (walObj x p at' size g * R)) :
    Calls Tryz.prog 60 #[.pointer (some ⟨x, 0, none⟩)] w fun e w' => e = .returned (.int .i64 g) ∧ w = w' := by
  obtain ⟨c0, c1, c2, c3, _⟩ := wal_cells h
  go_enter Tryz.func60, Tryz.ntmps60
  go_wp2
  go_ret
  exact ⟨rfl, rfl⟩

end Go.Proofs.YtcggloceabjjdaaGreat

/- The cache: how it lies in memory; no condition. -/
namespace Go.Proofs.YtcggloceabjjdaaGreat
open Go.RowKit Go.MapKept

/-- The map of the bytes that are held. -/
structure HasMap (Y : Assn) (hl : List (Int × Value)) (ls : List LineM) : Prop where
  no : ∀ i, findL i ls = none → getL i hl = none
  yes : ∀ i x, findL i ls = some x → ∃ ad cap, getL i hl = some (.slice ad x.b.length cap) ∧ Y.Tells (fun w => BytesIn w (.slice ad x.b.length cap) x.b)
/-- The map of the pinned places. -/
structure PinMap (pl : List (Int × Value)) (ls : List LineM) : Prop where
  has : ∀ i, (getL i pl).isSome = (match findL i ls with | some x => x.pin | none => false)
  count : pl.length = (ls.filter (·.pin)).length
def orderV (ls : List LineM) : List Value := ls.map fun x => .int .i64 x.at'

abbrev cacheObj (c p x : Nat) (cm : CacheM) (hb pb : Nat) (ov : Value) : Assn :=
  Assn.obj c (.cells #[.pointer (some ⟨p, 0, none⟩), .pointer (some ⟨x, 0, none⟩), .int .i64 cm.most, .int .i64 cm.misses, .bool cm.isOpen, .map (some hb), .map (some pb), ov] 105 (0, 0))

/-- How a cache lies in memory (its disk and its log lie beside). -/
def cacheA (c p x : Nat) (cm : CacheM) : Assn :=
  Assn.ex fun (z : Nat × Nat × Value × List (Int × Value) × List (Int × Value) × Assn) =>
    Assn.fact (cm.WF ∧ HasMap z.2.2.2.2.2 z.2.2.2.1 cm.lines ∧ PinMap z.2.2.2.2.1 cm.lines) *
    (cacheObj c p x cm z.1 z.2.1 z.2.2.1 * (mapA z.1 z.2.2.2.1 * (mapA z.2.1 z.2.2.2.2.1 * (rowA 3 1 z.2.2.1 cm.lines.length (orderV cm.lines) * z.2.2.2.2.2))))

theorem Bears.cache {w : World} {c p x : Nat} {cm : CacheM} {R : Assn} : Bears w (cacheA c p x cm * R) ↔ ∃ hb pb ov hl pl Y, cm.WF ∧ HasMap Y hl cm.lines ∧ PinMap pl cm.lines ∧
    Bears w (cacheObj c p x cm hb pb ov * (mapA hb hl * (mapA pb pl * (rowA 3 1 ov cm.lines.length (orderV cm.lines) * (Y * R))))) := by
  unfold cacheA
  rw [Bears.ex]
  simp only [Assn.mul_assoc']
  constructor
  · rintro ⟨⟨hb, pb, ov, hl, pl, Y⟩, h⟩
    obtain ⟨⟨h1, h2, h3⟩, h⟩ := Bears.fact.1 h
    exact ⟨hb, pb, ov, hl, pl, Y, h1, h2, h3, h⟩
  · rintro ⟨hb, pb, ov, hl, pl, Y, h1, h2, h3, h⟩
    exact ⟨⟨hb, pb, ov, hl, pl, Y⟩, Bears.fact.2 ⟨⟨h1, h2, h3⟩, h⟩⟩

end Go.Proofs.YtcggloceabjjdaaGreat

/- Walks of the cache's functions, part 1: New, Begin, Pinned, Misses; where a number stands in a row; no condition. -/
namespace Go.Proofs.YtcggloceabjjdaaGreat
open Go.RowKit Go.MapKept

def CacheM.new (most : Int) : CacheM := ⟨most, 0, false, []⟩

set_option maxHeartbeats 400000 in
theorem cnew_ok {R : Assn} {w : World} (h : Bears w R) (p x : Nat) (most : Int) (h1 : 1 ≤ most) (h2 : most ≤ 9223372036854775807) :
    Calls Tryz.prog 41 #[.pointer (some ⟨p, 0, none⟩), .pointer (some ⟨x, 0, none⟩), .int .i64 most] w fun e w' => ∃ c, e = .returned (.tuple #[.pointer (some ⟨c, 0, none⟩), .int .i64 0]) ∧ Bears w' (cacheA c p x (CacheM.new most) * R) := by
  have hmm := @run_makeMap Tryz.prog
  go_enter Tryz.func41, Tryz.ntmps41
  go_wp2
  go_ret2
  have h3 := (h.alloc (.map #[] 0)).toMapA (l := []) ⟨rfl, stamped_empty 0⟩
  have h4 := (h3.alloc (.map #[] 0)).toMapA (l := []) ⟨rfl, stamped_empty 0⟩
  have h5 := h4.alloc (.cells #[.pointer (some ⟨p, 0, none⟩), .pointer (some ⟨x, 0, none⟩), .int .i64 most, .int .i64 0, .bool false, .map (some w.heap.size), .map (some (w.heap.size + 1)), .slice none 0 0] 105)
  refine ⟨w.heap.size + 1 + 1, rfl, Bears.cache.2 ⟨w.heap.size, w.heap.size + 1, .slice none 0 0, [], [], Assn.emp, ⟨by simp [CacheM.new], by simp [CacheM.new], ⟨h1, h2⟩, by simp [CacheM.new], by simp [CacheM.new], by simp [CacheM.new]⟩, ⟨fun i _ => rfl, fun i x hx => by simp [CacheM.new, findL] at hx⟩, ⟨fun i => rfl, rfl⟩, ?_⟩⟩
  have h6 := Bears.pull2 ((Bears.nilRow (e := 3) (size := 1)).2 h5)
  refine h6.cast ?_
  simp only [CacheM.new, orderV, List.length_nil, List.map_nil, Assn.emp_mul, cacheObj]
  simp
  ac_rfl

theorem cache_cells {w : World} {c p x : Nat} {cm : CacheM} {hb pb : Nat} {ov : Value} {R : Assn} (h : Bears w (cacheObj c p x cm hb pb ov * R)) :
    (w.cell? ⟨c, 0, none⟩ = some (.pointer (some ⟨p, 0, none⟩)) ∧ w.cell? ⟨c, 1, none⟩ = some (.pointer (some ⟨x, 0, none⟩)) ∧ w.cell? ⟨c, 2, none⟩ = some (.int .i64 cm.most) ∧ w.cell? ⟨c, 3, none⟩ = some (.int .i64 cm.misses) ∧
      w.cell? ⟨c, 4, none⟩ = some (.bool cm.isOpen) ∧ w.cell? ⟨c, 5, none⟩ = some (.map (some hb)) ∧ w.cell? ⟨c, 6, none⟩ = some (.map (some pb)) ∧ w.cell? ⟨c, 7, none⟩ = some ov) ∧ ∀ i, w.frozen? ⟨c, i, none⟩ = false :=
  ⟨⟨cell_of_obj h.obj 0, cell_of_obj h.obj 1, cell_of_obj h.obj 2, cell_of_obj h.obj 3, cell_of_obj h.obj 4, cell_of_obj h.obj 5, cell_of_obj h.obj 6, cell_of_obj h.obj 7⟩, fun i => frozen_of_obj h.obj i⟩

def CacheM.begins (c : CacheM) : Int × CacheM := if c.isOpen = true then (30, c) else (0, { c with isOpen := true })

/-- Where a number stands first. -/
def idxL (i : Int) : List Int → Option Nat
  | [] => none
  | x :: r => if x = i then some 0 else (idxL i r).map (· + 1)

end Go.Proofs.YtcggloceabjjdaaGreat

/- Walks of the cache's functions, part 2: where a number stands in a row; no condition. -/
namespace Go.Proofs.YtcggloceabjjdaaGreat
open Go.RowKit Go.MapKept

theorem idxL_none {i : Int} : ∀ {l : List Int}, idxL i l = none ↔ i ∉ l
  | [] => by simp [idxL]
  | x :: r => by
    simp only [idxL]
    by_cases h : x = i
    · simp [h]
    · rw [if_neg h]
      have := idxL_none (i := i) (l := r)
      simp [this, Ne.symm h]
theorem idxL_some {i : Int} : ∀ {l : List Int} {k : Nat}, k < l.length → l.getD k 0 = i → (∀ j, j < k → l.getD j 0 ≠ i) → idxL i l = some k
  | [], _, h, _, _ => absurd h (by simp)
  | x :: r, 0, _, h, _ => by
    simp only [List.getD_cons_zero] at h
    simp [idxL, h]
  | x :: r, k + 1, h, h1, h2 => by
    have hx : x ≠ i := by have := h2 0 (by omega); simpa using this
    simp only [idxL]
    rw [if_neg hx, idxL_some (k := k) (by simpa using h) (by simpa using h1) (fun j hj => by have := h2 (j + 1) (by omega); simpa using this)]
    rfl
def idxV (i : Int) (l : List Int) : Int := match idxL i l with | some k => (k : Int) | none => -1
abbrev intsV (l : List Int) : List Value := l.map (Value.int .i64)

theorem Bears.rowObj' {w : World} {e : TypeId} {g c : Nat} {l : List Int} {R : Assn} (h : Bears w (rowA e 1 (.slice (some ⟨g, 0, none⟩) l.length c) l.length (intsV l) * R)) {k : Nat} (hk : k < l.length) :
    w.cell? ⟨g, k, none⟩ = some (.int .i64 (l.getD k 0)) := by
  obtain ⟨_, h⟩ := h.row
  rcases h with ⟨h, _⟩ | ⟨g', cap, cur, hv, _, hg, hn, hm, hs, ht⟩
  · cases h
  · simp only [Value.slice.injEq, Option.some.injEq, Addr.mk.injEq] at hv
    obtain ⟨⟨rfl, _⟩, _, rfl⟩ := hv
    rw [cell_of_obj hg]
    have e1 : cur[k]? = (cur.toList.take (l.length * 1))[k]? := by rw [List.getElem?_take_of_lt (by omega)]; simp
    rw [e1, ht]
    simp [hk]

set_option maxRecDepth 100000 in
set_option maxHeartbeats 400000 in
theorem sindex_any {ov : Value} {n : Nat} {l : List Int} {R : Assn} {w : World} (h : Bears w (rowA 3 1 ov n (intsV l) * R)) (hn : n = l.length) (i : Int) :
    Calls Tryz.prog 100 #[ov, .int .i64 i] w fun e w' => e = .returned (.int .i64 (idxV i l)) ∧ w = w' := by
  subst hn
  obtain ⟨a, c, rfl, hc, hm, hr⟩ := h.rowForm
  have hl63 : l.length ≤ 9223372036854775807 := by unfold maxLen at hm; omega
  go_enter Tryz.func100, Tryz.ntmps100
  go_wp2_with fail
  go_loopw [8] (fun t8 wr => ∃ k : Nat, k ≤ l.length ∧ t8 = .int .i64 k ∧ (∀ j, j < k → l.getD j 0 ≠ i) ∧ wr = w) (fun t8 _ => l.length - (intOf t8).toNat)
  case atStart => exact ⟨0, by omega, rfl, fun j hj => absurd hj (by omega), rfl⟩
  case round =>
    obtain ⟨k, hk, rfl, hno, rfl⟩ := hrel
    by_cases hlt : k < l.length
    · obtain ⟨g, rfl, _⟩ := hr k hlt
      have hcell := (Bears.rowObj' h hlt)
      obtain ⟨z, hz⟩ : ∃ z, l.getD k 0 = z := ⟨_, rfl⟩
      rw [hz] at hcell
      have Hz := Lib.hid hz
      have Hno := Lib.hid hno
      clear hz hno hr
      by_cases he : i = z
      · subst he
        go_wp2_with fail
        go_ret
        refine ⟨?_, rfl⟩
        unfold idxV
        rw [idxL_some hlt Hz.out Hno.out]
        rfl
      · have he1 : (i == z) = false := by rw [beq_eq_false_iff_ne]; exact he
        go_wp2_with fail
        go_roundw
        case rel =>
          refine ⟨k + 1, by omega, by go_num, fun j hj => ?_, by first | rfl | trivial⟩
          rcases Nat.lt_succ_iff_lt_or_eq.1 hj with hj | rfl
          · exact Hno.out j hj
          · rw [Hz.out]; exact Ne.symm he
        case measure => simp [intOf]; omega
    · obtain rfl : k = l.length := by omega
      have hi : idxL i l = none := by
        rw [idxL_none]
        intro hm
        obtain ⟨j, hj, rfl⟩ := List.mem_iff_getElem.1 hm
        exact hno j hj (by simp [hj])
      have Hi := Lib.hid hi
      clear hi hno hr
      go_wp2_with fail
      go_ret
      refine ⟨?_, rfl⟩
      unfold idxV
      rw [Hi.out]
      rfl

end Go.Proofs.YtcggloceabjjdaaGreat

/-
  DERIVED: THE SHELF's CONTRACTS AT THIS DUMP, IN PLAIN WORDS (tools/lay-plain.mjs out of 'TryzShelf.lean', which tools/lay-shelf.mjs wrote): THE SAME DECLARATIONS UNDER THE SAME NAMES: 'import', 'namespace', 'open', 'def', 'theorem' AND NOTHING ELSE: no command of the shelf's: FOR A HAND-IN. Each laying: the table of numbers ('.._ren') and one theorem, a field a fact of the dump's own or the kernel's comparison; each contract: ONE APPLICATION.
-/
namespace Go.Proofs
open Go.Shelf
def Tryz.lays128_ren : Go.Shelf.Ren := ⟨fun | 128 => 120 | n => n, fun | 51 => 140 | 3 => 3 | 4 => 4 | 46 => 96 | 5 => 5 | 9 => 9 | n => n, fun | n => n⟩
theorem Tryz.lays128 : Go.Proofs.Lays.n128 Tryz.prog Tryz.lays128_ren := {
  mixed := by kernel_rfl
  f128 := Tryz.func120.trans (congrArg some (by kernel_rfl))
  t3 := Tryz.underlying3
  a3 := Tryz.isAgg3
  z3 := Tryz.sizeOf3
  v3 := Tryz.zeroValue3
  t4 := Tryz.underlying4
  a4 := Tryz.isAgg4
  z4 := Tryz.sizeOf4
  v4 := Tryz.zeroValue4
  t5 := Tryz.underlying5
  a5 := Tryz.isAgg5
  z5 := Tryz.sizeOf5
  v5 := Tryz.zeroValue5
  t9 := Tryz.underlying9
  a9 := Tryz.isAgg9
  z9 := Tryz.sizeOf9
  v9 := Tryz.zeroValue9
  t46 := Tryz.underlying96
  a46 := Tryz.isAgg96
  z46 := Tryz.sizeOf96
  v46 := Tryz.zeroValue96
  t51 := Tryz.underlying140
  a51 := Tryz.isAgg140
  z51 := Tryz.sizeOf140
  v51 := Tryz.zeroValue140 }
/-- bits.Len32: "Len32 returns the minimum number of bits required to represent x; the result is 0 for x == 0.": IT RETURNS 'Lib.bitLen x'; the world is as it was. ('h0', 'h1': x is a uint32.) (LAID: no walk: one application.) -/
theorem Tryz.bits_Len32 (x : Int) (w : World) (h0 : 0 ≤ x) (h1 : x ≤ 4294967295) :
    Calls Tryz.prog 120 #[.int .u32 x] w fun e w' => e = .returned (.int .i64 (Lib.bitLen x.toNat)) ∧ w' = w := Any.bits_Len32 Tryz.lays128 x w h0 h1
def Tryz.lays125_ren : Go.Shelf.Ren := ⟨fun | 125 => 110 | 128 => 120 | 129 => 121 | n => n, fun | 46 => 96 | 3 => 3 | 51 => 140 | 53 => 142 | 4 => 4 | 5 => 5 | 9 => 9 | n => n, fun | n => n⟩
theorem Tryz.lays125 : Go.Proofs.Lays.n125 Tryz.prog Tryz.lays125_ren := {
  mixed := by kernel_rfl
  f125 := Tryz.func110.trans (congrArg some (by kernel_rfl))
  f128 := Tryz.func120.trans (congrArg some (by kernel_rfl))
  f129 := Tryz.func121.trans (congrArg some (by kernel_rfl))
  t3 := Tryz.underlying3
  a3 := Tryz.isAgg3
  z3 := Tryz.sizeOf3
  v3 := Tryz.zeroValue3
  t4 := Tryz.underlying4
  a4 := Tryz.isAgg4
  z4 := Tryz.sizeOf4
  v4 := Tryz.zeroValue4
  t5 := Tryz.underlying5
  a5 := Tryz.isAgg5
  z5 := Tryz.sizeOf5
  v5 := Tryz.zeroValue5
  t9 := Tryz.underlying9
  a9 := Tryz.isAgg9
  z9 := Tryz.sizeOf9
  v9 := Tryz.zeroValue9
  t46 := Tryz.underlying96
  a46 := Tryz.isAgg96
  z46 := Tryz.sizeOf96
  v46 := Tryz.zeroValue96
  t51 := Tryz.underlying140
  a51 := Tryz.isAgg140
  z51 := Tryz.sizeOf140
  v51 := Tryz.zeroValue140
  t53 := Tryz.underlying142
  a53 := Tryz.isAgg142
  z53 := Tryz.sizeOf142
  v53 := Tryz.zeroValue142 }
/-- bits.Len: "Len returns the minimum number of bits required to represent x; the result is 0 for x == 0.": IT RETURNS 'Lib.bitLen x'; the world is as it was. (A uint has 64 bits in the model.) ITS CALLEE bits.Len64 IS MET BY ITS OWN CONTRACT OFF THE SHELF (lay that first). (LAID: no walk: one application.) -/
theorem Tryz.bits_Len (x : Int) (w : World) (h0 : 0 ≤ x) (h1 : x ≤ 18446744073709551615) :
    Calls Tryz.prog 110 #[.int .u64 x] w fun e w' => e = .returned (.int .i64 (Lib.bitLen x.toNat)) ∧ w' = w := Any.bits_Len Tryz.lays125 x w h0 h1
def Tryz.lays135_ren : Go.Shelf.Ren := ⟨fun | 135 => 64 | n => n, fun | 5 => 5 | 3 => 3 | 9 => 9 | n => n, fun | n => n⟩
theorem Tryz.lays135 : Go.Proofs.Lays.n135 Tryz.prog Tryz.lays135_ren := {
  mixed := by kernel_rfl
  f135 := Tryz.func64.trans (congrArg some (by kernel_rfl))
  t3 := Tryz.underlying3
  a3 := Tryz.isAgg3
  z3 := Tryz.sizeOf3
  v3 := Tryz.zeroValue3
  t5 := Tryz.underlying5
  a5 := Tryz.isAgg5
  z5 := Tryz.sizeOf5
  v5 := Tryz.zeroValue5
  t9 := Tryz.underlying9
  a9 := Tryz.isAgg9
  z9 := Tryz.sizeOf9
  v9 := Tryz.zeroValue9 }
/-- bits.OnesCount8: "OnesCount8 returns the number of one bits ("population count") in x.": IT RETURNS 'Lib.onesCount x'; the world is as it was. ('h0', 'h1': x is a uint8.) (LAID: no walk: one application.) -/
theorem Tryz.bits_OnesCount8 (x : Int) (w : World) (h0 : 0 ≤ x) (h1 : x ≤ 255) :
    Calls Tryz.prog 64 #[.int .u8 x] w fun e w' => e = .returned (.int .i64 (Lib.onesCount x.toNat)) ∧ w' = w := Any.bits_OnesCount8 Tryz.lays135 x w h0 h1
def Tryz.lays136_ren : Go.Shelf.Ren := ⟨fun | 136 => 67 | n => n, fun | 5 => 5 | 3 => 3 | 9 => 9 | n => n, fun | n => n⟩
theorem Tryz.lays136 : Go.Proofs.Lays.n136 Tryz.prog Tryz.lays136_ren := {
  mixed := by kernel_rfl
  f136 := Tryz.func67.trans (congrArg some (by kernel_rfl))
  t3 := Tryz.underlying3
  a3 := Tryz.isAgg3
  z3 := Tryz.sizeOf3
  v3 := Tryz.zeroValue3
  t5 := Tryz.underlying5
  a5 := Tryz.isAgg5
  z5 := Tryz.sizeOf5
  v5 := Tryz.zeroValue5
  t9 := Tryz.underlying9
  a9 := Tryz.isAgg9
  z9 := Tryz.sizeOf9
  v9 := Tryz.zeroValue9 }
/-- bits.TrailingZeros8: "TrailingZeros8 returns the number of trailing zero bits in x; the result is 8 for x == 0.": IT RETURNS 'Lib.trailingZeros8 x'; the world is as it was. ('h0', 'h1': x is a uint8.) (LAID: no walk: one application.) -/
theorem Tryz.bits_TrailingZeros8 (x : Int) (w : World) (h0 : 0 ≤ x) (h1 : x ≤ 255) :
    Calls Tryz.prog 67 #[.int .u8 x] w fun e w' => e = .returned (.int .i64 (Lib.trailingZeros8 x.toNat)) ∧ w' = w := Any.bits_TrailingZeros8 Tryz.lays136 x w h0 h1
def Tryz.lays215_ren : Go.Shelf.Ren := ⟨fun | 215 => 127 | n => n, fun | 3 => 3 | 4 => 4 | n => n, fun | n => n⟩
theorem Tryz.lays215 : Go.Proofs.Lays.n215 Tryz.prog Tryz.lays215_ren := {
  mixed := by kernel_rfl
  f215 := Tryz.func127.trans (congrArg some (by kernel_rfl))
  t3 := Tryz.underlying3
  a3 := Tryz.isAgg3
  z3 := Tryz.sizeOf3
  v3 := Tryz.zeroValue3
  t4 := Tryz.underlying4
  a4 := Tryz.isAgg4
  z4 := Tryz.sizeOf4
  v4 := Tryz.zeroValue4 }
open Go.RowKit in
/-- cmp.isNaN at int: 'x != x': false. (LAID: no walk: one application.) -/
theorem Tryz.cmp_isNaN_int (x : Int) (w : World) :
    Calls Tryz.prog 127 #[.int .i64 x] w fun e w' => e = .returned (.bool false) ∧ w' = w := Any.cmp_isNaN_int Tryz.lays215 x w
def Tryz.lays129_ren : Go.Shelf.Ren := ⟨fun | 129 => 121 | n => n, fun | 53 => 142 | 3 => 3 | 4 => 4 | 46 => 96 | 5 => 5 | 9 => 9 | n => n, fun | n => n⟩
theorem Tryz.lays129 : Go.Proofs.Lays.n129 Tryz.prog Tryz.lays129_ren := {
  mixed := by kernel_rfl
  f129 := Tryz.func121.trans (congrArg some (by kernel_rfl))
  t3 := Tryz.underlying3
  a3 := Tryz.isAgg3
  z3 := Tryz.sizeOf3
  v3 := Tryz.zeroValue3
  t4 := Tryz.underlying4
  a4 := Tryz.isAgg4
  z4 := Tryz.sizeOf4
  v4 := Tryz.zeroValue4
  t5 := Tryz.underlying5
  a5 := Tryz.isAgg5
  z5 := Tryz.sizeOf5
  v5 := Tryz.zeroValue5
  t9 := Tryz.underlying9
  a9 := Tryz.isAgg9
  z9 := Tryz.sizeOf9
  v9 := Tryz.zeroValue9
  t46 := Tryz.underlying96
  a46 := Tryz.isAgg96
  z46 := Tryz.sizeOf96
  v46 := Tryz.zeroValue96
  t53 := Tryz.underlying142
  a53 := Tryz.isAgg142
  z53 := Tryz.sizeOf142
  v53 := Tryz.zeroValue142 }
/-- bits.Len64: "Len64 returns the minimum number of bits required to represent x; the result is 0 for x == 0.": IT RETURNS 'Lib.bitLen x'; the world is as it was. ('h0', 'h1': x is a uint64.) (LAID: no walk: one application.) -/
theorem Tryz.bits_Len64 (x : Int) (w : World) (h0 : 0 ≤ x) (h1 : x ≤ 18446744073709551615) :
    Calls Tryz.prog 121 #[.int .u64 x] w fun e w' => e = .returned (.int .i64 (Lib.bitLen x.toNat)) ∧ w' = w := Any.bits_Len64 Tryz.lays129 x w h0 h1
def Tryz.lays108_ren : Go.Shelf.Ren := ⟨fun | 108 => 100 | n => n, fun | 28 => 50 | 3 => 3 | 0 => 0 | 4 => 4 | n => n, fun | n => n⟩
theorem Tryz.lays108 : Go.Proofs.Lays.n108 Tryz.prog Tryz.lays108_ren := {
  mixed := by kernel_rfl
  f108 := Tryz.func100.trans (congrArg some (by kernel_rfl))
  t0 := Tryz.underlying0
  a0 := Tryz.isAgg0
  z0 := Tryz.sizeOf0
  v0 := Tryz.zeroValue0
  t3 := Tryz.underlying3
  a3 := Tryz.isAgg3
  z3 := Tryz.sizeOf3
  v3 := Tryz.zeroValue3
  t4 := Tryz.underlying4
  a4 := Tryz.isAgg4
  z4 := Tryz.sizeOf4
  v4 := Tryz.zeroValue4
  t28 := Tryz.underlying50
  a28 := Tryz.isAgg50
  z28 := Tryz.sizeOf50
  v28 := Tryz.zeroValue50 }
open Go.Lib in
/-- slices.Index at []int: "Index returns the index of the first occurrence of v in s, or -1 if not present.": IT RETURNS 'Lib.idxOf (the elements) v'; the world is as it was. 'zs': what the cells behind the slice's address hold (its spare capacity too, if you have it); 'zs.take n': its elements. (LAID: no walk: one application.) -/
theorem Tryz.slices_Index_int (b off n c : Nat) (zs : List Int) (x : Int) (w : World) (hz : n ≤ zs.length) (hbig : n ≤ 9223372036854775807) (hc : ∀ j, j < zs.length → w.cell? ⟨b, off + j, none⟩ = some (.int .i64 (zs.getD j 0))) :
    Calls Tryz.prog 100 #[.slice (some ⟨b, off, none⟩) n c, .int .i64 x] w fun e w' => e = .returned (.int .i64 (Lib.idxOf (zs.take n) x)) ∧ w' = w := Any.slices_Index_int Tryz.lays108 b off n c zs x w hz hbig hc
open Go.Lib in
/-- The same at a slice of length 0, a nil one too: no cell is known, none is asked for. (LAID: no walk: one application.) -/
theorem Tryz.slices_Index_int_empty (a : Option Addr) (c : Nat) (x : Int) (w : World) :
    Calls Tryz.prog 100 #[.slice a 0 c, .int .i64 x] w fun e w' => e = .returned (.int .i64 (Lib.idxOf [] x)) ∧ w' = w := Any.slices_Index_int_empty Tryz.lays108 a c x w
def Tryz.laysNm237_ren : Go.Shelf.Ren := ⟨fun | 37 => 127 | n => n, fun | 3 => 3 | 4 => 4 | n => n, fun | n => n⟩
theorem Tryz.laysNm237 : Go.Proofs.Lays2.n37 Tryz.prog Tryz.laysNm237_ren := {
  mixed := by kernel_rfl
  f37 := Tryz.func127.trans (congrArg some (by kernel_rfl))
  t3 := Tryz.underlying3
  a3 := Tryz.isAgg3
  z3 := Tryz.sizeOf3
  v3 := Tryz.zeroValue3
  t4 := Tryz.underlying4
  a4 := Tryz.isAgg4
  z4 := Tryz.sizeOf4
  v4 := Tryz.zeroValue4 }
open Go.RowKit Go.Lib in
/-- cmp.isNaN[int]: 'x != x': false. (LAID: no walk: one application.) -/
theorem Tryz.cmp_isNaN_int2 (x : Int) (w : World) :
    Calls Tryz.prog 127 #[.int .i64 x] w fun e w' => e = .returned (.bool false) ∧ w' = w := Any.cmp_isNaN_int2 Tryz.laysNm237 x w
def Tryz.laysNm231_ren : Go.Shelf.Ren := ⟨fun | 31 => 117 | 37 => 127 | n => n, fun | 3 => 3 | 4 => 4 | n => n, fun | n => n⟩
theorem Tryz.laysNm231 : Go.Proofs.Lays2.n31 Tryz.prog Tryz.laysNm231_ren := {
  mixed := by kernel_rfl
  f31 := Tryz.func117.trans (congrArg some (by kernel_rfl))
  f37 := Tryz.func127.trans (congrArg some (by kernel_rfl))
  t3 := Tryz.underlying3
  a3 := Tryz.isAgg3
  z3 := Tryz.sizeOf3
  v3 := Tryz.zeroValue3
  t4 := Tryz.underlying4
  a4 := Tryz.isAgg4
  z4 := Tryz.sizeOf4
  v4 := Tryz.zeroValue4 }
open Go.RowKit Go.Lib in
/-- cmp.Less[int]: "Less reports whether x is less than y.": 'x < y'; the world is as it was. (LAID: no walk: one application.) -/
theorem Tryz.cmp_Less_int2 (x y : Int) (w : World) :
    Calls Tryz.prog 117 #[.int .i64 x, .int .i64 y] w fun e w' => e = .returned (.bool (decide (x < y))) ∧ w' = w := Any.cmp_Less_int2 Tryz.laysNm231 x y w
def Tryz.laysNm223_ren : Go.Shelf.Ren := ⟨fun | 23 => 101 | n => n, fun | 22 => 50 | 3 => 3 | 4 => 4 | 0 => 0 | n => n, fun | n => n⟩
theorem Tryz.laysNm223 : Go.Proofs.Lays2.n23 Tryz.prog Tryz.laysNm223_ren := {
  mixed := by kernel_rfl
  f23 := Tryz.func101.trans (congrArg some (by kernel_rfl))
  t0 := Tryz.underlying0
  a0 := Tryz.isAgg0
  z0 := Tryz.sizeOf0
  v0 := Tryz.zeroValue0
  t3 := Tryz.underlying3
  a3 := Tryz.isAgg3
  z3 := Tryz.sizeOf3
  v3 := Tryz.zeroValue3
  t4 := Tryz.underlying4
  a4 := Tryz.isAgg4
  z4 := Tryz.sizeOf4
  v4 := Tryz.zeroValue4
  t22 := Tryz.underlying50
  a22 := Tryz.isAgg50
  z22 := Tryz.sizeOf50
  v22 := Tryz.zeroValue50
  i3 := by kernel_rfl }
open Go.RowKit Go.Lib Go.Sort in
/-- slices.Delete at []int, over an array. (LAID: no walk: one application.) -/
theorem Tryz.slices_Delete_int_arr (blk off cap i j : Nat) (d : Array Int) (w : World) (hH : Holds encI w blk off d) (hcap : d.size ≤ cap) (hm : cap ≤ 9223372036854775807) (hij : i ≤ j) (hj : j ≤ d.size) :
    Calls Tryz.prog 101 #[.slice (some ⟨blk, off, none⟩) d.size cap, .int .i64 i, .int .i64 j] w fun e w' => e = .returned (.slice (some ⟨blk, off, none⟩) (d.size - (j - i)) cap) ∧ ∃ q, w' = putRow encI (Sort.ahead w q) blk off (d.toList.take i ++ d.toList.drop j ++ List.replicate (j - i) 0).toArray := Any.slices_Delete_int_arr Tryz.laysNm223 blk off cap i j d w hH hcap hm hij hj
open Go.RowKit Go.Lib Go.Sort in
/-- slices.Delete at []int: "Delete modifies s in place by removing the elements s[i:j], and returns the modified slice. Delete panics if j > len(s) or s[i:j] is not a valid slice of s. Delete is O(len(s)-i), so if many items must be deleted, it is better to make a single call deleting them all together than to delete one at a time. Delete zeroes the elements s[len(s)-(j-i):len(s)]. If the result is empty, it has the same nilness as s.": FOR i ≤ j ≤ len(s) IT RETURNS THE SLICE CUT TO len(s) - (j - i) ELEMENTS; ITS CELLS HOLD what stood ahead of i, what stood from j on, then j - i zero values; all else is as it was, but for the count of draws. IN THE WORDS OF slices.Sort's CONTRACT ('Holds', 'putRow'). It asks 'zs.length ≤ cap ≤ 2^63 - 1' (every slice's). (Outside i ≤ j ≤ len(s) it panics: no contract here.) (LAID: no walk: one application.) -/
theorem Tryz.slices_Delete_int (blk off cap i j : Nat) (zs : List Int) (w : World) (hH : Holds (Value.int .i64) w blk off zs.toArray) (hcap : zs.length ≤ cap) (hm : cap ≤ 9223372036854775807) (hij : i ≤ j) (hj : j ≤ zs.length) :
    Calls Tryz.prog 101 #[.slice (some ⟨blk, off, none⟩) zs.length cap, .int .i64 i, .int .i64 j] w fun e w' => e = .returned (.slice (some ⟨blk, off, none⟩) (zs.length - (j - i)) cap) ∧ ∃ q, w' = putRow (Value.int .i64) (Sort.ahead w q) blk off (zs.take i ++ zs.drop j ++ List.replicate (j - i) 0).toArray := Any.slices_Delete_int Tryz.laysNm223 blk off cap i j zs w hH hcap hm hij hj
open Go.RowKit Go.Lib Go.Sort in
/-- slices.Delete at []int, of an argument, for i ≤ j ≤ n: the slice cut to n - (j - i) elements; the n cells hold what stood ahead of i, what stood from j on, then zeros. (LAID: no walk: one application.) -/
theorem Tryz.slices_Delete_int_cells (b off n c i j : Nat) (zs : List Int) (w : World) (hz : n ≤ zs.length) (hcap : n ≤ c) (hm : c ≤ 9223372036854775807) (hij : i ≤ j) (hj : j ≤ n) (hc : ∀ j, j < zs.length → w.cell? ⟨b, off + j, none⟩ = some (.int .i64 (zs.getD j 0))) (hf : ∀ j, j < n → w.frozen? ⟨b, off + j, none⟩ = false) :
    Calls Tryz.prog 101 #[.slice (some ⟨b, off, none⟩) n c, .int .i64 i, .int .i64 j] w fun e w' => e = .returned (.slice (some ⟨b, off, none⟩) (n - (j - i)) c) ∧ ∃ q, w' = (w.drewN q).setCells b off (((zs.take n).take i ++ (zs.take n).drop j ++ List.replicate (j - i) 0).map (Value.int .i64)) := Any.slices_Delete_int_cells Tryz.laysNm223 b off n c i j zs w hz hcap hm hij hj hc hf
def Tryz.lays189_ren : Go.Shelf.Ren := ⟨fun | 189 => 103 | 125 => 110 | 257 => 109 | 128 => 120 | 129 => 121 | 294 => 111 | 295 => 112 | 296 => 113 | 297 => 114 | 298 => 115 | 299 => 116 | 216 => 117 | 300 => 118 | 301 => 119 | 328 => 122 | 329 => 123 | 330 => 124 | 331 => 125 | 332 => 126 | 215 => 127 | 343 => 128 | n => n, fun | 28 => 50 | 3 => 3 | 46 => 96 | 0 => 0 | 51 => 140 | 53 => 142 | 4 => 4 | 183 => 133 | 182 => 132 | 131 => 126 | 5 => 5 | 9 => 9 | 218 => 143 | 222 => 147 | 228 => 149 | 229 => 150 | n => n, fun | n => n⟩
theorem Tryz.lays189 : Go.Proofs.Lays.n189 Tryz.prog Tryz.lays189_ren := {
  mixed := by kernel_rfl
  f125 := Tryz.func110.trans (congrArg some (by kernel_rfl))
  f128 := Tryz.func120.trans (congrArg some (by kernel_rfl))
  f129 := Tryz.func121.trans (congrArg some (by kernel_rfl))
  f189 := Tryz.func103.trans (congrArg some (by kernel_rfl))
  f215 := Tryz.func127.trans (congrArg some (by kernel_rfl))
  f216 := Tryz.func117.trans (congrArg some (by kernel_rfl))
  f257 := Tryz.func109.trans (congrArg some (by kernel_rfl))
  f294 := Tryz.func111.trans (congrArg some (by kernel_rfl))
  f295 := Tryz.func112.trans (congrArg some (by kernel_rfl))
  f296 := Tryz.func113.trans (congrArg some (by kernel_rfl))
  f297 := Tryz.func114.trans (congrArg some (by kernel_rfl))
  f298 := Tryz.func115.trans (congrArg some (by kernel_rfl))
  f299 := Tryz.func116.trans (congrArg some (by kernel_rfl))
  f300 := Tryz.func118.trans (congrArg some (by kernel_rfl))
  f301 := Tryz.func119.trans (congrArg some (by kernel_rfl))
  f328 := Tryz.func122.trans (congrArg some (by kernel_rfl))
  f329 := Tryz.func123.trans (congrArg some (by kernel_rfl))
  f330 := Tryz.func124.trans (congrArg some (by kernel_rfl))
  f331 := Tryz.func125.trans (congrArg some (by kernel_rfl))
  f332 := Tryz.func126.trans (congrArg some (by kernel_rfl))
  f343 := Tryz.func128.trans (congrArg some (by kernel_rfl))
  t0 := Tryz.underlying0
  a0 := Tryz.isAgg0
  z0 := Tryz.sizeOf0
  v0 := Tryz.zeroValue0
  t3 := Tryz.underlying3
  a3 := Tryz.isAgg3
  z3 := Tryz.sizeOf3
  v3 := Tryz.zeroValue3
  t4 := Tryz.underlying4
  a4 := Tryz.isAgg4
  z4 := Tryz.sizeOf4
  v4 := Tryz.zeroValue4
  t5 := Tryz.underlying5
  a5 := Tryz.isAgg5
  z5 := Tryz.sizeOf5
  v5 := Tryz.zeroValue5
  t9 := Tryz.underlying9
  a9 := Tryz.isAgg9
  z9 := Tryz.sizeOf9
  v9 := Tryz.zeroValue9
  t28 := Tryz.underlying50
  a28 := Tryz.isAgg50
  z28 := Tryz.sizeOf50
  v28 := Tryz.zeroValue50
  t46 := Tryz.underlying96
  a46 := Tryz.isAgg96
  z46 := Tryz.sizeOf96
  v46 := Tryz.zeroValue96
  t51 := Tryz.underlying140
  a51 := Tryz.isAgg140
  z51 := Tryz.sizeOf140
  v51 := Tryz.zeroValue140
  t53 := Tryz.underlying142
  a53 := Tryz.isAgg142
  z53 := Tryz.sizeOf142
  v53 := Tryz.zeroValue142
  t131 := Tryz.underlying126
  a131 := Tryz.isAgg126
  z131 := Tryz.sizeOf126
  v131 := Tryz.zeroValue126
  t182 := Tryz.underlying132
  a182 := Tryz.isAgg132
  z182 := Tryz.sizeOf132
  v182 := Tryz.zeroValue132
  t183 := Tryz.underlying133
  a183 := Tryz.isAgg133
  z183 := Tryz.sizeOf133
  v183 := Tryz.zeroValue133
  t218 := Tryz.underlying143
  a218 := Tryz.isAgg143
  z218 := Tryz.sizeOf143
  v218 := Tryz.zeroValue143
  t222 := Tryz.underlying147
  a222 := Tryz.isAgg147
  z222 := Tryz.sizeOf147
  v222 := Tryz.zeroValue147
  t228 := Tryz.underlying149
  a228 := Tryz.isAgg149
  z228 := Tryz.sizeOf149
  v228 := Tryz.zeroValue149
  t229 := Tryz.underlying150
  a229 := Tryz.isAgg150
  z229 := Tryz.sizeOf150
  v229 := Tryz.zeroValue150 }
open Go.RowKit Go.Sort in
/-- .. and plain. (LAID: no walk: one application.) -/
theorem Tryz.slices_Sort_int_none (p : Option Addr) (cap : Nat) (w : World) :
    Calls Tryz.prog 103 #[.slice p 0 cap] w fun e w' => e = .returned (.tuple #[]) ∧ w' = w := Any.slices_Sort_int_none Tryz.lays189 p cap w
open Go.RowKit Go.Lib in
/-- slices.Delete at []int of no element ('Delete(s, 0, 0)'): s comes back; the world is as it was. (LAID: no walk: one application.) -/
theorem Tryz.slices_Delete_int_empty (a : Option Addr) (c : Nat) (w : World) :
    Calls Tryz.prog 101 #[.slice a 0 c, .int .i64 0, .int .i64 0] w fun e w' => e = .returned (.slice a 0 c) ∧ w' = w := Any.slices_Delete_int_empty Tryz.laysNm223 a c w
def Tryz.laysSlM5_f103_ren : Go.Shelf.Ren := ⟨fun | 5 => 103 | 8 => 110 | 7 => 109 | 19 => 120 | 20 => 121 | 10 => 111 | 11 => 112 | 12 => 113 | 13 => 114 | 14 => 115 | 15 => 116 | 16 => 117 | 17 => 118 | 18 => 119 | 30 => 122 | 31 => 123 | 32 => 124 | 33 => 125 | 34 => 126 | 35 => 127 | 40 => 128 | n => n, fun | 23 => 50 | 25 => 3 | 3 => 3 | 32 => 96 | 22 => 50 | 0 => 0 | 44 => 140 | 46 => 142 | 4 => 4 | 36 => 133 | 35 => 132 | 41 => 126 | 5 => 5 | 9 => 9 | 53 => 143 | 57 => 147 | 63 => 149 | 64 => 150 | n => n, fun | n => n⟩
theorem Tryz.laysSlM5_f103 : Go.Proofs.SlLaysM.n5 Tryz.prog Tryz.laysSlM5_f103_ren := {
  mixed := by kernel_rfl
  f5 := ⟨Tryz.f103.name, by decide, Tryz.func103.trans (congrArg some (by kernel_rfl))⟩
  f7 := ⟨Tryz.f109.name, by decide, Tryz.func109.trans (congrArg some (by kernel_rfl))⟩
  f8 := Tryz.func110.trans (congrArg some (by kernel_rfl))
  f10 := ⟨Tryz.f111.name, by decide, Tryz.func111.trans (congrArg some (by kernel_rfl))⟩
  f11 := ⟨Tryz.f112.name, by decide, Tryz.func112.trans (congrArg some (by kernel_rfl))⟩
  f12 := ⟨Tryz.f113.name, by decide, Tryz.func113.trans (congrArg some (by kernel_rfl))⟩
  f13 := ⟨Tryz.f114.name, by decide, Tryz.func114.trans (congrArg some (by kernel_rfl))⟩
  f14 := ⟨Tryz.f115.name, by decide, Tryz.func115.trans (congrArg some (by kernel_rfl))⟩
  f15 := ⟨Tryz.f116.name, by decide, Tryz.func116.trans (congrArg some (by kernel_rfl))⟩
  f16 := ⟨Tryz.f117.name, by decide, Tryz.func117.trans (congrArg some (by kernel_rfl))⟩
  f17 := ⟨Tryz.f118.name, by decide, Tryz.func118.trans (congrArg some (by kernel_rfl))⟩
  f18 := ⟨Tryz.f119.name, by decide, Tryz.func119.trans (congrArg some (by kernel_rfl))⟩
  f19 := Tryz.func120.trans (congrArg some (by kernel_rfl))
  f20 := Tryz.func121.trans (congrArg some (by kernel_rfl))
  f30 := ⟨Tryz.f122.name, by decide, Tryz.func122.trans (congrArg some (by kernel_rfl))⟩
  f31 := Tryz.func123.trans (congrArg some (by kernel_rfl))
  f32 := Tryz.func124.trans (congrArg some (by kernel_rfl))
  f33 := ⟨Tryz.f125.name, by decide, Tryz.func125.trans (congrArg some (by kernel_rfl))⟩
  f34 := ⟨Tryz.f126.name, by decide, Tryz.func126.trans (congrArg some (by kernel_rfl))⟩
  f35 := ⟨Tryz.f127.name, by decide, Tryz.func127.trans (congrArg some (by kernel_rfl))⟩
  f40 := ⟨Tryz.f128.name, by decide, Tryz.func128.trans (congrArg some (by kernel_rfl))⟩
  t0 := Tryz.underlying0
  a0 := Tryz.isAgg0
  z0 := Tryz.sizeOf0
  v0 := Tryz.zeroValue0
  t3 := Tryz.underlying3
  a3 := Tryz.isAgg3
  z3 := Tryz.sizeOf3
  v3 := Tryz.zeroValue3
  t4 := Tryz.underlying4
  a4 := Tryz.isAgg4
  z4 := Tryz.sizeOf4
  v4 := Tryz.zeroValue4
  t5 := Tryz.underlying5
  a5 := Tryz.isAgg5
  z5 := Tryz.sizeOf5
  v5 := Tryz.zeroValue5
  t9 := Tryz.underlying9
  a9 := Tryz.isAgg9
  z9 := Tryz.sizeOf9
  v9 := Tryz.zeroValue9
  t22 := Tryz.underlying50
  a22 := Tryz.isAgg50
  z22 := Tryz.sizeOf50
  v22 := Tryz.zeroValue50
  t23 := Tryz.underlying50
  a23 := Tryz.isAgg50
  z23 := Tryz.sizeOf50
  v23 := Tryz.zeroValue50
  t25 := Tryz.underlying3
  a25 := Tryz.isAgg3
  z25 := Tryz.sizeOf3
  v25 := Tryz.zeroValue3
  t32 := Tryz.underlying96
  a32 := Tryz.isAgg96
  z32 := Tryz.sizeOf96
  v32 := Tryz.zeroValue96
  t35 := Tryz.underlying132
  a35 := Tryz.isAgg132
  z35 := Tryz.sizeOf132
  v35 := Tryz.zeroValue132
  t36 := Tryz.underlying133
  a36 := Tryz.isAgg133
  z36 := Tryz.sizeOf133
  v36 := Tryz.zeroValue133
  t41 := Tryz.underlying126
  a41 := Tryz.isAgg126
  z41 := Tryz.sizeOf126
  v41 := Tryz.zeroValue126
  t44 := Tryz.underlying140
  a44 := Tryz.isAgg140
  z44 := Tryz.sizeOf140
  v44 := Tryz.zeroValue140
  t46 := Tryz.underlying142
  a46 := Tryz.isAgg142
  z46 := Tryz.sizeOf142
  v46 := Tryz.zeroValue142
  t53 := Tryz.underlying143
  a53 := Tryz.isAgg143
  z53 := Tryz.sizeOf143
  v53 := Tryz.zeroValue143
  t57 := Tryz.underlying147
  a57 := Tryz.isAgg147
  z57 := Tryz.sizeOf147
  v57 := Tryz.zeroValue147
  t63 := Tryz.underlying149
  a63 := Tryz.isAgg149
  z63 := Tryz.sizeOf149
  v63 := Tryz.zeroValue149
  t64 := Tryz.underlying150
  a64 := Tryz.isAgg150
  z64 := Tryz.sizeOf150
  v64 := Tryz.zeroValue150 }
open Go.Sort Go.RowKit in
theorem Tryz.slices_Sort_int (blk off cap : Nat) (zs : List Int) (w : World) (hH : Holds (Value.int .i64) w blk off zs.toArray) (hblk : blk < w.heap.size) (hsz : zs.length < 4611686018427387904) :
    Calls Tryz.prog 103 #[.slice (some ⟨blk, off, none⟩) zs.length cap] w fun e w' =>
      e = .returned (.tuple #[]) ∧ ∃ n os, w' = grow (putRow (Value.int .i64) (Sort.ahead w n) blk off (zs.mergeSort fun x y => decide (x ≤ y)).toArray) os := AnyM.slices_Sort_int Tryz.laysSlM5_f103 blk off cap zs w hH hblk hsz
def Tryz.keysA_ren : Go.Shelf.Ren := ⟨fun | 7 => 90 | 10 => 104 | n => n, fun | 23 => 103 | 26 => 3 | 3 => 3 | 28 => 112 | 0 => 0 | 27 => 111 | 33 => 91 | 4 => 4 | n => n, fun | n => n⟩
theorem Tryz.keysA : Go.Proofs.SlLaysZI.n7 Tryz.prog Tryz.keysA_ren := {
  mixed := by kernel_rfl
  f7 := ⟨Tryz.f90.name, by decide, Tryz.func90.trans (congrArg some (by kernel_rfl))⟩
  f10 := ⟨Tryz.f104.name, by decide, Tryz.func104.trans (congrArg some (by kernel_rfl))⟩
  t0 := Tryz.underlying0
  a0 := Tryz.isAgg0
  z0 := Tryz.sizeOf0
  v0 := Tryz.zeroValue0
  t4 := Tryz.underlying4
  a4 := Tryz.isAgg4
  z4 := Tryz.sizeOf4
  v4 := Tryz.zeroValue4
  t23 := Tryz.underlying103
  a23 := Tryz.isAgg103
  z23 := Tryz.sizeOf103
  v23 := Tryz.zeroValue103
  t26 := Tryz.underlying3
  a26 := Tryz.isAgg3
  z26 := Tryz.sizeOf3
  v26 := Tryz.zeroValue3
  t27 := Tryz.underlying111
  a27 := Tryz.isAgg111
  z27 := Tryz.sizeOf111
  v27 := Tryz.zeroValue111
  t28 := Tryz.underlying112
  a28 := Tryz.isAgg112
  z28 := Tryz.sizeOf112
  v28 := Tryz.zeroValue112
  t33 := Tryz.underlying91
  a33 := Tryz.isAgg91
  z33 := Tryz.sizeOf91
  v33 := Tryz.zeroValue91 }
def Tryz.sortedA_ren : Go.Shelf.Ren := ⟨fun | 6 => 89 | 8 => 102 | 9 => 103 | 11 => 108 | 13 => 110 | 12 => 109 | 23 => 120 | 24 => 121 | 14 => 111 | 15 => 112 | 16 => 113 | 17 => 114 | 18 => 115 | 19 => 116 | 20 => 117 | 21 => 118 | 22 => 119 | 25 => 122 | 26 => 123 | 27 => 124 | 28 => 125 | 29 => 126 | 30 => 127 | 31 => 128 | n => n, fun | 26 => 3 | 28 => 112 | 24 => 50 | 0 => 0 | 3 => 3 | 37 => 96 | 48 => 140 | 50 => 142 | 4 => 4 | 40 => 133 | 39 => 132 | 45 => 126 | 5 => 5 | 9 => 9 | 51 => 143 | 55 => 147 | 57 => 149 | 58 => 150 | 33 => 91 | n => n, fun | n => n⟩
theorem Tryz.sortedA : Go.Proofs.SlLaysZI.n6 Tryz.prog Tryz.sortedA_ren := {
  mixed := by kernel_rfl
  f6 := ⟨Tryz.f89.name, by decide, Tryz.func89.trans (congrArg some (by kernel_rfl))⟩
  f8 := ⟨Tryz.f102.name, by decide, Tryz.func102.trans (congrArg some (by kernel_rfl))⟩
  f11 := ⟨Tryz.f108.name, by decide, Tryz.func108.trans (congrArg some (by kernel_rfl))⟩
  t0 := Tryz.underlying0
  a0 := Tryz.isAgg0
  z0 := Tryz.sizeOf0
  v0 := Tryz.zeroValue0
  t24 := Tryz.underlying50
  a24 := Tryz.isAgg50
  z24 := Tryz.sizeOf50
  v24 := Tryz.zeroValue50
  t26 := Tryz.underlying3
  a26 := Tryz.isAgg3
  z26 := Tryz.sizeOf3
  v26 := Tryz.zeroValue3
  t28 := Tryz.underlying112
  a28 := Tryz.isAgg112
  z28 := Tryz.sizeOf112
  v28 := Tryz.zeroValue112
  i26 := by kernel_rfl }
end Go.Proofs

/- Walks of the cache's functions, part 3: an element taken out of a row; no condition. -/
namespace Go.Proofs.YtcggloceabjjdaaGreat
open Go.RowKit Go.MapKept Go.Sort Go.Lib

theorem heap_putRow {w : World} {g q : Nat} {d : Array Int} {cur : Array Value} {t : TypeId} {fz : Nat × Nat} (hg : w.heap[g]? = some (.cells cur t fz)) :
    (putRow (Value.int .i64) (Sort.ahead w q) g 0 d).heap[g]? = some (.cells (putCells (Value.int .i64) 0 d cur) t fz) := by
  unfold putRow mapBlock
  show (w.heap.modify g _)[g]? = _
  rw [Array.getElem?_modify, if_pos rfl, hg]
  rfl
theorem heap_putRow_other {w : World} {g q b : Nat} {d : Array Int} (hb : b ≠ g) : (putRow (Value.int .i64) (Sort.ahead w q) g 0 d).heap[b]? = w.heap[b]? := by
  unfold putRow mapBlock
  show (w.heap.modify g _)[b]? = _
  rw [Array.getElem?_modify, if_neg (Ne.symm hb)]
  try rfl

set_option maxRecDepth 100000 in
set_option maxHeartbeats 400000 in
theorem sdelete_any {ov : Value} {n : Nat} {l : List Int} {R : Assn} {w : World} (h : Bears w (rowA 3 1 ov n (intsV l) * R)) (hn : n = l.length) {k : Nat} (hk : k < l.length) :
    Calls Tryz.prog 101 #[ov, .int .i64 k, .int .i64 ((k + 1 : Nat) : Int)] w fun e w' => ∃ ov', e = .returned ov' ∧ Bears w' (rowA 3 1 ov' (n - 1) (intsV (l.eraseIdx k)) * R) := by
  subst hn
  obtain ⟨a, c, rfl, hc, hm, hr⟩ := h.rowForm
  obtain ⟨g, rfl, _⟩ := hr k hk
  clear hr
  have hcell := fun j (hj : j < l.length) => h.rowObj' hj
  obtain ⟨hl, hx⟩ := h.row
  rcases hx with ⟨hx, _⟩ | ⟨g', cap, cur, hv, _, hg, hn, hm', hs, ht⟩
  · cases hx
  simp only [Value.slice.injEq, Option.some.injEq, Addr.mk.injEq] at hv
  obtain ⟨⟨rfl, _⟩, _, rfl⟩ := hv
  have hH : Holds (Value.int .i64) w g 0 l.toArray := by
    intro j hj
    have hj' : j < l.length := by simpa using hj
    refine ⟨?_, frozen_of_obj hg _⟩
    rw [Nat.zero_add, hcell j hj']
    simp [hj']
  refine (Go.Proofs.Tryz.slices_Delete_int g 0 c k (k + 1) l w hH hc (by unfold maxLen at hm; omega) (by omega) (by omega)).mono ?_
  rintro e w' ⟨rfl, q, rfl⟩
  rw [show k + 1 - k = 1 by omega]
  refine ⟨_, rfl, ?_⟩
  obtain ⟨F, G, H, ⟨h1, rfl⟩, hR, hd, rfl⟩ := h
  refine ⟨_, _, H, ⟨⟨?_, .inr ⟨g, c, _, rfl, Nat.zero_le _, heap_putRow hg, by omega, hm, ?_, ?_⟩⟩, rfl⟩, R.loc hR ⟨rfl, rfl, rfl, ?_⟩ (fun b hb => heap_putRow_other (fun e => hd b (by rw [e]; rfl) hb)), hd, rfl⟩
  · simp [List.length_eraseIdx, hk]
  · simp [putCells, hs]
  · rw [List.eraseIdx_eq_take_drop_succ]
    have hel : (l.take k ++ l.drop (k + 1)).length = l.length - 1 := by simp; omega
    generalize l.take k ++ l.drop (k + 1) = e at hel
    apply List.ext_getElem
    · simp [putCells, hs, hel]
      omega
    · intro j h1 h2
      have hj : j < e.length := by simpa using h2
      simp only [List.getElem_take, Array.getElem_toList, putCells, Array.getElem_mapIdx, intsV, List.getElem_map]
      rw [if_pos ⟨Nat.zero_le _, by simp; omega⟩]
      congr 1
      simp only [Nat.sub_zero]
      rw [getElem!_pos _ j (by simp; omega)]
      simp [hj]
  · simp [putRow, mapBlock, Sort.ahead]

end Go.Proofs.YtcggloceabjjdaaGreat

/- Walks of the cache's functions, part 4: forget; no condition. -/
namespace Go.Proofs.YtcggloceabjjdaaGreat
open Go.RowKit Go.MapKept

theorem orderV_eq (ls : List LineM) : orderV ls = intsV (ls.map (·.at')) := by simp [orderV, intsV, Function.comp_def]
theorem forgetL_idx {i : Int} : ∀ {ls : List LineM} {k : Nat}, idxL i (ls.map (·.at')) = some k → k < ls.length ∧ (forgetL i ls).map (·.at') = (ls.map (·.at')).eraseIdx k
  | [], _, h => by simp [idxL] at h
  | x :: r, k, h => by
    simp only [List.map_cons, idxL] at h
    simp only [forgetL]
    by_cases e : x.at' = i
    · rw [if_pos e] at h ⊢
      simp only [Option.some.injEq] at h
      subst h
      exact ⟨by simp, rfl⟩
    · rw [if_neg e] at h ⊢
      cases hi : idxL i (r.map (·.at')) with
      | none => simp [hi] at h
      | some j =>
        simp only [hi, Option.map_some, Option.some.injEq] at h
        subst h
        obtain ⟨h1, h2⟩ := forgetL_idx hi
        exact ⟨by simp; omega, by simp [h2]⟩
theorem findL_idx {i : Int} : ∀ {ls : List LineM}, idxL i (ls.map (·.at')) = none → findL i ls = none
  | [], _ => rfl
  | x :: r, h => by
    simp only [List.map_cons, idxL] at h
    by_cases e : x.at' = i
    · rw [if_pos e] at h; cases h
    · rw [if_neg e] at h
      simp only [findL]
      rw [if_neg e]
      exact findL_idx (by simpa using h)

theorem u_has : Tryz.prog.underlying 102 = some (.map 3 34) := by kernel_rfl

set_option maxRecDepth 100000 in
set_option maxHeartbeats 800000 in
theorem forget_any {c p x : Nat} {cm : CacheM} {hb pb : Nat} {ov : Value} {hl : List (Int × Value)} {X : Assn} {w : World} {ls : List LineM} {n : Nat} (hn : n = ls.length)
    (h : Bears w (cacheObj c p x cm hb pb ov * (mapA hb hl * (rowA 3 1 ov n (orderV ls) * X)))) (i : Int) :
    Calls Tryz.prog 87 #[.pointer (some ⟨c, 0, none⟩), .int .i64 i] w fun e w' => e = .returned (.tuple #[]) ∧ ∃ ov', Bears w' (cacheObj c p x cm hb pb ov' * (mapA hb (delL i hl) *
      (rowA 3 1 ov' (forgetL i ls).length (orderV (forgetL i ls)) * X))) := by
  subst hn
  obtain ⟨⟨c0, c1, c2, c3, c4, c5, c6, c7⟩, _⟩ := cache_cells h
  obtain ⟨a, cap, rfl, hc, hm, _⟩ := h.pull3.rowForm
  have hlen : ls.length ≤ 9223372036854775806 ∨ True := .inr trivial
  go_enter Tryz.func87, Tryz.ntmps87
  go_wp2_with (refine wpList_delete_bears h.pull2 rfl rfl u_has u_int rfl rfl ?_; intro w2 h2; obtain ⟨⟨_, _, _, _, _, _, _, d7⟩, f⟩ := cache_cells h2.pull2; have f7 := f 7)
  have h3 := h2.pull3
  rw [orderV_eq] at h3
  refine (sindex_any h3 (by simp) i).mono ?_
  rintro e w' ⟨rfl, rfl⟩
  cases hk : idxL i (ls.map (·.at')) with
  | none =>
    have e1 : idxV i (ls.map (·.at')) = -1 := by unfold idxV; rw [hk]
    rw [e1]
    have hf := forgetL_none (findL_idx hk)
    have Hf := Lib.hid hf
    clear hk e1 hf
    go_wp2_with fail
    go_end0
    refine ⟨rfl, .slice a ls.length cap, ?_⟩
    rw [Hf.out]
    exact h2.pull2
  | some k =>
    have e1 : idxV i (ls.map (·.at')) = (k : Int) := by unfold idxV; rw [hk]
    rw [e1]
    obtain ⟨hkl, hfe⟩ := forgetL_idx hk
    have Hfe := Lib.hid hfe
    have hk63 : (k : Int) + 1 ≤ 9223372036854775807 := by unfold maxLen at hm; omega
    have hk0 : (0 : Int) ≤ (k : Int) := by omega
    have hwr : wrap64 ((k : Int) + 1) = (k : Int) + 1 := by unfold wrap64; omega
    have hdel := sdelete_any (k := k) h3 (by simp) (by simpa using hkl)
    rw [show ((k + 1 : Nat) : Int) = (k : Int) + 1 by omega] at hdel
    clear hk e1 hfe
    go_wp2_with fail
    refine hdel.mono ?_
    rintro e w4 ⟨ov', rfl, h4⟩
    have h5 := h4.pull3
    obtain ⟨a2, cap2, rfl, _⟩ := h4.rowForm
    have g7 := (cache_cells h5).1.2.2.2.2.2.2.2
    have gf7 := (cache_cells h5).2 7
    have h6 := h5.setCell (i := 7) (.slice a2 (ls.length - 1) cap2)
    go_wp2_with fail
    go_end0
    refine ⟨rfl, .slice a2 (ls.length - 1) cap2, ?_⟩
    rw [orderV_eq, Hfe.out]
    have hlen2 : (forgetL i ls).length = ls.length - 1 := by
      have := congrArg List.length Hfe.out
      simp [List.length_eraseIdx, hkl] at this
      exact this
    rw [hlen2]
    exact (h6.cast (by simp [cacheObj]; ac_rfl))

end Go.Proofs.YtcggloceabjjdaaGreat
