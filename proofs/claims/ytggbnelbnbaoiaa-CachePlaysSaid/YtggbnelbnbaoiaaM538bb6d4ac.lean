/- Texts of this claim, put together: WalW7, CacheA, CacheW1, CacheW2, Shelf, CacheW3, CacheW4; no condition. -/
import Derived.Test.YtggbnelbnbaoiaaM58ed639820
import Derived.Shelf.Small.Bits
import Derived.Shelf.Small.Wraps
import Derived.Shelf.Strconv.Itoa0
import Derived.Shelf.Sort.Plain
import Derived.Shelf.Slices.Turned
import Derived.Ground.Names2Prog
import Derived.Shelf.Slices.Clone
import Derived.Shelf.Slices.SearchI
import Derived.Shelf.Slices.Delete
import Derived.Shelf.Slices.Cells
import Derived.Shelf.Slices.In.SortNone
import Derived.Shelf.Slices.Empties
import Derived.Ground.SlgnProg
import Derived.Shelf.SlicesE.Clone
import Derived.Ground.GgzProg
import Derived.Shelf.SlIterI.Nil
import Derived.Test.YtggbnelbnbaoiaaProg

set_option linter.unusedSimpArgs false
set_option linter.unusedVariables false

/- The log: a group is done: the walk; no condition. -/
namespace Go.Proofs.Ytggbnelbnbaoiaa
open Go.RowKit Go.MapKept

theorem may_facts {len a s : Nat} {l : List PutM} (h : wMay len a s l = true) : l.length ≤ roomN s ∧ ∀ k, k < l.length → (l.getD k default).bytes.length = 64 ∧ 0 ≤ (l.getD k default).sector ∧ (l.getD k default).sector < len := by
  unfold wMay at h
  simp only [Bool.and_eq_true, decide_eq_true_eq] at h
  refine ⟨h.2, fun k hk => ?_⟩
  have := (wMayTo_true l []).1 h.1 k hk
  simp only [wOk, Bool.and_eq_true, decide_eq_true_eq, beq_iff_eq] at this
  exact ⟨this.2, this.1.1.2, this.1.2⟩

theorem wBoth_waits (d : DiskM) (a s : Nat) (g h : Int) : (wBoth d a s g h).2.waits.length ≤ d.waits.length + 1 := by
  have h1 := barrier_waits d
  have h2 := write_waits d.barrier.2 a (headB s g h)
  have h3 := barrier_waits (d.barrier.2.write a (headB s g h)).2
  unfold wBoth
  split
  · omega
  · split
    · omega
    · omega

set_option maxRecDepth 100000 in
set_option maxHeartbeats 3200000 in
theorem commit_any {x p at' size : Nat} {g : Int} {d : DiskM} {R : Assn} {w : World} (h : Bears w (walObj x p at' size g * (diskA p d * R))) (l : List PutM) (ad : Option Addr) (cap : Nat) (hl : R.Tells (fun w => PutsIn w (.slice ad l.length cap) l))
    (hlen : l.length ≤ 9223372036854775807) (ha : at' ≤ 100000) (hs : size ≤ 100000) (hroom : d.waits.length + 400000 < 1099511627776) :
    Calls Try.prog 72 #[.pointer (some ⟨x, 0, none⟩), .slice ad l.length cap] w fun e w' => e = .returned (.int .i64 (wCommit d at' size g l).1) ∧
      Bears w' (walObj x p at' size (wCommit d at' size g l).2.1 * (diskA p (wCommit d at' size g l).2.2 * R)) := by
  by_cases hmay : wMay d.len at' size l = true
  · have hm := may_facts hmay
    have hr1 : roomN size ≤ size := by unfold roomN; split <;> omega
    have hl1 : listsN (roomN size) ≤ size := by unfold listsN; omega
    have hfirst : ((wFirst at' size : Nat) : Int) = (at' : Int) + 1 + (listsN (roomN size) : Nat) := by unfold wFirst; omega
    have hfb : wFirst at' size ≤ 300000 := by unfold wFirst; omega
    have hll : l.length ≤ 100000 := by omega
    have Hfirst := Lib.hid hfirst
    have Hmay := Lib.hid hmay
    have Hm := Lib.hid hm
    clear hfirst hmay hm
    go_enter Try.func72, Try.ntmps72
    go_wp2_with fail
    refine (may_any h l ad cap hl hlen ha hs).mono ?_
    rintro e w1 ⟨rfl, h1⟩
    rw [Hmay.out]
    clear h
    go_wp2_with fail
    refine wp_region_L (fun w' => Bears w' (walObj x p at' size g * (diskA p d * R))) 12
      [(true, 0), (true, 1), (true, 2), (true, 3), (true, 4), (true, 5), (true, 6), (true, 7), (false, 8), (false, 9), (false, 10), (true, 11)] [(true, 12)] (by kernel_rfl) (by kernel_rfl) h1.drew ?_
    simp only [pick, List.getElem?_cons_zero, List.getElem?_cons_succ]
    have q1 : IntKind.i64.wrap ((at' : Int) + 1) = (at' : Int) + 1 := IntWalk.i64_in _ (by omega)
    refine wpL_yield (v := ?_) rfl (fun w' hS => ?_) ?_
    rotate_left
    · (obtain ⟨c0, c1, c2, c3, _⟩ := wal_cells hS; go_simp; try with_reducible rfl)
    simp only [Act.put, List.setIfInBounds_toArray, List.set_cons_zero, List.set_cons_succ]
    refine wpL_yield (v := ?_) rfl (fun w' hS => ?_) ?_
    rotate_left
    · (obtain ⟨c0, c1, c2, c3, _⟩ := wal_cells hS; go_simp; try with_reducible rfl)
    simp only [Act.put, List.setIfInBounds_toArray, List.set_cons_zero, List.set_cons_succ]
    refine wpL_yield (v := ?_) rfl (fun w' hS => ?_) ?_
    rotate_left
    · (obtain ⟨c0, c1, c2, c3, _⟩ := wal_cells hS; go_simp; try with_reducible rfl)
    simp only [Act.put, List.setIfInBounds_toArray, List.set_cons_zero, List.set_cons_succ]
    refine wpL_yield (v := ?_) rfl (fun w' hS => ?_) ?_
    rotate_left
    · (obtain ⟨c0, c1, c2, c3, _⟩ := wal_cells hS; go_simp; try with_reducible rfl)
    simp only [Act.put, List.setIfInBounds_toArray, List.set_cons_zero, List.set_cons_succ]
    refine wpL_yield (v := ?_) rfl (fun w' hS => ?_) ?_
    rotate_left
    · (obtain ⟨c0, c1, c2, c3, _⟩ := wal_cells hS; go_simp; try with_reducible rfl)
    simp only [Act.put, List.setIfInBounds_toArray, List.set_cons_zero, List.set_cons_succ]
    refine wpL_yield (v := ?_) rfl (fun w' hS => ?_) ?_
    rotate_left
    · (obtain ⟨c0, c1, c2, c3, _⟩ := wal_cells hS; go_simp; try with_reducible rfl)
    simp only [Act.put, List.setIfInBounds_toArray, List.set_cons_zero, List.set_cons_succ]
    refine wpL_yield (v := ?_) rfl (fun w' hS => ?_) ?_
    rotate_left
    · (obtain ⟨c0, c1, c2, c3, _⟩ := wal_cells hS; go_simp; try with_reducible rfl)
    simp only [Act.put, List.setIfInBounds_toArray, List.set_cons_zero, List.set_cons_succ]
    refine wpL_yield (v := ?_) rfl (fun w' hS => ?_) ?_
    rotate_left
    · (obtain ⟨c0, c1, c2, c3, _⟩ := wal_cells hS; go_simp; try with_reducible rfl)
    simp only [Act.put, List.setIfInBounds_toArray, List.set_cons_zero, List.set_cons_succ]
    obtain ⟨c0, c1, c2, c3, _⟩ := wal_cells h1.drew
    refine wpL_eff rfl ?_
    go_simp
    refine ⟨h1.drew, ?_⟩
    refine wpL_eff rfl ?_
    go_simp
    refine (room_any w1.drew size (by omega)).mono ?_
    rintro e w2 ⟨rfl, rfl⟩
    refine ⟨h1.drew, ?_⟩
    refine wpL_eff rfl ?_
    go_simp
    refine (lists_any w1.drew (roomN size) (by omega)).mono ?_
    rintro e w2 ⟨rfl, rfl⟩
    refine ⟨h1.drew, ?_⟩
    have q2 : IntKind.i64.wrap ((at' : Int) + 1 + (listsN (roomN size) : Nat)) = (wFirst at' size : Nat) := by rw [Hfirst.out]; exact IntWalk.i64_in _ (by omega)
    refine wpL_yield (v := ?_) rfl (fun w' hS => ?_) ?_
    rotate_left
    · (go_simp; try with_reducible rfl)
    simp only [Act.put, List.setIfInBounds_toArray, List.set_cons_zero, List.set_cons_succ]
    refine wpL_nil ?_
    refine wpL_yield (v := ?_) rfl (fun w' hS => ?_) ?_
    rotate_left
    · (go_simp; try with_reducible rfl)
    simp only [Act.put, List.setIfInBounds_toArray, List.set_cons_zero, List.set_cons_succ]
    refine wpL_nil ?_
    have h2 := h1.drew
    generalize w1.drew = w2 at h2
    clear c0 c1 c2 c3 q1 q2 h1
    go_wp2_with fail
    go_loopw [33] (fun i wr => ∃ k : Nat, k ≤ l.length ∧ i = .int .i64 k ∧ ∃ dk : DiskM, wBytes d at' size l k = (0, dk) ∧ Bears wr (walObj x p at' size g * (diskA p dk * R)))
      (fun i _ => l.length - (intOf i).toNat)
    case atStart => exact ⟨0, by omega, rfl, d, rfl, h2⟩
    case round =>
      obtain ⟨k, hk, rfl, dk, hdk, h3⟩ := hrel
      have hwk : dk.waits.length ≤ d.waits.length + k := by have := wBytes_waits d at' size l k; rw [hdk] at this; exact this
      by_cases hlt : k < l.length
      · obtain ⟨b, o, rfl, q1, q2, _⟩ := (hl _ h3.right.right).cells hlt
        have hsucc := wBytes_succ hdk
        have h64 := (Hm.out.2 k hlt).1
        have hbt := PutsIn.bytes hl hlt
        generalize hc : l.getD k default = pt at q1 q2 hsucc h64 hbt
        obtain ⟨sec, bs, ad', cap'⟩ := pt
        simp only [PutM.val] at q1 q2 hsucc h64 hbt
        obtain ⟨r, d2, hwr⟩ : ∃ r d2, dk.write ((wFirst at' size + k : Nat) : Int) bs = (r, d2) := ⟨_, _, rfl⟩
        rw [hwr] at hsucc
        have h4 := h3.alloc (.cells #[.int .i64 sec, .slice ad' bs.length cap'] 123)
        have Hwr := Lib.hid hwr
        have Hsucc := Lib.hid hsucc
        clear hc hwr hsucc hdk h64
        go_wp2_with fail
        generalize wr.heap.size = c at h4
        generalize wr.alloc (.cells #[.int .i64 sec, .slice ad' bs.length cap'] 123) = w4 at h4
        have e1 : ((wFirst at' size + k : Nat) : Int) = (wFirst at' size : Nat) + (k : Int) := by omega
        have q4 : IntKind.i64.wrap ((wFirst at' size : Nat) + (k : Int)) = (wFirst at' size : Nat) + (k : Int) := IntWalk.i64_in _ (by omega)
        have Hw := Hwr.out
        rw [e1] at Hw
        have HW := Lib.hid Hw
        clear Hw e1 q1 q2 h3
        refine wp_region_L (fun w' => ∃ A Q, Bears w' (Assn.obj c (.cells #[.int .i64 sec, .slice ad' bs.length cap'] 123 (0, 0)) * (walObj x p at' size g * (A * Q)))) 10
          [(true, 0), (true, 1), (true, 2), (true, 3), (true, 4), (true, 5), (true, 6), (true, 7), (true, 8), (false, 9)] [(true, 10)] (by kernel_rfl) (by kernel_rfl) ⟨_, _, h4.drew⟩ ?_
        simp only [pick, List.getElem?_cons_zero, List.getElem?_cons_succ]
        refine wpL_yield (v := ?_) rfl (fun w' hS => ?_) ?_
        rotate_left
        · (obtain ⟨_, _, hS⟩ := hS; obtain ⟨p0, p1⟩ := put_cells hS; obtain ⟨c0, c1, c2, c3, _⟩ := wal_cells hS.pull2; go_simp; try with_reducible rfl)
        simp only [Act.put, List.setIfInBounds_toArray, List.set_cons_zero, List.set_cons_succ]
        refine wpL_yield (v := ?_) rfl (fun w' hS => ?_) ?_
        rotate_left
        · (obtain ⟨_, _, hS⟩ := hS; obtain ⟨p0, p1⟩ := put_cells hS; obtain ⟨c0, c1, c2, c3, _⟩ := wal_cells hS.pull2; go_simp; try with_reducible rfl)
        simp only [Act.put, List.setIfInBounds_toArray, List.set_cons_zero, List.set_cons_succ]
        refine wpL_yield (v := ?_) rfl (fun w' hS => ?_) ?_
        rotate_left
        · (obtain ⟨_, _, hS⟩ := hS; obtain ⟨p0, p1⟩ := put_cells hS; obtain ⟨c0, c1, c2, c3, _⟩ := wal_cells hS.pull2; go_simp; try with_reducible rfl)
        simp only [Act.put, List.setIfInBounds_toArray, List.set_cons_zero, List.set_cons_succ]
        refine wpL_yield (v := ?_) rfl (fun w' hS => ?_) ?_
        rotate_left
        · (obtain ⟨_, _, hS⟩ := hS; obtain ⟨p0, p1⟩ := put_cells hS; obtain ⟨c0, c1, c2, c3, _⟩ := wal_cells hS.pull2; go_simp; try with_reducible rfl)
        simp only [Act.put, List.setIfInBounds_toArray, List.set_cons_zero, List.set_cons_succ]
        refine wpL_yield (v := ?_) rfl (fun w' hS => ?_) ?_
        rotate_left
        · (obtain ⟨_, _, hS⟩ := hS; obtain ⟨p0, p1⟩ := put_cells hS; obtain ⟨c0, c1, c2, c3, _⟩ := wal_cells hS.pull2; go_simp; try with_reducible rfl)
        simp only [Act.put, List.setIfInBounds_toArray, List.set_cons_zero, List.set_cons_succ]
        refine wpL_yield (v := ?_) rfl (fun w' hS => ?_) ?_
        rotate_left
        · (obtain ⟨_, _, hS⟩ := hS; obtain ⟨p0, p1⟩ := put_cells hS; obtain ⟨c0, c1, c2, c3, _⟩ := wal_cells hS.pull2; go_simp; try with_reducible rfl)
        simp only [Act.put, List.setIfInBounds_toArray, List.set_cons_zero, List.set_cons_succ]
        refine wpL_yield (v := ?_) rfl (fun w' hS => ?_) ?_
        rotate_left
        · (obtain ⟨_, _, hS⟩ := hS; obtain ⟨p0, p1⟩ := put_cells hS; obtain ⟨c0, c1, c2, c3, _⟩ := wal_cells hS.pull2; go_simp; try with_reducible rfl)
        simp only [Act.put, List.setIfInBounds_toArray, List.set_cons_zero, List.set_cons_succ]
        refine wpL_yield (v := ?_) rfl (fun w' hS => ?_) ?_
        rotate_left
        · (obtain ⟨_, _, hS⟩ := hS; obtain ⟨p0, p1⟩ := put_cells hS; obtain ⟨c0, c1, c2, c3, _⟩ := wal_cells hS.pull2; go_simp; try with_reducible rfl)
        simp only [Act.put, List.setIfInBounds_toArray, List.set_cons_zero, List.set_cons_succ]
        refine wpL_yield (v := ?_) rfl (fun w' hS => ?_) ?_
        rotate_left
        · (obtain ⟨_, _, hS⟩ := hS; obtain ⟨p0, p1⟩ := put_cells hS; obtain ⟨c0, c1, c2, c3, _⟩ := wal_cells hS.pull2; go_simp; try with_reducible rfl)
        simp only [Act.put, List.setIfInBounds_toArray, List.set_cons_zero, List.set_cons_succ]
        refine wpL_eff rfl ?_
        go_simp
        refine (write_to h4.drew.pull3 HW.out hbt.right.right (by omega)).mono ?_
        rintro e w5 ⟨rfl, h5⟩
        have h6 : Bears w5 (Assn.obj c (.cells #[.int .i64 sec, .slice ad' bs.length cap'] 123 (0, 0)) * (walObj x p at' size g * (diskA p d2 * R))) := h5.cast (by ac_rfl)
        refine ⟨⟨_, _, h6⟩, ?_⟩
        refine wpL_nil ?_
        refine wpL_yield (v := ?_) rfl (fun w' hS => ?_) ?_
        rotate_left
        · (go_simp; try with_reducible rfl)
        simp only [Act.put, List.setIfInBounds_toArray, List.set_cons_zero, List.set_cons_succ]
        refine wpL_nil ?_
        clear h4 h5 q4
        by_cases hr0 : r = 0
        · subst hr0
          clear Hwr HW
          go_wp2_with fail
          go_roundw
          case rel => exact ⟨k + 1, hlt, by go_num, d2, Hsucc.out, h6.right⟩
          case measure => simp [intOf]; omega
        · have Hfin := Lib.hid (wCommit_bytes (g := g) Hmay.out Hsucc.out hr0 (by omega))
          clear Hwr HW
          go_wp2_with fail
          go_ret
          rw [Hfin.out]
          exact ⟨rfl, h6.right⟩
      · obtain rfl : k = l.length := by omega
        have Hdk := Lib.hid hdk
        clear hdk hk
        go_wp2_with fail
        go_loopw [9] (fun i wr => ∃ c : Nat, c ≤ listsN l.length ∧ i = .int .i64 (32 * (c : Int)) ∧ ∃ dm : DiskM, wLists dk at' l c = (0, dm) ∧ Bears wr (walObj x p at' size g * (diskA p dm * R)))
          (fun i _ => l.length + 32 - (intOf i).toNat)
        case atStart => exact ⟨0, by omega, by simp, dk, rfl, h3⟩
        case round =>
          obtain ⟨c, hc, rfl, dm, hdm, h4⟩ := hrel
          have hwm : dm.waits.length ≤ dk.waits.length + c := by have := wLists_waits dk at' l c; rw [hdm] at this; exact this
          have hll2 : listsN l.length ≤ 100000 := by unfold listsN; omega
          by_cases hlt : 32 * c < l.length
          · have hcl : c < listsN l.length := by unfold listsN; omega
            have hsucc := wLists_succ hdm
            have hmk : ∀ w, (Instr.makeSlice 33 (.int .i64 64) (.int .i64 64)).run Try.prog w = .ok (.slice (some ⟨w.heap.size, 0, none⟩) 64 64) (w.alloc (.cells (cellsV (List.replicate 64 0)).toArray 5)) := fun _ => by kernel_rfl
            have hz0 : List.replicate 64 0 = wListTo l c 0 := by simp [wListTo]
            rw [hz0] at hmk
            have h5 := h4.alloc (.cells (cellsV (wListTo l c 0)).toArray 5)
            have hlc : (wListTo l c 0).length = 64 := wListTo_length (by omega) (by omega)
            have hcap := (hl _ h4.right.right).le
            obtain ⟨b, o, rfl, _⟩ := (hl _ h4.right.right).cells hlt
            have Hsucc := Lib.hid hsucc
            clear hz0 hlc hsucc hdm
            rcases Nat.lt_or_ge (32 * c + 32) l.length with h32 | h32
            · have q0 : (32 : Int) * (c : Int) + 32 ≤ (l.length : Int) := by omega
              have q9 : decide (32 * (c : Int) < (l.length : Int)) = true := by rw [decide_eq_true_eq]; omega
              have hN : 32 = min 32 (l.length - 32 * c) := by omega
              have HN := Lib.hid hN
              clear hN
              go_wp2_with fail
              generalize wr.heap.size = zb at h5
              try rw [Nat.add_sub_cancel_left]
              go_loopw [68] (fun i wr' => ∃ k : Nat, k ≤ 32 ∧ i = .int .i64 k ∧ Bears wr' (Assn.obj zb (.cells (cellsV (wListTo l c k)).toArray 5 (0, 0)) * (walObj x p at' size g * (diskA p dm * R)))) (fun i _ => 32 - (intOf i).toNat)
              case atStart => exact ⟨0, by omega, rfl, h5⟩
              case round =>
                obtain ⟨k, hk2, rfl, h6⟩ := hrel
                by_cases hlt2 : k < 32
                · obtain ⟨b', o', he, q1, q2, _⟩ := (hl _ h6.right.right.right).cells (k := 32 * c + k) (by omega)
                  cases he
                  have e2 : o + (32 * c + k) * 2 = o + 32 * c * 2 + k * 2 := by omega
                  rw [e2] at q1 q2
                  have hsu := wListTo_succ (l := l) (c := c) (k := k) (by omega) (by omega)
                  have hlen64 : (wListTo l c k).length = 64 := wListTo_length (by omega) (by omega)
                  generalize hcc : l.getD (32 * c + k) default = pt at q1 q2 hsu
                  obtain ⟨sec, bs, ad', cap'⟩ := pt
                  simp only [PutM.val] at q1 q2 hsu
                  have h7 := h6.alloc (.cells #[.int .i64 sec, .slice ad' bs.length cap'] 123)
                  have Hsu := Lib.hid hsu
                  clear hcc hsu e2
                  go_wp2_with fail
                  generalize wr.heap.size = pc at h7
                  generalize wr.alloc (.cells #[.int .i64 sec, .slice ad' bs.length cap'] 123) = w7 at h7
                  have r1 : IntKind.i64.wrap (2 * (k : Int)) = 2 * (k : Int) := IntWalk.i64_in _ (by omega)
                  have r2 : IntKind.i64.wrap (2 * (k : Int) + 2) = 2 * (k : Int) + 2 := IntWalk.i64_in _ (by omega)
                  refine wp_region_L (fun w' => ∃ Q, Bears w' (Assn.obj pc (.cells #[.int .i64 sec, .slice ad' bs.length cap'] 123 (0, 0)) * Q)) 13
                    [(true, 0), (true, 1), (true, 2), (true, 3), (true, 4), (true, 5), (true, 6), (true, 7), (true, 8), (true, 9), (true, 10), (true, 11), (false, 12)] [] (by kernel_rfl) (by kernel_rfl) ⟨_, h7.drew⟩ ?_
                  simp only [pick, List.getElem?_cons_zero, List.getElem?_cons_succ]
                  refine wpL_yield (v := ?_) rfl (fun w' hS => ?_) ?_
                  rotate_left
                  · (go_simp; try with_reducible rfl)
                  simp only [Act.put, List.setIfInBounds_toArray, List.set_cons_zero, List.set_cons_succ]
                  refine wpL_yield (v := ?_) rfl (fun w' hS => ?_) ?_
                  rotate_left
                  · (go_simp; try with_reducible rfl)
                  simp only [Act.put, List.setIfInBounds_toArray, List.set_cons_zero, List.set_cons_succ]
                  refine wpL_yield (v := ?_) rfl (fun w' hS => ?_) ?_
                  rotate_left
                  · (go_simp; try with_reducible rfl)
                  simp only [Act.put, List.setIfInBounds_toArray, List.set_cons_zero, List.set_cons_succ]
                  refine wpL_yield (v := ?_) rfl (fun w' hS => ?_) ?_
                  rotate_left
                  · (go_simp; try with_reducible rfl)
                  simp only [Act.put, List.setIfInBounds_toArray, List.set_cons_zero, List.set_cons_succ]
                  refine wpL_yield (v := ?_) rfl (fun w' hS => ?_) ?_
                  rotate_left
                  · (go_simp; try with_reducible rfl)
                  simp only [Act.put, List.setIfInBounds_toArray, List.set_cons_zero, List.set_cons_succ]
                  refine wpL_yield (v := ?_) rfl (fun w' hS => ?_) ?_
                  rotate_left
                  · (go_simp; try with_reducible rfl)
                  simp only [Act.put, List.setIfInBounds_toArray, List.set_cons_zero, List.set_cons_succ]
                  refine wpL_yield (v := ?_) rfl (fun w' hS => ?_) ?_
                  rotate_left
                  · (go_simp; try with_reducible rfl)
                  simp only [Act.put, List.setIfInBounds_toArray, List.set_cons_zero, List.set_cons_succ]
                  refine wpL_yield (v := ?_) rfl (fun w' hS => ?_) ?_
                  rotate_left
                  · (go_simp; try with_reducible rfl)
                  simp only [Act.put, List.setIfInBounds_toArray, List.set_cons_zero, List.set_cons_succ]
                  refine wpL_yield (v := ?_) rfl (fun w' hS => ?_) ?_
                  rotate_left
                  · (go_simp; try with_reducible rfl)
                  simp only [Act.put, List.setIfInBounds_toArray, List.set_cons_zero, List.set_cons_succ]
                  have hz8 : ∀ w, (Go.sizeOf 5).run Try.prog w = .ok 1 w := fun w => by kernel_rfl
                  refine wpL_yield rfl (fun w' hS => exec_slice3 (lo := 2 * k) (hi := 2 * k + 2) (mx := 2 * k + 2) rfl Try.underlying33 (hz8 w') rfl (by go_simp) (by go_simp) (by go_simp) (by omega) (by omega) (by omega)) ?_
                  simp only [Act.put, List.setIfInBounds_toArray, List.set_cons_zero, List.set_cons_succ]
                  rw [show 2 * k + 2 - 2 * k = 2 by omega]
                  refine wpL_yield (v := ?_) rfl (fun w' hS => ?_) ?_
                  rotate_left
                  · (obtain ⟨_, hS⟩ := hS; obtain ⟨p0, p1⟩ := put_cells hS; go_simp; try with_reducible rfl)
                  simp only [Act.put, List.setIfInBounds_toArray, List.set_cons_zero, List.set_cons_succ]
                  refine wpL_yield (v := ?_) rfl (fun w' hS => ?_) ?_
                  rotate_left
                  · (obtain ⟨_, hS⟩ := hS; obtain ⟨p0, p1⟩ := put_cells hS; go_simp; try with_reducible rfl)
                  simp only [Act.put, List.setIfInBounds_toArray, List.set_cons_zero, List.set_cons_succ]
                  refine wpL_eff rfl ?_
                  go_simp
                  refine (number_any (o := 2 * k) (m := 2) h7.drew.pull2 sec (by rw [hlen64]; omega) (by decide)).mono ?_
                  rintro e w8 ⟨rfl, h8⟩
                  rw [Hsu.out] at h8
                  refine ⟨⟨_, h8.pull2⟩, ?_⟩
                  refine wpL_nil ?_
                  refine wpL_nil ?_
                  go_wp2_with fail
                  go_roundw
                  case rel => exact ⟨k + 1, hlt2, by go_num, h8.pull2.right⟩
                  case measure => simp [intOf]; omega
                · obtain rfl : k = 32 := by omega
                  rw [wList_eq HN.out] at h6
                  obtain ⟨r, d2, hwr⟩ : ∃ r d2, dm.write ((at' + 1 + c : Nat) : Int) (wList l c) = (r, d2) := ⟨_, _, rfl⟩
                  have hl64 : (wList l c).length = 64 := by rw [← wList_eq HN.out]; exact wListTo_length (by omega) (by omega)
                  have HS := Hsucc.out
                  rw [hwr] at HS
                  have e3 : ((at' + 1 + c : Nat) : Int) = (at' : Int) + 1 + (c : Int) := by omega
                  rw [e3] at hwr
                  have Hwr := Lib.hid hwr
                  have HS2 := Lib.hid HS
                  clear hwr HS e3
                  go_wp2_with fail
                  have r1 : IntKind.i64.wrap ((at' : Int) + 1) = (at' : Int) + 1 := IntWalk.i64_in _ (by omega)
                  have r2 : (32 * (c : Int)).tdiv 32 = (c : Int) := by rw [Int.tdiv_eq_ediv_of_nonneg (by omega)]; omega
                  have r3 : IntKind.i64.wrap (c : Int) = (c : Int) := IntWalk.i64_in _ (by omega)
                  have r4 : IntKind.i64.wrap ((at' : Int) + 1 + (c : Int)) = (at' : Int) + 1 + (c : Int) := IntWalk.i64_in _ (by omega)
                  have r5 : 32 * (c : Int) / 32 = (c : Int) := by omega
                  have h6' := h6.pull2
                  refine wp_region_L (fun w' => ∃ Q, Bears w' (walObj x p at' size g * Q)) 14
                    [(true, 0), (true, 1), (true, 2), (true, 3), (true, 4), (true, 5), (true, 6), (true, 7), (true, 8), (true, 9), (true, 10), (true, 11), (true, 12), (false, 13)] [(true, 14)] (by kernel_rfl) (by kernel_rfl) ⟨_, h6'.drew⟩ ?_
                  simp only [pick, List.getElem?_cons_zero, List.getElem?_cons_succ]
                  refine wpL_yield (v := ?_) rfl (fun w' hS => ?_) ?_
                  rotate_left
                  · (obtain ⟨_, hS⟩ := hS; obtain ⟨c0, c1, c2, c3, _⟩ := wal_cells hS; go_simp; try with_reducible rfl)
                  simp only [Act.put, List.setIfInBounds_toArray, List.set_cons_zero, List.set_cons_succ]
                  refine wpL_yield (v := ?_) rfl (fun w' hS => ?_) ?_
                  rotate_left
                  · (obtain ⟨_, hS⟩ := hS; obtain ⟨c0, c1, c2, c3, _⟩ := wal_cells hS; go_simp; try with_reducible rfl)
                  simp only [Act.put, List.setIfInBounds_toArray, List.set_cons_zero, List.set_cons_succ]
                  refine wpL_yield (v := ?_) rfl (fun w' hS => ?_) ?_
                  rotate_left
                  · (obtain ⟨_, hS⟩ := hS; obtain ⟨c0, c1, c2, c3, _⟩ := wal_cells hS; go_simp; try with_reducible rfl)
                  simp only [Act.put, List.setIfInBounds_toArray, List.set_cons_zero, List.set_cons_succ]
                  refine wpL_yield (v := ?_) rfl (fun w' hS => ?_) ?_
                  rotate_left
                  · (obtain ⟨_, hS⟩ := hS; obtain ⟨c0, c1, c2, c3, _⟩ := wal_cells hS; go_simp; try with_reducible rfl)
                  simp only [Act.put, List.setIfInBounds_toArray, List.set_cons_zero, List.set_cons_succ]
                  refine wpL_yield (v := ?_) rfl (fun w' hS => ?_) ?_
                  rotate_left
                  · (obtain ⟨_, hS⟩ := hS; obtain ⟨c0, c1, c2, c3, _⟩ := wal_cells hS; go_simp; try with_reducible rfl)
                  simp only [Act.put, List.setIfInBounds_toArray, List.set_cons_zero, List.set_cons_succ]
                  refine wpL_yield (v := ?_) rfl (fun w' hS => ?_) ?_
                  rotate_left
                  · (obtain ⟨_, hS⟩ := hS; obtain ⟨c0, c1, c2, c3, _⟩ := wal_cells hS; go_simp; try with_reducible rfl)
                  simp only [Act.put, List.setIfInBounds_toArray, List.set_cons_zero, List.set_cons_succ]
                  refine wpL_yield (v := ?_) rfl (fun w' hS => ?_) ?_
                  rotate_left
                  · (obtain ⟨_, hS⟩ := hS; obtain ⟨c0, c1, c2, c3, _⟩ := wal_cells hS; go_simp; try with_reducible rfl)
                  simp only [Act.put, List.setIfInBounds_toArray, List.set_cons_zero, List.set_cons_succ]
                  refine wpL_yield (v := ?_) rfl (fun w' hS => ?_) ?_
                  rotate_left
                  · (obtain ⟨_, hS⟩ := hS; obtain ⟨c0, c1, c2, c3, _⟩ := wal_cells hS; go_simp; try with_reducible rfl)
                  simp only [Act.put, List.setIfInBounds_toArray, List.set_cons_zero, List.set_cons_succ]
                  refine wpL_yield (v := ?_) rfl (fun w' hS => ?_) ?_
                  rotate_left
                  · (obtain ⟨_, hS⟩ := hS; obtain ⟨c0, c1, c2, c3, _⟩ := wal_cells hS; go_simp; try with_reducible rfl)
                  simp only [Act.put, List.setIfInBounds_toArray, List.set_cons_zero, List.set_cons_succ]
                  refine wpL_yield (v := ?_) rfl (fun w' hS => ?_) ?_
                  rotate_left
                  · (obtain ⟨_, hS⟩ := hS; obtain ⟨c0, c1, c2, c3, _⟩ := wal_cells hS; go_simp; try with_reducible rfl)
                  simp only [Act.put, List.setIfInBounds_toArray, List.set_cons_zero, List.set_cons_succ]
                  refine wpL_yield (v := ?_) rfl (fun w' hS => ?_) ?_
                  rotate_left
                  · (obtain ⟨_, hS⟩ := hS; obtain ⟨c0, c1, c2, c3, _⟩ := wal_cells hS; go_simp; try with_reducible rfl)
                  simp only [Act.put, List.setIfInBounds_toArray, List.set_cons_zero, List.set_cons_succ]
                  refine wpL_yield (v := ?_) rfl (fun w' hS => ?_) ?_
                  rotate_left
                  · (obtain ⟨_, hS⟩ := hS; obtain ⟨c0, c1, c2, c3, _⟩ := wal_cells hS; go_simp; try with_reducible rfl)
                  simp only [Act.put, List.setIfInBounds_toArray, List.set_cons_zero, List.set_cons_succ]
                  refine wpL_yield (v := ?_) rfl (fun w' hS => ?_) ?_
                  rotate_left
                  · (obtain ⟨_, hS⟩ := hS; obtain ⟨c0, c1, c2, c3, _⟩ := wal_cells hS; go_simp; try with_reducible rfl)
                  simp only [Act.put, List.setIfInBounds_toArray, List.set_cons_zero, List.set_cons_succ]
                  refine wpL_eff rfl ?_
                  go_simp
                  refine (write_to h6.drew.pull3 Hwr.out (BytesIn.tells _ _ (by rw [hl64])) (by omega)).mono ?_
                  rintro e w8 ⟨rfl, h8⟩
                  have h9 : Bears w8 (walObj x p at' size g * (diskA p d2 * R)) := (h8.pull2.right).cast (by ac_rfl)
                  refine ⟨⟨_, h9⟩, ?_⟩
                  refine wpL_nil ?_
                  refine wpL_yield (v := ?_) rfl (fun w' hS => ?_) ?_
                  rotate_left
                  · (go_simp; try with_reducible rfl)
                  simp only [Act.put, List.setIfInBounds_toArray, List.set_cons_zero, List.set_cons_succ]
                  refine wpL_nil ?_
                  clear r1 r2 r3 r4 r5 h6 h6' h8
                  by_cases hr0 : r = 0
                  · subst hr0
                    clear Hwr
                    go_wp2_with fail
                    go_roundw
                    case rel => exact ⟨c + 1, hcl, by go_num, d2, HS2.out, h9⟩
                    case measure => simp [intOf]; omega
                  · have Hfin := Lib.hid (wCommit_lists (g := g) Hmay.out Hdk.out HS2.out hr0 (by omega))
                    clear Hwr
                    go_wp2_with fail
                    go_ret
                    rw [Hfin.out]
                    exact ⟨rfl, h9⟩
            · have q0 : (l.length : Int) ≤ (32 : Int) * (c : Int) + 32 := by omega
              have q9 : decide (32 * (c : Int) < (l.length : Int)) = true := by rw [decide_eq_true_eq]; omega
              have hN : l.length - 32 * c = min 32 (l.length - 32 * c) := by omega
              have HN := Lib.hid hN
              clear hN
              go_wp2_with fail
              generalize wr.heap.size = zb at h5
              try rw [Nat.add_sub_cancel_left]
              go_loopw [68] (fun i wr' => ∃ k : Nat, k ≤ l.length - 32 * c ∧ i = .int .i64 k ∧ Bears wr' (Assn.obj zb (.cells (cellsV (wListTo l c k)).toArray 5 (0, 0)) * (walObj x p at' size g * (diskA p dm * R)))) (fun i _ => l.length - 32 * c - (intOf i).toNat)
              case atStart => exact ⟨0, by omega, rfl, h5⟩
              case round =>
                obtain ⟨k, hk2, rfl, h6⟩ := hrel
                by_cases hlt2 : k < l.length - 32 * c
                · obtain ⟨b', o', he, q1, q2, _⟩ := (hl _ h6.right.right.right).cells (k := 32 * c + k) (by omega)
                  cases he
                  have e2 : o + (32 * c + k) * 2 = o + 32 * c * 2 + k * 2 := by omega
                  rw [e2] at q1 q2
                  have hsu := wListTo_succ (l := l) (c := c) (k := k) (by omega) (by omega)
                  have hlen64 : (wListTo l c k).length = 64 := wListTo_length (by omega) (by omega)
                  generalize hcc : l.getD (32 * c + k) default = pt at q1 q2 hsu
                  obtain ⟨sec, bs, ad', cap'⟩ := pt
                  simp only [PutM.val] at q1 q2 hsu
                  have h7 := h6.alloc (.cells #[.int .i64 sec, .slice ad' bs.length cap'] 123)
                  have Hsu := Lib.hid hsu
                  clear hcc hsu e2
                  go_wp2_with fail
                  generalize wr.heap.size = pc at h7
                  generalize wr.alloc (.cells #[.int .i64 sec, .slice ad' bs.length cap'] 123) = w7 at h7
                  have r1 : IntKind.i64.wrap (2 * (k : Int)) = 2 * (k : Int) := IntWalk.i64_in _ (by omega)
                  have r2 : IntKind.i64.wrap (2 * (k : Int) + 2) = 2 * (k : Int) + 2 := IntWalk.i64_in _ (by omega)
                  refine wp_region_L (fun w' => ∃ Q, Bears w' (Assn.obj pc (.cells #[.int .i64 sec, .slice ad' bs.length cap'] 123 (0, 0)) * Q)) 13
                    [(true, 0), (true, 1), (true, 2), (true, 3), (true, 4), (true, 5), (true, 6), (true, 7), (true, 8), (true, 9), (true, 10), (true, 11), (false, 12)] [] (by kernel_rfl) (by kernel_rfl) ⟨_, h7.drew⟩ ?_
                  simp only [pick, List.getElem?_cons_zero, List.getElem?_cons_succ]
                  refine wpL_yield (v := ?_) rfl (fun w' hS => ?_) ?_
                  rotate_left
                  · (go_simp; try with_reducible rfl)
                  simp only [Act.put, List.setIfInBounds_toArray, List.set_cons_zero, List.set_cons_succ]
                  refine wpL_yield (v := ?_) rfl (fun w' hS => ?_) ?_
                  rotate_left
                  · (go_simp; try with_reducible rfl)
                  simp only [Act.put, List.setIfInBounds_toArray, List.set_cons_zero, List.set_cons_succ]
                  refine wpL_yield (v := ?_) rfl (fun w' hS => ?_) ?_
                  rotate_left
                  · (go_simp; try with_reducible rfl)
                  simp only [Act.put, List.setIfInBounds_toArray, List.set_cons_zero, List.set_cons_succ]
                  refine wpL_yield (v := ?_) rfl (fun w' hS => ?_) ?_
                  rotate_left
                  · (go_simp; try with_reducible rfl)
                  simp only [Act.put, List.setIfInBounds_toArray, List.set_cons_zero, List.set_cons_succ]
                  refine wpL_yield (v := ?_) rfl (fun w' hS => ?_) ?_
                  rotate_left
                  · (go_simp; try with_reducible rfl)
                  simp only [Act.put, List.setIfInBounds_toArray, List.set_cons_zero, List.set_cons_succ]
                  refine wpL_yield (v := ?_) rfl (fun w' hS => ?_) ?_
                  rotate_left
                  · (go_simp; try with_reducible rfl)
                  simp only [Act.put, List.setIfInBounds_toArray, List.set_cons_zero, List.set_cons_succ]
                  refine wpL_yield (v := ?_) rfl (fun w' hS => ?_) ?_
                  rotate_left
                  · (go_simp; try with_reducible rfl)
                  simp only [Act.put, List.setIfInBounds_toArray, List.set_cons_zero, List.set_cons_succ]
                  refine wpL_yield (v := ?_) rfl (fun w' hS => ?_) ?_
                  rotate_left
                  · (go_simp; try with_reducible rfl)
                  simp only [Act.put, List.setIfInBounds_toArray, List.set_cons_zero, List.set_cons_succ]
                  refine wpL_yield (v := ?_) rfl (fun w' hS => ?_) ?_
                  rotate_left
                  · (go_simp; try with_reducible rfl)
                  simp only [Act.put, List.setIfInBounds_toArray, List.set_cons_zero, List.set_cons_succ]
                  have hz8 : ∀ w, (Go.sizeOf 5).run Try.prog w = .ok 1 w := fun w => by kernel_rfl
                  refine wpL_yield rfl (fun w' hS => exec_slice3 (lo := 2 * k) (hi := 2 * k + 2) (mx := 2 * k + 2) rfl Try.underlying33 (hz8 w') rfl (by go_simp) (by go_simp) (by go_simp) (by omega) (by omega) (by omega)) ?_
                  simp only [Act.put, List.setIfInBounds_toArray, List.set_cons_zero, List.set_cons_succ]
                  rw [show 2 * k + 2 - 2 * k = 2 by omega]
                  refine wpL_yield (v := ?_) rfl (fun w' hS => ?_) ?_
                  rotate_left
                  · (obtain ⟨_, hS⟩ := hS; obtain ⟨p0, p1⟩ := put_cells hS; go_simp; try with_reducible rfl)
                  simp only [Act.put, List.setIfInBounds_toArray, List.set_cons_zero, List.set_cons_succ]
                  refine wpL_yield (v := ?_) rfl (fun w' hS => ?_) ?_
                  rotate_left
                  · (obtain ⟨_, hS⟩ := hS; obtain ⟨p0, p1⟩ := put_cells hS; go_simp; try with_reducible rfl)
                  simp only [Act.put, List.setIfInBounds_toArray, List.set_cons_zero, List.set_cons_succ]
                  refine wpL_eff rfl ?_
                  go_simp
                  refine (number_any (o := 2 * k) (m := 2) h7.drew.pull2 sec (by rw [hlen64]; omega) (by decide)).mono ?_
                  rintro e w8 ⟨rfl, h8⟩
                  rw [Hsu.out] at h8
                  refine ⟨⟨_, h8.pull2⟩, ?_⟩
                  refine wpL_nil ?_
                  refine wpL_nil ?_
                  go_wp2_with fail
                  go_roundw
                  case rel => exact ⟨k + 1, hlt2, by go_num, h8.pull2.right⟩
                  case measure => simp [intOf]; omega
                · obtain rfl : k = l.length - 32 * c := by omega
                  rw [wList_eq HN.out] at h6
                  obtain ⟨r, d2, hwr⟩ : ∃ r d2, dm.write ((at' + 1 + c : Nat) : Int) (wList l c) = (r, d2) := ⟨_, _, rfl⟩
                  have hl64 : (wList l c).length = 64 := by rw [← wList_eq HN.out]; exact wListTo_length (by omega) (by omega)
                  have HS := Hsucc.out
                  rw [hwr] at HS
                  have e3 : ((at' + 1 + c : Nat) : Int) = (at' : Int) + 1 + (c : Int) := by omega
                  rw [e3] at hwr
                  have Hwr := Lib.hid hwr
                  have HS2 := Lib.hid HS
                  clear hwr HS e3
                  go_wp2_with fail
                  have r1 : IntKind.i64.wrap ((at' : Int) + 1) = (at' : Int) + 1 := IntWalk.i64_in _ (by omega)
                  have r2 : (32 * (c : Int)).tdiv 32 = (c : Int) := by rw [Int.tdiv_eq_ediv_of_nonneg (by omega)]; omega
                  have r3 : IntKind.i64.wrap (c : Int) = (c : Int) := IntWalk.i64_in _ (by omega)
                  have r4 : IntKind.i64.wrap ((at' : Int) + 1 + (c : Int)) = (at' : Int) + 1 + (c : Int) := IntWalk.i64_in _ (by omega)
                  have r5 : 32 * (c : Int) / 32 = (c : Int) := by omega
                  have h6' := h6.pull2
                  refine wp_region_L (fun w' => ∃ Q, Bears w' (walObj x p at' size g * Q)) 14
                    [(true, 0), (true, 1), (true, 2), (true, 3), (true, 4), (true, 5), (true, 6), (true, 7), (true, 8), (true, 9), (true, 10), (true, 11), (true, 12), (false, 13)] [(true, 14)] (by kernel_rfl) (by kernel_rfl) ⟨_, h6'.drew⟩ ?_
                  simp only [pick, List.getElem?_cons_zero, List.getElem?_cons_succ]
                  refine wpL_yield (v := ?_) rfl (fun w' hS => ?_) ?_
                  rotate_left
                  · (obtain ⟨_, hS⟩ := hS; obtain ⟨c0, c1, c2, c3, _⟩ := wal_cells hS; go_simp; try with_reducible rfl)
                  simp only [Act.put, List.setIfInBounds_toArray, List.set_cons_zero, List.set_cons_succ]
                  refine wpL_yield (v := ?_) rfl (fun w' hS => ?_) ?_
                  rotate_left
                  · (obtain ⟨_, hS⟩ := hS; obtain ⟨c0, c1, c2, c3, _⟩ := wal_cells hS; go_simp; try with_reducible rfl)
                  simp only [Act.put, List.setIfInBounds_toArray, List.set_cons_zero, List.set_cons_succ]
                  refine wpL_yield (v := ?_) rfl (fun w' hS => ?_) ?_
                  rotate_left
                  · (obtain ⟨_, hS⟩ := hS; obtain ⟨c0, c1, c2, c3, _⟩ := wal_cells hS; go_simp; try with_reducible rfl)
                  simp only [Act.put, List.setIfInBounds_toArray, List.set_cons_zero, List.set_cons_succ]
                  refine wpL_yield (v := ?_) rfl (fun w' hS => ?_) ?_
                  rotate_left
                  · (obtain ⟨_, hS⟩ := hS; obtain ⟨c0, c1, c2, c3, _⟩ := wal_cells hS; go_simp; try with_reducible rfl)
                  simp only [Act.put, List.setIfInBounds_toArray, List.set_cons_zero, List.set_cons_succ]
                  refine wpL_yield (v := ?_) rfl (fun w' hS => ?_) ?_
                  rotate_left
                  · (obtain ⟨_, hS⟩ := hS; obtain ⟨c0, c1, c2, c3, _⟩ := wal_cells hS; go_simp; try with_reducible rfl)
                  simp only [Act.put, List.setIfInBounds_toArray, List.set_cons_zero, List.set_cons_succ]
                  refine wpL_yield (v := ?_) rfl (fun w' hS => ?_) ?_
                  rotate_left
                  · (obtain ⟨_, hS⟩ := hS; obtain ⟨c0, c1, c2, c3, _⟩ := wal_cells hS; go_simp; try with_reducible rfl)
                  simp only [Act.put, List.setIfInBounds_toArray, List.set_cons_zero, List.set_cons_succ]
                  refine wpL_yield (v := ?_) rfl (fun w' hS => ?_) ?_
                  rotate_left
                  · (obtain ⟨_, hS⟩ := hS; obtain ⟨c0, c1, c2, c3, _⟩ := wal_cells hS; go_simp; try with_reducible rfl)
                  simp only [Act.put, List.setIfInBounds_toArray, List.set_cons_zero, List.set_cons_succ]
                  refine wpL_yield (v := ?_) rfl (fun w' hS => ?_) ?_
                  rotate_left
                  · (obtain ⟨_, hS⟩ := hS; obtain ⟨c0, c1, c2, c3, _⟩ := wal_cells hS; go_simp; try with_reducible rfl)
                  simp only [Act.put, List.setIfInBounds_toArray, List.set_cons_zero, List.set_cons_succ]
                  refine wpL_yield (v := ?_) rfl (fun w' hS => ?_) ?_
                  rotate_left
                  · (obtain ⟨_, hS⟩ := hS; obtain ⟨c0, c1, c2, c3, _⟩ := wal_cells hS; go_simp; try with_reducible rfl)
                  simp only [Act.put, List.setIfInBounds_toArray, List.set_cons_zero, List.set_cons_succ]
                  refine wpL_yield (v := ?_) rfl (fun w' hS => ?_) ?_
                  rotate_left
                  · (obtain ⟨_, hS⟩ := hS; obtain ⟨c0, c1, c2, c3, _⟩ := wal_cells hS; go_simp; try with_reducible rfl)
                  simp only [Act.put, List.setIfInBounds_toArray, List.set_cons_zero, List.set_cons_succ]
                  refine wpL_yield (v := ?_) rfl (fun w' hS => ?_) ?_
                  rotate_left
                  · (obtain ⟨_, hS⟩ := hS; obtain ⟨c0, c1, c2, c3, _⟩ := wal_cells hS; go_simp; try with_reducible rfl)
                  simp only [Act.put, List.setIfInBounds_toArray, List.set_cons_zero, List.set_cons_succ]
                  refine wpL_yield (v := ?_) rfl (fun w' hS => ?_) ?_
                  rotate_left
                  · (obtain ⟨_, hS⟩ := hS; obtain ⟨c0, c1, c2, c3, _⟩ := wal_cells hS; go_simp; try with_reducible rfl)
                  simp only [Act.put, List.setIfInBounds_toArray, List.set_cons_zero, List.set_cons_succ]
                  refine wpL_yield (v := ?_) rfl (fun w' hS => ?_) ?_
                  rotate_left
                  · (obtain ⟨_, hS⟩ := hS; obtain ⟨c0, c1, c2, c3, _⟩ := wal_cells hS; go_simp; try with_reducible rfl)
                  simp only [Act.put, List.setIfInBounds_toArray, List.set_cons_zero, List.set_cons_succ]
                  refine wpL_eff rfl ?_
                  go_simp
                  refine (write_to h6.drew.pull3 Hwr.out (BytesIn.tells _ _ (by rw [hl64])) (by omega)).mono ?_
                  rintro e w8 ⟨rfl, h8⟩
                  have h9 : Bears w8 (walObj x p at' size g * (diskA p d2 * R)) := (h8.pull2.right).cast (by ac_rfl)
                  refine ⟨⟨_, h9⟩, ?_⟩
                  refine wpL_nil ?_
                  refine wpL_yield (v := ?_) rfl (fun w' hS => ?_) ?_
                  rotate_left
                  · (go_simp; try with_reducible rfl)
                  simp only [Act.put, List.setIfInBounds_toArray, List.set_cons_zero, List.set_cons_succ]
                  refine wpL_nil ?_
                  clear r1 r2 r3 r4 r5 h6 h6' h8
                  by_cases hr0 : r = 0
                  · subst hr0
                    clear Hwr
                    go_wp2_with fail
                    go_roundw
                    case rel => exact ⟨c + 1, hcl, by go_num, d2, HS2.out, h9⟩
                    case measure => simp [intOf]; omega
                  · have Hfin := Lib.hid (wCommit_lists (g := g) Hmay.out Hdk.out HS2.out hr0 (by omega))
                    clear Hwr
                    go_wp2_with fail
                    go_ret
                    rw [Hfin.out]
                    exact ⟨rfl, h9⟩
          · have hcl : c = listsN l.length := by unfold listsN at hc ⊢; omega
            obtain ⟨r, db, hbo⟩ : ∃ r db, wBoth dm at' size (wrap64 (g + 1)) l.length = (r, db) := ⟨_, _, rfl⟩
            rw [hcl] at hdm
            have Hfin := Lib.hid (wCommit_both (g := g) Hmay.out Hdk.out hdm hbo)
            have Hbo := Lib.hid hbo
            obtain ⟨c0, c1, c2, c3, f3⟩ := wal_cells h4
            have h5 : Bears (wr.setCell ⟨x, 3, none⟩ (.int .i64 (wrap64 (g + 1)))) (walObj x p at' size (wrap64 (g + 1)) * (diskA p dm * R)) := h4.setCell (i := 3) (.int .i64 (wrap64 (g + 1)))
            clear hdm hbo
            go_wp2_with fail
            refine (both_any h5 l.length (by omega)).mono ?_
            rintro e w5 ⟨rfl, h6⟩
            rw [Hbo.out] at h6 ⊢
            by_cases hr0 : r = 0
            · subst hr0
              by_cases hn0 : l.length = 0
              · have HF := Hfin.out
                rw [if_pos (.inr hn0)] at HF
                have HF2 := Lib.hid HF
                have n0 : ((l.length : Int) == 0) = true := by rw [beq_iff_eq]; omega
                clear HF Hfin
                go_wp2_with fail
                go_ret
                rw [HF2.out]
                exact ⟨rfl, h6⟩
              · have HF := Hfin.out
                rw [if_neg (by simp [hn0])] at HF
                have HF2 := Lib.hid HF
                have n0 : ((l.length : Int) == 0) = false := by rw [beq_eq_false_iff_ne]; omega
                have hwb : db.waits.length ≤ dm.waits.length + 1 := by have := wBoth_waits dm at' size (wrap64 (g + 1)) l.length; rw [Hbo.out] at this; exact this
                clear HF Hfin
                go_wp2_with fail
                refine (finish_any h6 l.length (by omega) hll ha hs).mono ?_
                rintro e w6 ⟨rfl, h7⟩
                go_wp2_with fail
                go_ret
                rw [HF2.out]
                exact ⟨rfl, h7⟩
            · have HF := Hfin.out
              rw [if_pos (.inl hr0)] at HF
              have HF2 := Lib.hid HF
              clear HF Hfin
              go_wp2_with fail
              go_ret
              rw [HF2.out]
              exact ⟨rfl, h6⟩
  · have hmay : wMay d.len at' size l = false := by simpa using hmay
    rw [wCommit_no hmay]
    have Hmay := Lib.hid hmay
    clear hmay
    go_enter Try.func72, Try.ntmps72
    go_wp2_with fail
    refine (may_any h l ad cap hl hlen ha hs).mono ?_
    rintro e w1 ⟨rfl, h1⟩
    rw [Hmay.out]
    go_wp2_with fail
    go_ret
    exact ⟨rfl, h1⟩

end Go.Proofs.Ytggbnelbnbaoiaa

/- The cache: how it lies in memory; no condition. -/
namespace Go.Proofs.Ytggbnelbnbaoiaa
open Go.RowKit Go.MapKept

/-- The map of the bytes that are held. -/
structure HasMap (Y : Assn) (hl : List (Int × Value)) (ls : List LineM) : Prop where
  no : ∀ i, findL i ls = none → getL i hl = none
  yes : ∀ i x, findL i ls = some x → ∃ ad cap, getL i hl = some (.slice ad x.b.length cap) ∧ Y.Tells (fun w => BytesIn w (.slice ad x.b.length cap) x.b)
/-- The map of the pinned places. -/
structure PinMap (pl : List (Int × Value)) (ls : List LineM) : Prop where
  has : ∀ i, (getL i pl).isSome = (match findL i ls with | some x => x.pin | none => false)
  count : pl.length = (ls.filter (·.pin)).length
def orderV (ls : List LineM) : List Value := ls.map fun x => .int .i64 x.at'

abbrev cacheObj (c p x : Nat) (cm : CacheM) (hb pb : Nat) (ov : Value) : Assn :=
  Assn.obj c (.cells #[.pointer (some ⟨p, 0, none⟩), .pointer (some ⟨x, 0, none⟩), .int .i64 cm.most, .int .i64 cm.misses, .bool cm.isOpen, .map (some hb), .map (some pb), ov] 110 (0, 0))

/-- How a cache lies in memory (its disk and its log lie beside). -/
def cacheA (c p x : Nat) (cm : CacheM) : Assn :=
  Assn.ex fun (z : Nat × Nat × Value × List (Int × Value) × List (Int × Value) × Assn) =>
    Assn.fact (cm.WF ∧ HasMap z.2.2.2.2.2 z.2.2.2.1 cm.lines ∧ PinMap z.2.2.2.2.1 cm.lines) *
    (cacheObj c p x cm z.1 z.2.1 z.2.2.1 * (mapA z.1 z.2.2.2.1 * (mapA z.2.1 z.2.2.2.2.1 * (rowA 3 1 z.2.2.1 cm.lines.length (orderV cm.lines) * z.2.2.2.2.2))))

theorem Bears.cache {w : World} {c p x : Nat} {cm : CacheM} {R : Assn} : Bears w (cacheA c p x cm * R) ↔ ∃ hb pb ov hl pl Y, cm.WF ∧ HasMap Y hl cm.lines ∧ PinMap pl cm.lines ∧
    Bears w (cacheObj c p x cm hb pb ov * (mapA hb hl * (mapA pb pl * (rowA 3 1 ov cm.lines.length (orderV cm.lines) * (Y * R))))) := by
  unfold cacheA
  rw [Bears.ex]
  simp only [Assn.mul_assoc']
  constructor
  · rintro ⟨⟨hb, pb, ov, hl, pl, Y⟩, h⟩
    obtain ⟨⟨h1, h2, h3⟩, h⟩ := Bears.fact.1 h
    exact ⟨hb, pb, ov, hl, pl, Y, h1, h2, h3, h⟩
  · rintro ⟨hb, pb, ov, hl, pl, Y, h1, h2, h3, h⟩
    exact ⟨⟨hb, pb, ov, hl, pl, Y⟩, Bears.fact.2 ⟨⟨h1, h2, h3⟩, h⟩⟩

end Go.Proofs.Ytggbnelbnbaoiaa

/- Walks of the cache's functions, part 1: New, Begin, Pinned, Misses; where a number stands in a row; no condition. -/
namespace Go.Proofs.Ytggbnelbnbaoiaa
open Go.RowKit Go.MapKept

def CacheM.new (most : Int) : CacheM := ⟨most, 0, false, []⟩

set_option maxHeartbeats 400000 in
theorem cnew_ok {R : Assn} {w : World} (h : Bears w R) (p x : Nat) (most : Int) (h1 : 1 ≤ most) (h2 : most ≤ 9223372036854775807) :
    Calls Try.prog 59 #[.pointer (some ⟨p, 0, none⟩), .pointer (some ⟨x, 0, none⟩), .int .i64 most] w fun e w' => ∃ c, e = .returned (.tuple #[.pointer (some ⟨c, 0, none⟩), .int .i64 0]) ∧ Bears w' (cacheA c p x (CacheM.new most) * R) := by
  have hmm := @run_makeMap Try.prog
  go_enter Try.func59, Try.ntmps59
  go_wp2
  go_ret2
  have h3 := (h.alloc (.map #[] 0)).toMapA (l := []) ⟨rfl, stamped_empty 0⟩
  have h4 := (h3.alloc (.map #[] 0)).toMapA (l := []) ⟨rfl, stamped_empty 0⟩
  have h5 := h4.alloc (.cells #[.pointer (some ⟨p, 0, none⟩), .pointer (some ⟨x, 0, none⟩), .int .i64 most, .int .i64 0, .bool false, .map (some w.heap.size), .map (some (w.heap.size + 1)), .slice none 0 0] 110)
  refine ⟨w.heap.size + 1 + 1, rfl, Bears.cache.2 ⟨w.heap.size, w.heap.size + 1, .slice none 0 0, [], [], Assn.emp, ⟨by simp [CacheM.new], by simp [CacheM.new], ⟨h1, h2⟩, by simp [CacheM.new], by simp [CacheM.new], by simp [CacheM.new]⟩, ⟨fun i _ => rfl, fun i x hx => by simp [CacheM.new, findL] at hx⟩, ⟨fun i => rfl, rfl⟩, ?_⟩⟩
  have h6 := Bears.pull2 ((Bears.nilRow (e := 3) (size := 1)).2 h5)
  refine h6.cast ?_
  simp only [CacheM.new, orderV, List.length_nil, List.map_nil, Assn.emp_mul, cacheObj]
  simp
  ac_rfl

theorem cache_cells {w : World} {c p x : Nat} {cm : CacheM} {hb pb : Nat} {ov : Value} {R : Assn} (h : Bears w (cacheObj c p x cm hb pb ov * R)) :
    (w.cell? ⟨c, 0, none⟩ = some (.pointer (some ⟨p, 0, none⟩)) ∧ w.cell? ⟨c, 1, none⟩ = some (.pointer (some ⟨x, 0, none⟩)) ∧ w.cell? ⟨c, 2, none⟩ = some (.int .i64 cm.most) ∧ w.cell? ⟨c, 3, none⟩ = some (.int .i64 cm.misses) ∧
      w.cell? ⟨c, 4, none⟩ = some (.bool cm.isOpen) ∧ w.cell? ⟨c, 5, none⟩ = some (.map (some hb)) ∧ w.cell? ⟨c, 6, none⟩ = some (.map (some pb)) ∧ w.cell? ⟨c, 7, none⟩ = some ov) ∧ ∀ i, w.frozen? ⟨c, i, none⟩ = false :=
  ⟨⟨cell_of_obj h.obj 0, cell_of_obj h.obj 1, cell_of_obj h.obj 2, cell_of_obj h.obj 3, cell_of_obj h.obj 4, cell_of_obj h.obj 5, cell_of_obj h.obj 6, cell_of_obj h.obj 7⟩, fun i => frozen_of_obj h.obj i⟩

theorem cmisses_any {c p x : Nat} {cm : CacheM} {R : Assn} {w : World} (h : Bears w (cacheA c p x cm * R)) :
    Calls Try.prog 40 #[.pointer (some ⟨c, 0, none⟩)] w fun e w' => e = .returned (.int .i64 cm.misses) ∧ w = w' := by
  obtain ⟨hb, pb, ov, hl, pl, Y, _, _, _, h0⟩ := Bears.cache.1 h
  obtain ⟨⟨c0, c1, c2, c3, c4, c5, c6, c7⟩, _⟩ := cache_cells h0
  go_enter Try.func40, Try.ntmps40
  go_wp2
  go_ret
  exact ⟨rfl, rfl⟩

def CacheM.begins (c : CacheM) : Int × CacheM := if c.isOpen = true then (30, c) else (0, { c with isOpen := true })

/-- Where a number stands first. -/
def idxL (i : Int) : List Int → Option Nat
  | [] => none
  | x :: r => if x = i then some 0 else (idxL i r).map (· + 1)

end Go.Proofs.Ytggbnelbnbaoiaa

/- Walks of the cache's functions, part 2: where a number stands in a row; no condition. -/
namespace Go.Proofs.Ytggbnelbnbaoiaa
open Go.RowKit Go.MapKept

theorem idxL_none {i : Int} : ∀ {l : List Int}, idxL i l = none ↔ i ∉ l
  | [] => by simp [idxL]
  | x :: r => by
    simp only [idxL]
    by_cases h : x = i
    · simp [h]
    · rw [if_neg h]
      have := idxL_none (i := i) (l := r)
      simp [this, Ne.symm h]
theorem idxL_some {i : Int} : ∀ {l : List Int} {k : Nat}, k < l.length → l.getD k 0 = i → (∀ j, j < k → l.getD j 0 ≠ i) → idxL i l = some k
  | [], _, h, _, _ => absurd h (by simp)
  | x :: r, 0, _, h, _ => by
    simp only [List.getD_cons_zero] at h
    simp [idxL, h]
  | x :: r, k + 1, h, h1, h2 => by
    have hx : x ≠ i := by have := h2 0 (by omega); simpa using this
    simp only [idxL]
    rw [if_neg hx, idxL_some (k := k) (by simpa using h) (by simpa using h1) (fun j hj => by have := h2 (j + 1) (by omega); simpa using this)]
    rfl
def idxV (i : Int) (l : List Int) : Int := match idxL i l with | some k => (k : Int) | none => -1
abbrev intsV (l : List Int) : List Value := l.map (Value.int .i64)

theorem Bears.rowObj' {w : World} {e : TypeId} {g c : Nat} {l : List Int} {R : Assn} (h : Bears w (rowA e 1 (.slice (some ⟨g, 0, none⟩) l.length c) l.length (intsV l) * R)) {k : Nat} (hk : k < l.length) :
    w.cell? ⟨g, k, none⟩ = some (.int .i64 (l.getD k 0)) := by
  obtain ⟨_, h⟩ := h.row
  rcases h with ⟨h, _⟩ | ⟨g', cap, cur, hv, _, hg, hn, hm, hs, ht⟩
  · cases h
  · simp only [Value.slice.injEq, Option.some.injEq, Addr.mk.injEq] at hv
    obtain ⟨⟨rfl, _⟩, _, rfl⟩ := hv
    rw [cell_of_obj hg]
    have e1 : cur[k]? = (cur.toList.take (l.length * 1))[k]? := by rw [List.getElem?_take_of_lt (by omega)]; simp
    rw [e1, ht]
    simp [hk]

set_option maxRecDepth 100000 in
set_option maxHeartbeats 400000 in
theorem sindex_any {ov : Value} {n : Nat} {l : List Int} {R : Assn} {w : World} (h : Bears w (rowA 3 1 ov n (intsV l) * R)) (hn : n = l.length) (i : Int) :
    Calls Try.prog 114 #[ov, .int .i64 i] w fun e w' => e = .returned (.int .i64 (idxV i l)) ∧ w = w' := by
  subst hn
  obtain ⟨a, c, rfl, hc, hm, hr⟩ := h.rowForm
  have hl63 : l.length ≤ 9223372036854775807 := by unfold maxLen at hm; omega
  go_enter Try.func114, Try.ntmps114
  go_wp2_with fail
  go_loopw [8] (fun t8 wr => ∃ k : Nat, k ≤ l.length ∧ t8 = .int .i64 k ∧ (∀ j, j < k → l.getD j 0 ≠ i) ∧ wr = w) (fun t8 _ => l.length - (intOf t8).toNat)
  case atStart => exact ⟨0, by omega, rfl, fun j hj => absurd hj (by omega), rfl⟩
  case round =>
    obtain ⟨k, hk, rfl, hno, rfl⟩ := hrel
    by_cases hlt : k < l.length
    · obtain ⟨g, rfl, _⟩ := hr k hlt
      have hcell := (Bears.rowObj' h hlt)
      obtain ⟨z, hz⟩ : ∃ z, l.getD k 0 = z := ⟨_, rfl⟩
      rw [hz] at hcell
      have Hz := Lib.hid hz
      have Hno := Lib.hid hno
      clear hz hno hr
      by_cases he : i = z
      · subst he
        go_wp2_with fail
        go_ret
        refine ⟨?_, rfl⟩
        unfold idxV
        rw [idxL_some hlt Hz.out Hno.out]
        rfl
      · have he1 : (i == z) = false := by rw [beq_eq_false_iff_ne]; exact he
        go_wp2_with fail
        go_roundw
        case rel =>
          refine ⟨k + 1, by omega, by go_num, fun j hj => ?_, by first | rfl | trivial⟩
          rcases Nat.lt_succ_iff_lt_or_eq.1 hj with hj | rfl
          · exact Hno.out j hj
          · rw [Hz.out]; exact Ne.symm he
        case measure => simp [intOf]; omega
    · obtain rfl : k = l.length := by omega
      have hi : idxL i l = none := by
        rw [idxL_none]
        intro hm
        obtain ⟨j, hj, rfl⟩ := List.mem_iff_getElem.1 hm
        exact hno j hj (by simp [hj])
      have Hi := Lib.hid hi
      clear hi hno hr
      go_wp2_with fail
      go_ret
      refine ⟨?_, rfl⟩
      unfold idxV
      rw [Hi.out]
      rfl

end Go.Proofs.Ytggbnelbnbaoiaa

/-
  DERIVED: THE SHELF's CONTRACTS AT THIS DUMP, IN PLAIN WORDS (tools/lay-plain.mjs out of 'TryShelf.lean', which tools/lay-shelf.mjs wrote): THE SAME DECLARATIONS UNDER THE SAME NAMES: 'import', 'namespace', 'open', 'def', 'theorem' AND NOTHING ELSE: no command of the shelf's: FOR A HAND-IN. Each laying: the table of numbers ('.._ren') and one theorem, a field a fact of the dump's own or the kernel's comparison; each contract: ONE APPLICATION.
-/
namespace Go.Proofs
open Go.Shelf
def Try.lays128_ren : Go.Shelf.Ren := ⟨fun | 128 => 134 | n => n, fun | 51 => 176 | 3 => 3 | 4 => 4 | 46 => 138 | 5 => 5 | 9 => 9 | n => n, fun | n => n⟩
theorem Try.lays128 : Go.Proofs.Lays.n128 Try.prog Try.lays128_ren := {
  mixed := by kernel_rfl
  f128 := Try.func134.trans (congrArg some (by kernel_rfl))
  t3 := Try.underlying3
  a3 := Try.isAgg3
  z3 := Try.sizeOf3
  v3 := Try.zeroValue3
  t4 := Try.underlying4
  a4 := Try.isAgg4
  z4 := Try.sizeOf4
  v4 := Try.zeroValue4
  t5 := Try.underlying5
  a5 := Try.isAgg5
  z5 := Try.sizeOf5
  v5 := Try.zeroValue5
  t9 := Try.underlying9
  a9 := Try.isAgg9
  z9 := Try.sizeOf9
  v9 := Try.zeroValue9
  t46 := Try.underlying138
  a46 := Try.isAgg138
  z46 := Try.sizeOf138
  v46 := Try.zeroValue138
  t51 := Try.underlying176
  a51 := Try.isAgg176
  z51 := Try.sizeOf176
  v51 := Try.zeroValue176 }
/-- bits.Len32: "Len32 returns the minimum number of bits required to represent x; the result is 0 for x == 0.": IT RETURNS 'Lib.bitLen x'; the world is as it was. ('h0', 'h1': x is a uint32.) (LAID: no walk: one application.) -/
theorem Try.bits_Len32 (x : Int) (w : World) (h0 : 0 ≤ x) (h1 : x ≤ 4294967295) :
    Calls Try.prog 134 #[.int .u32 x] w fun e w' => e = .returned (.int .i64 (Lib.bitLen x.toNat)) ∧ w' = w := Any.bits_Len32 Try.lays128 x w h0 h1
def Try.lays125_ren : Go.Shelf.Ren := ⟨fun | 125 => 124 | 128 => 134 | 129 => 135 | n => n, fun | 46 => 138 | 3 => 3 | 51 => 176 | 53 => 178 | 4 => 4 | 5 => 5 | 9 => 9 | n => n, fun | n => n⟩
theorem Try.lays125 : Go.Proofs.Lays.n125 Try.prog Try.lays125_ren := {
  mixed := by kernel_rfl
  f125 := Try.func124.trans (congrArg some (by kernel_rfl))
  f128 := Try.func134.trans (congrArg some (by kernel_rfl))
  f129 := Try.func135.trans (congrArg some (by kernel_rfl))
  t3 := Try.underlying3
  a3 := Try.isAgg3
  z3 := Try.sizeOf3
  v3 := Try.zeroValue3
  t4 := Try.underlying4
  a4 := Try.isAgg4
  z4 := Try.sizeOf4
  v4 := Try.zeroValue4
  t5 := Try.underlying5
  a5 := Try.isAgg5
  z5 := Try.sizeOf5
  v5 := Try.zeroValue5
  t9 := Try.underlying9
  a9 := Try.isAgg9
  z9 := Try.sizeOf9
  v9 := Try.zeroValue9
  t46 := Try.underlying138
  a46 := Try.isAgg138
  z46 := Try.sizeOf138
  v46 := Try.zeroValue138
  t51 := Try.underlying176
  a51 := Try.isAgg176
  z51 := Try.sizeOf176
  v51 := Try.zeroValue176
  t53 := Try.underlying178
  a53 := Try.isAgg178
  z53 := Try.sizeOf178
  v53 := Try.zeroValue178 }
/-- bits.Len: "Len returns the minimum number of bits required to represent x; the result is 0 for x == 0.": IT RETURNS 'Lib.bitLen x'; the world is as it was. (A uint has 64 bits in the model.) ITS CALLEE bits.Len64 IS MET BY ITS OWN CONTRACT OFF THE SHELF (lay that first). (LAID: no walk: one application.) -/
theorem Try.bits_Len (x : Int) (w : World) (h0 : 0 ≤ x) (h1 : x ≤ 18446744073709551615) :
    Calls Try.prog 124 #[.int .u64 x] w fun e w' => e = .returned (.int .i64 (Lib.bitLen x.toNat)) ∧ w' = w := Any.bits_Len Try.lays125 x w h0 h1
def Try.lays135_ren : Go.Shelf.Ren := ⟨fun | 135 => 46 | n => n, fun | 5 => 5 | 3 => 3 | 9 => 9 | n => n, fun | n => n⟩
theorem Try.lays135 : Go.Proofs.Lays.n135 Try.prog Try.lays135_ren := {
  mixed := by kernel_rfl
  f135 := Try.func46.trans (congrArg some (by kernel_rfl))
  t3 := Try.underlying3
  a3 := Try.isAgg3
  z3 := Try.sizeOf3
  v3 := Try.zeroValue3
  t5 := Try.underlying5
  a5 := Try.isAgg5
  z5 := Try.sizeOf5
  v5 := Try.zeroValue5
  t9 := Try.underlying9
  a9 := Try.isAgg9
  z9 := Try.sizeOf9
  v9 := Try.zeroValue9 }
/-- bits.OnesCount8: "OnesCount8 returns the number of one bits ("population count") in x.": IT RETURNS 'Lib.onesCount x'; the world is as it was. ('h0', 'h1': x is a uint8.) (LAID: no walk: one application.) -/
theorem Try.bits_OnesCount8 (x : Int) (w : World) (h0 : 0 ≤ x) (h1 : x ≤ 255) :
    Calls Try.prog 46 #[.int .u8 x] w fun e w' => e = .returned (.int .i64 (Lib.onesCount x.toNat)) ∧ w' = w := Any.bits_OnesCount8 Try.lays135 x w h0 h1
def Try.lays136_ren : Go.Shelf.Ren := ⟨fun | 136 => 118 | n => n, fun | 5 => 5 | 3 => 3 | 9 => 9 | n => n, fun | n => n⟩
theorem Try.lays136 : Go.Proofs.Lays.n136 Try.prog Try.lays136_ren := {
  mixed := by kernel_rfl
  f136 := Try.func118.trans (congrArg some (by kernel_rfl))
  t3 := Try.underlying3
  a3 := Try.isAgg3
  z3 := Try.sizeOf3
  v3 := Try.zeroValue3
  t5 := Try.underlying5
  a5 := Try.isAgg5
  z5 := Try.sizeOf5
  v5 := Try.zeroValue5
  t9 := Try.underlying9
  a9 := Try.isAgg9
  z9 := Try.sizeOf9
  v9 := Try.zeroValue9 }
/-- bits.TrailingZeros8: "TrailingZeros8 returns the number of trailing zero bits in x; the result is 8 for x == 0.": IT RETURNS 'Lib.trailingZeros8 x'; the world is as it was. ('h0', 'h1': x is a uint8.) (LAID: no walk: one application.) -/
theorem Try.bits_TrailingZeros8 (x : Int) (w : World) (h0 : 0 ≤ x) (h1 : x ≤ 255) :
    Calls Try.prog 118 #[.int .u8 x] w fun e w' => e = .returned (.int .i64 (Lib.trailingZeros8 x.toNat)) ∧ w' = w := Any.bits_TrailingZeros8 Try.lays136 x w h0 h1
def Try.lays215_ren : Go.Shelf.Ren := ⟨fun | 215 => 141 | n => n, fun | 3 => 3 | 4 => 4 | n => n, fun | n => n⟩
theorem Try.lays215 : Go.Proofs.Lays.n215 Try.prog Try.lays215_ren := {
  mixed := by kernel_rfl
  f215 := Try.func141.trans (congrArg some (by kernel_rfl))
  t3 := Try.underlying3
  a3 := Try.isAgg3
  z3 := Try.sizeOf3
  v3 := Try.zeroValue3
  t4 := Try.underlying4
  a4 := Try.isAgg4
  z4 := Try.sizeOf4
  v4 := Try.zeroValue4 }
open Go.RowKit in
/-- cmp.isNaN at int: 'x != x': false. (LAID: no walk: one application.) -/
theorem Try.cmp_isNaN_int (x : Int) (w : World) :
    Calls Try.prog 141 #[.int .i64 x] w fun e w' => e = .returned (.bool false) ∧ w' = w := Any.cmp_isNaN_int Try.lays215 x w
def Try.lays129_ren : Go.Shelf.Ren := ⟨fun | 129 => 135 | n => n, fun | 53 => 178 | 3 => 3 | 4 => 4 | 46 => 138 | 5 => 5 | 9 => 9 | n => n, fun | n => n⟩
theorem Try.lays129 : Go.Proofs.Lays.n129 Try.prog Try.lays129_ren := {
  mixed := by kernel_rfl
  f129 := Try.func135.trans (congrArg some (by kernel_rfl))
  t3 := Try.underlying3
  a3 := Try.isAgg3
  z3 := Try.sizeOf3
  v3 := Try.zeroValue3
  t4 := Try.underlying4
  a4 := Try.isAgg4
  z4 := Try.sizeOf4
  v4 := Try.zeroValue4
  t5 := Try.underlying5
  a5 := Try.isAgg5
  z5 := Try.sizeOf5
  v5 := Try.zeroValue5
  t9 := Try.underlying9
  a9 := Try.isAgg9
  z9 := Try.sizeOf9
  v9 := Try.zeroValue9
  t46 := Try.underlying138
  a46 := Try.isAgg138
  z46 := Try.sizeOf138
  v46 := Try.zeroValue138
  t53 := Try.underlying178
  a53 := Try.isAgg178
  z53 := Try.sizeOf178
  v53 := Try.zeroValue178 }
/-- bits.Len64: "Len64 returns the minimum number of bits required to represent x; the result is 0 for x == 0.": IT RETURNS 'Lib.bitLen x'; the world is as it was. ('h0', 'h1': x is a uint64.) (LAID: no walk: one application.) -/
theorem Try.bits_Len64 (x : Int) (w : World) (h0 : 0 ≤ x) (h1 : x ≤ 18446744073709551615) :
    Calls Try.prog 135 #[.int .u64 x] w fun e w' => e = .returned (.int .i64 (Lib.bitLen x.toNat)) ∧ w' = w := Any.bits_Len64 Try.lays129 x w h0 h1
def Try.lays189_ren : Go.Shelf.Ren := ⟨fun | 189 => 107 | 125 => 124 | 257 => 123 | 128 => 134 | 129 => 135 | 294 => 125 | 295 => 126 | 296 => 127 | 297 => 128 | 298 => 129 | 299 => 130 | 216 => 131 | 300 => 132 | 301 => 133 | 328 => 136 | 329 => 137 | 330 => 138 | 331 => 139 | 332 => 140 | 215 => 141 | 343 => 142 | n => n, fun | 28 => 40 | 3 => 3 | 46 => 138 | 0 => 0 | 51 => 176 | 53 => 178 | 4 => 4 | 183 => 170 | 182 => 169 | 131 => 150 | 5 => 5 | 9 => 9 | 218 => 179 | 222 => 141 | 228 => 184 | 229 => 185 | n => n, fun | n => n⟩
theorem Try.lays189 : Go.Proofs.Lays.n189 Try.prog Try.lays189_ren := {
  mixed := by kernel_rfl
  f125 := Try.func124.trans (congrArg some (by kernel_rfl))
  f128 := Try.func134.trans (congrArg some (by kernel_rfl))
  f129 := Try.func135.trans (congrArg some (by kernel_rfl))
  f189 := Try.func107.trans (congrArg some (by kernel_rfl))
  f215 := Try.func141.trans (congrArg some (by kernel_rfl))
  f216 := Try.func131.trans (congrArg some (by kernel_rfl))
  f257 := Try.func123.trans (congrArg some (by kernel_rfl))
  f294 := Try.func125.trans (congrArg some (by kernel_rfl))
  f295 := Try.func126.trans (congrArg some (by kernel_rfl))
  f296 := Try.func127.trans (congrArg some (by kernel_rfl))
  f297 := Try.func128.trans (congrArg some (by kernel_rfl))
  f298 := Try.func129.trans (congrArg some (by kernel_rfl))
  f299 := Try.func130.trans (congrArg some (by kernel_rfl))
  f300 := Try.func132.trans (congrArg some (by kernel_rfl))
  f301 := Try.func133.trans (congrArg some (by kernel_rfl))
  f328 := Try.func136.trans (congrArg some (by kernel_rfl))
  f329 := Try.func137.trans (congrArg some (by kernel_rfl))
  f330 := Try.func138.trans (congrArg some (by kernel_rfl))
  f331 := Try.func139.trans (congrArg some (by kernel_rfl))
  f332 := Try.func140.trans (congrArg some (by kernel_rfl))
  f343 := Try.func142.trans (congrArg some (by kernel_rfl))
  t0 := Try.underlying0
  a0 := Try.isAgg0
  z0 := Try.sizeOf0
  v0 := Try.zeroValue0
  t3 := Try.underlying3
  a3 := Try.isAgg3
  z3 := Try.sizeOf3
  v3 := Try.zeroValue3
  t4 := Try.underlying4
  a4 := Try.isAgg4
  z4 := Try.sizeOf4
  v4 := Try.zeroValue4
  t5 := Try.underlying5
  a5 := Try.isAgg5
  z5 := Try.sizeOf5
  v5 := Try.zeroValue5
  t9 := Try.underlying9
  a9 := Try.isAgg9
  z9 := Try.sizeOf9
  v9 := Try.zeroValue9
  t28 := Try.underlying40
  a28 := Try.isAgg40
  z28 := Try.sizeOf40
  v28 := Try.zeroValue40
  t46 := Try.underlying138
  a46 := Try.isAgg138
  z46 := Try.sizeOf138
  v46 := Try.zeroValue138
  t51 := Try.underlying176
  a51 := Try.isAgg176
  z51 := Try.sizeOf176
  v51 := Try.zeroValue176
  t53 := Try.underlying178
  a53 := Try.isAgg178
  z53 := Try.sizeOf178
  v53 := Try.zeroValue178
  t131 := Try.underlying150
  a131 := Try.isAgg150
  z131 := Try.sizeOf150
  v131 := Try.zeroValue150
  t182 := Try.underlying169
  a182 := Try.isAgg169
  z182 := Try.sizeOf169
  v182 := Try.zeroValue169
  t183 := Try.underlying170
  a183 := Try.isAgg170
  z183 := Try.sizeOf170
  v183 := Try.zeroValue170
  t218 := Try.underlying179
  a218 := Try.isAgg179
  z218 := Try.sizeOf179
  v218 := Try.zeroValue179
  t222 := Try.underlying141
  a222 := Try.isAgg141
  z222 := Try.sizeOf141
  v222 := Try.zeroValue141
  t228 := Try.underlying184
  a228 := Try.isAgg184
  z228 := Try.sizeOf184
  v228 := Try.zeroValue184
  t229 := Try.underlying185
  a229 := Try.isAgg185
  z229 := Try.sizeOf185
  v229 := Try.zeroValue185 }
open Go.Sort Go.RowKit in
theorem Try.slices_Sort_int (blk off cap : Nat) (zs : List Int) (w : World) (hH : Holds (Value.int .i64) w blk off zs.toArray) (hblk : blk < w.heap.size) (hsz : zs.length < 4611686018427387904) :
    Calls Try.prog 107 #[.slice (some ⟨blk, off, none⟩) zs.length cap] w fun e w' =>
      e = .returned (.tuple #[]) ∧ ∃ n os, w' = grow (putRow (Value.int .i64) (Sort.ahead w n) blk off (zs.mergeSort fun x y => decide (x ≤ y)).toArray) os := Any.slices_Sort_int Try.lays189 blk off cap zs w hH hblk hsz
def Try.lays108_ren : Go.Shelf.Ren := ⟨fun | 108 => 114 | n => n, fun | 28 => 40 | 3 => 3 | 0 => 0 | 4 => 4 | n => n, fun | n => n⟩
theorem Try.lays108 : Go.Proofs.Lays.n108 Try.prog Try.lays108_ren := {
  mixed := by kernel_rfl
  f108 := Try.func114.trans (congrArg some (by kernel_rfl))
  t0 := Try.underlying0
  a0 := Try.isAgg0
  z0 := Try.sizeOf0
  v0 := Try.zeroValue0
  t3 := Try.underlying3
  a3 := Try.isAgg3
  z3 := Try.sizeOf3
  v3 := Try.zeroValue3
  t4 := Try.underlying4
  a4 := Try.isAgg4
  z4 := Try.sizeOf4
  v4 := Try.zeroValue4
  t28 := Try.underlying40
  a28 := Try.isAgg40
  z28 := Try.sizeOf40
  v28 := Try.zeroValue40 }
open Go.Lib in
/-- slices.Index at []int: "Index returns the index of the first occurrence of v in s, or -1 if not present.": IT RETURNS 'Lib.idxOf (the elements) v'; the world is as it was. 'zs': what the cells behind the slice's address hold (its spare capacity too, if you have it); 'zs.take n': its elements. (LAID: no walk: one application.) -/
theorem Try.slices_Index_int (b off n c : Nat) (zs : List Int) (x : Int) (w : World) (hz : n ≤ zs.length) (hbig : n ≤ 9223372036854775807) (hc : ∀ j, j < zs.length → w.cell? ⟨b, off + j, none⟩ = some (.int .i64 (zs.getD j 0))) :
    Calls Try.prog 114 #[.slice (some ⟨b, off, none⟩) n c, .int .i64 x] w fun e w' => e = .returned (.int .i64 (Lib.idxOf (zs.take n) x)) ∧ w' = w := Any.slices_Index_int Try.lays108 b off n c zs x w hz hbig hc
open Go.Lib in
/-- The same at a slice of length 0, a nil one too: no cell is known, none is asked for. (LAID: no walk: one application.) -/
theorem Try.slices_Index_int_empty (a : Option Addr) (c : Nat) (x : Int) (w : World) :
    Calls Try.prog 114 #[.slice a 0 c, .int .i64 x] w fun e w' => e = .returned (.int .i64 (Lib.idxOf [] x)) ∧ w' = w := Any.slices_Index_int_empty Try.lays108 a c x w
def Try.laysNm215_ren : Go.Shelf.Ren := ⟨fun | 15 => 76 | n => n, fun | 22 => 40 | 3 => 3 | 4 => 4 | n => n, fun | n => n⟩
theorem Try.laysNm215 : Go.Proofs.Lays2.n15 Try.prog Try.laysNm215_ren := {
  mixed := by kernel_rfl
  f15 := Try.func76.trans (congrArg some (by kernel_rfl))
  t3 := Try.underlying3
  a3 := Try.isAgg3
  z3 := Try.sizeOf3
  v3 := Try.zeroValue3
  t4 := Try.underlying4
  a4 := Try.isAgg4
  z4 := Try.sizeOf4
  v4 := Try.zeroValue4
  t22 := Try.underlying40
  a22 := Try.isAgg40
  z22 := Try.sizeOf40
  v22 := Try.zeroValue40
  i3 := by kernel_rfl }
open Go.RowKit Go.Lib in
/-- slices.Clone at []int: "Clone returns a copy of the slice. The elements are copied using assignment, so this is a shallow clone. The result may have additional unused capacity. The result preserves the nilness of s.": OF A SLICE THAT IS NOT nil IT RETURNS A SLICE THAT IS NOT nil, OF THE SAME ELEMENTS, IN MEMORY OF THE CALL's OWN: in the how-to's words (6f): 'w'.ownsRow B e 1 v' n cells': v' begins at the head of a row among the blocks from B on (B: the heap's size at the call), not frozen, whose first cells are the elements · 'Below B w w'': below B all is as it was. The capacity is whatever the run-time gives. 'zs': what the cells behind the slice's address hold; 'zs.take n': its elements. (LAID: no walk: one application.) -/
theorem Try.slices_Clone_int (b off n c : Nat) (zs : List Int) (w : World) (hz : n ≤ zs.length) (hbig : n * 8 ≤ 140737488355328) (hc : ∀ j, j < zs.length → w.cell? ⟨b, off + j, none⟩ = some (.int .i64 (zs.getD j 0))) :
    Calls Try.prog 76 #[.slice (some ⟨b, off, none⟩) n c] w fun e w' => ∃ v', e = .returned v' ∧ w'.ownsRow w.heap.size 3 1 v' n ((zs.take n).map (Value.int .i64)) ∧ v' ≠ .slice none 0 0 ∧ Below w.heap.size w w' := Any.slices_Clone_int Try.laysNm215 b off n c zs w hz hbig hc
open Go.RowKit Go.Lib in
/-- The same at nil: nil comes back; the world is as it was. (LAID: no walk: one application.) -/
theorem Try.slices_Clone_int_nil (n c : Nat) (w : World) :
    Calls Try.prog 76 #[.slice none n c] w fun e w' => e = .returned (.slice none 0 0) ∧ w' = w := Any.slices_Clone_int_nil Try.laysNm215 n c w
open Go.RowKit Go.Lib in
/-- The same at a slice of length 0 that is not nil, WHATEVER ITS ADDRESS (no cell is asked for): a slice that is not nil and owns nothing comes back. (LAID: no walk: one application.) -/
theorem Try.slices_Clone_int_zero (a : Addr) (c : Nat) (w : World) :
    Calls Try.prog 76 #[.slice (some a) 0 c] w fun e w' => ∃ v', e = .returned v' ∧ w'.ownsRow w.heap.size 3 1 v' 0 [] ∧ v' ≠ .slice none 0 0 ∧ Below w.heap.size w w' := Any.slices_Clone_int_zero Try.laysNm215 a c w
def Try.laysNm237_ren : Go.Shelf.Ren := ⟨fun | 37 => 141 | n => n, fun | 3 => 3 | 4 => 4 | n => n, fun | n => n⟩
theorem Try.laysNm237 : Go.Proofs.Lays2.n37 Try.prog Try.laysNm237_ren := {
  mixed := by kernel_rfl
  f37 := Try.func141.trans (congrArg some (by kernel_rfl))
  t3 := Try.underlying3
  a3 := Try.isAgg3
  z3 := Try.sizeOf3
  v3 := Try.zeroValue3
  t4 := Try.underlying4
  a4 := Try.isAgg4
  z4 := Try.sizeOf4
  v4 := Try.zeroValue4 }
open Go.RowKit Go.Lib in
/-- cmp.isNaN[int]: 'x != x': false. (LAID: no walk: one application.) -/
theorem Try.cmp_isNaN_int2 (x : Int) (w : World) :
    Calls Try.prog 141 #[.int .i64 x] w fun e w' => e = .returned (.bool false) ∧ w' = w := Any.cmp_isNaN_int2 Try.laysNm237 x w
def Try.laysNm231_ren : Go.Shelf.Ren := ⟨fun | 31 => 131 | 37 => 141 | n => n, fun | 3 => 3 | 4 => 4 | n => n, fun | n => n⟩
theorem Try.laysNm231 : Go.Proofs.Lays2.n31 Try.prog Try.laysNm231_ren := {
  mixed := by kernel_rfl
  f31 := Try.func131.trans (congrArg some (by kernel_rfl))
  f37 := Try.func141.trans (congrArg some (by kernel_rfl))
  t3 := Try.underlying3
  a3 := Try.isAgg3
  z3 := Try.sizeOf3
  v3 := Try.zeroValue3
  t4 := Try.underlying4
  a4 := Try.isAgg4
  z4 := Try.sizeOf4
  v4 := Try.zeroValue4 }
open Go.RowKit Go.Lib in
/-- cmp.Less[int]: "Less reports whether x is less than y.": 'x < y'; the world is as it was. (LAID: no walk: one application.) -/
theorem Try.cmp_Less_int2 (x y : Int) (w : World) :
    Calls Try.prog 131 #[.int .i64 x, .int .i64 y] w fun e w' => e = .returned (.bool (decide (x < y))) ∧ w' = w := Any.cmp_Less_int2 Try.laysNm231 x y w
def Try.laysNm223_ren : Go.Shelf.Ren := ⟨fun | 23 => 115 | n => n, fun | 22 => 40 | 3 => 3 | 4 => 4 | 0 => 0 | n => n, fun | n => n⟩
theorem Try.laysNm223 : Go.Proofs.Lays2.n23 Try.prog Try.laysNm223_ren := {
  mixed := by kernel_rfl
  f23 := Try.func115.trans (congrArg some (by kernel_rfl))
  t0 := Try.underlying0
  a0 := Try.isAgg0
  z0 := Try.sizeOf0
  v0 := Try.zeroValue0
  t3 := Try.underlying3
  a3 := Try.isAgg3
  z3 := Try.sizeOf3
  v3 := Try.zeroValue3
  t4 := Try.underlying4
  a4 := Try.isAgg4
  z4 := Try.sizeOf4
  v4 := Try.zeroValue4
  t22 := Try.underlying40
  a22 := Try.isAgg40
  z22 := Try.sizeOf40
  v22 := Try.zeroValue40
  i3 := by kernel_rfl }
open Go.RowKit Go.Lib Go.Sort in
/-- slices.Delete at []int, over an array. (LAID: no walk: one application.) -/
theorem Try.slices_Delete_int_arr (blk off cap i j : Nat) (d : Array Int) (w : World) (hH : Holds encI w blk off d) (hcap : d.size ≤ cap) (hm : cap ≤ 9223372036854775807) (hij : i ≤ j) (hj : j ≤ d.size) :
    Calls Try.prog 115 #[.slice (some ⟨blk, off, none⟩) d.size cap, .int .i64 i, .int .i64 j] w fun e w' => e = .returned (.slice (some ⟨blk, off, none⟩) (d.size - (j - i)) cap) ∧ ∃ q, w' = putRow encI (Sort.ahead w q) blk off (d.toList.take i ++ d.toList.drop j ++ List.replicate (j - i) 0).toArray := Any.slices_Delete_int_arr Try.laysNm223 blk off cap i j d w hH hcap hm hij hj
open Go.RowKit Go.Lib Go.Sort in
/-- slices.Delete at []int: "Delete modifies s in place by removing the elements s[i:j], and returns the modified slice. Delete panics if j > len(s) or s[i:j] is not a valid slice of s. Delete is O(len(s)-i), so if many items must be deleted, it is better to make a single call deleting them all together than to delete one at a time. Delete zeroes the elements s[len(s)-(j-i):len(s)]. If the result is empty, it has the same nilness as s.": FOR i ≤ j ≤ len(s) IT RETURNS THE SLICE CUT TO len(s) - (j - i) ELEMENTS; ITS CELLS HOLD what stood ahead of i, what stood from j on, then j - i zero values; all else is as it was, but for the count of draws. IN THE WORDS OF slices.Sort's CONTRACT ('Holds', 'putRow'). It asks 'zs.length ≤ cap ≤ 2^63 - 1' (every slice's). (Outside i ≤ j ≤ len(s) it panics: no contract here.) (LAID: no walk: one application.) -/
theorem Try.slices_Delete_int (blk off cap i j : Nat) (zs : List Int) (w : World) (hH : Holds (Value.int .i64) w blk off zs.toArray) (hcap : zs.length ≤ cap) (hm : cap ≤ 9223372036854775807) (hij : i ≤ j) (hj : j ≤ zs.length) :
    Calls Try.prog 115 #[.slice (some ⟨blk, off, none⟩) zs.length cap, .int .i64 i, .int .i64 j] w fun e w' => e = .returned (.slice (some ⟨blk, off, none⟩) (zs.length - (j - i)) cap) ∧ ∃ q, w' = putRow (Value.int .i64) (Sort.ahead w q) blk off (zs.take i ++ zs.drop j ++ List.replicate (j - i) 0).toArray := Any.slices_Delete_int Try.laysNm223 blk off cap i j zs w hH hcap hm hij hj
open Go.RowKit Go.Lib Go.Sort in
/-- slices.Delete at []int, of an argument, for i ≤ j ≤ n: the slice cut to n - (j - i) elements; the n cells hold what stood ahead of i, what stood from j on, then zeros. (LAID: no walk: one application.) -/
theorem Try.slices_Delete_int_cells (b off n c i j : Nat) (zs : List Int) (w : World) (hz : n ≤ zs.length) (hcap : n ≤ c) (hm : c ≤ 9223372036854775807) (hij : i ≤ j) (hj : j ≤ n) (hc : ∀ j, j < zs.length → w.cell? ⟨b, off + j, none⟩ = some (.int .i64 (zs.getD j 0))) (hf : ∀ j, j < n → w.frozen? ⟨b, off + j, none⟩ = false) :
    Calls Try.prog 115 #[.slice (some ⟨b, off, none⟩) n c, .int .i64 i, .int .i64 j] w fun e w' => e = .returned (.slice (some ⟨b, off, none⟩) (n - (j - i)) c) ∧ ∃ q, w' = (w.drewN q).setCells b off (((zs.take n).take i ++ (zs.take n).drop j ++ List.replicate (j - i) 0).map (Value.int .i64)) := Any.slices_Delete_int_cells Try.laysNm223 b off n c i j zs w hz hcap hm hij hj hc hf
open Go.RowKit Go.Sort in
/-- .. and plain. (LAID: no walk: one application.) -/
theorem Try.slices_Sort_int_none (p : Option Addr) (cap : Nat) (w : World) :
    Calls Try.prog 107 #[.slice p 0 cap] w fun e w' => e = .returned (.tuple #[]) ∧ w' = w := Any.slices_Sort_int_none Try.lays189 p cap w
open Go.RowKit Go.Lib in
/-- slices.Delete at []int of no element ('Delete(s, 0, 0)'): s comes back; the world is as it was. (LAID: no walk: one application.) -/
theorem Try.slices_Delete_int_empty (a : Option Addr) (c : Nat) (w : World) :
    Calls Try.prog 115 #[.slice a 0 c, .int .i64 0, .int .i64 0] w fun e w' => e = .returned (.slice a 0 c) ∧ w' = w := Any.slices_Delete_int_empty Try.laysNm223 a c w
def Try.laysSlE041_f76_ren : Go.Shelf.Ren := ⟨fun | 41 => 76 | n => n, fun | 22 => 40 | 23 => 3 | 4 => 4 | n => n, fun | n => n⟩
theorem Try.laysSlE041_f76 : Go.Proofs.SlLaysE0.n41 Try.prog Try.laysSlE041_f76_ren := {
  mixed := by kernel_rfl
  f41 := ⟨Try.f76.name, by decide, Try.func76.trans (congrArg some (by kernel_rfl))⟩
  t4 := Try.underlying4
  a4 := Try.isAgg4
  z4 := Try.sizeOf4
  v4 := Try.zeroValue4
  t22 := Try.underlying40
  a22 := Try.isAgg40
  z22 := Try.sizeOf40
  v22 := Try.zeroValue40 }
open Go.RowKit Go.Lib in
/-- slices.Clone: "Clone returns a copy of the slice. The elements are copied using assignment, so this is a shallow clone. The result may have additional unused capacity. The result preserves the nilness of s.": OF A SLICE THAT IS NOT nil IT RETURNS A SLICE THAT IS NOT nil, OF THE SAME CELLS, IN MEMORY OF THE CALL's OWN ('ownsRow': the how-to's 6f); below the heap's size at the call all is as it was. (LAID AT THE INSTANCE 'slices.Clone[[]int,int]': no walk: one application.) -/
theorem Try.slices_Clone (i0 : TypeInfo) (z : Value) (size bytes : Nat) (hi : Try.prog.info? 3 = some i0) (hz0 : i0.zero = some z) (hz1 : i0.size = size) (hz2 : i0.bytes = bytes) (hzs : z.cells.size = size) (hsz : 0 < size) (z23 : ∀ w, (Go.sizeOf 3).run Try.prog w = .ok size w) (b off n c : Nat) (news : List Value) (w : World) (hl : news.length = n * size) (hn : n ≤ maxLen) (hbig : n * bytes ≤ 140737488355328) (hc : ∀ j u, news[j]? = some u → w.cell? ⟨b, off + j, none⟩ = some u) (h1 : ∀ u ∈ news, u.oneCell' = true) :
    Calls Try.prog 76 #[.slice (some ⟨b, off, none⟩) n c] w fun e w' => ∃ v', e = .returned v' ∧ w'.ownsRow w.heap.size 3 size v' n news ∧ v' ≠ .slice none 0 0 ∧ Below w.heap.size w w' := AnyE.slices_Clone Try.laysSlE041_f76 i0 z size bytes hi hz0 hz1 hz2 hzs hsz z23 b off n c news w hl hn hbig hc h1
open Go.RowKit Go.Lib in
/-- The same at nil: nil comes back; the world is as it was; nothing is asked of the element's type. (LAID AT THE INSTANCE 'slices.Clone[[]int,int]': no walk: one application.) -/
theorem Try.slices_Clone_nil (n c : Nat) (w : World) :
    Calls Try.prog 76 #[.slice none n c] w fun e w' => e = .returned (.slice none 0 0) ∧ w' = w := AnyE.slices_Clone_nil Try.laysSlE041_f76 n c w
def Try.keysA_ren : Go.Shelf.Ren := ⟨fun | 7 => 71 | 10 => 108 | n => n, fun | 23 => 108 | 26 => 3 | 3 => 3 | 28 => 120 | 0 => 0 | 27 => 119 | 33 => 136 | 4 => 4 | n => n, fun | n => n⟩
theorem Try.keysA : Go.Proofs.SlLaysZI.n7 Try.prog Try.keysA_ren := {
  mixed := by kernel_rfl
  f7 := ⟨Try.f71.name, by decide, Try.func71.trans (congrArg some (by kernel_rfl))⟩
  f10 := ⟨Try.f108.name, by decide, Try.func108.trans (congrArg some (by kernel_rfl))⟩
  t0 := Try.underlying0
  a0 := Try.isAgg0
  z0 := Try.sizeOf0
  v0 := Try.zeroValue0
  t4 := Try.underlying4
  a4 := Try.isAgg4
  z4 := Try.sizeOf4
  v4 := Try.zeroValue4
  t23 := Try.underlying108
  a23 := Try.isAgg108
  z23 := Try.sizeOf108
  v23 := Try.zeroValue108
  t26 := Try.underlying3
  a26 := Try.isAgg3
  z26 := Try.sizeOf3
  v26 := Try.zeroValue3
  t27 := Try.underlying119
  a27 := Try.isAgg119
  z27 := Try.sizeOf119
  v27 := Try.zeroValue119
  t28 := Try.underlying120
  a28 := Try.isAgg120
  z28 := Try.sizeOf120
  v28 := Try.zeroValue120
  t33 := Try.underlying136
  a33 := Try.isAgg136
  z33 := Try.sizeOf136
  v33 := Try.zeroValue136 }
def Try.sortedA_ren : Go.Shelf.Ren := ⟨fun | 6 => 70 | 8 => 106 | 9 => 107 | 11 => 122 | 13 => 124 | 12 => 123 | 23 => 134 | 24 => 135 | 14 => 125 | 15 => 126 | 16 => 127 | 17 => 128 | 18 => 129 | 19 => 130 | 20 => 131 | 21 => 132 | 22 => 133 | 25 => 136 | 26 => 137 | 27 => 138 | 28 => 139 | 29 => 140 | 30 => 141 | 31 => 142 | n => n, fun | 26 => 3 | 28 => 120 | 24 => 40 | 0 => 0 | 3 => 3 | 37 => 138 | 48 => 176 | 50 => 178 | 4 => 4 | 40 => 170 | 39 => 169 | 45 => 150 | 5 => 5 | 9 => 9 | 51 => 179 | 55 => 141 | 57 => 184 | 58 => 185 | 33 => 136 | n => n, fun | n => n⟩
theorem Try.sortedA : Go.Proofs.SlLaysZI.n6 Try.prog Try.sortedA_ren := {
  mixed := by kernel_rfl
  f6 := ⟨Try.f70.name, by decide, Try.func70.trans (congrArg some (by kernel_rfl))⟩
  f8 := ⟨Try.f106.name, by decide, Try.func106.trans (congrArg some (by kernel_rfl))⟩
  f11 := ⟨Try.f122.name, by decide, Try.func122.trans (congrArg some (by kernel_rfl))⟩
  t0 := Try.underlying0
  a0 := Try.isAgg0
  z0 := Try.sizeOf0
  v0 := Try.zeroValue0
  t24 := Try.underlying40
  a24 := Try.isAgg40
  z24 := Try.sizeOf40
  v24 := Try.zeroValue40
  t26 := Try.underlying3
  a26 := Try.isAgg3
  z26 := Try.sizeOf3
  v26 := Try.zeroValue3
  t28 := Try.underlying120
  a28 := Try.isAgg120
  z28 := Try.sizeOf120
  v28 := Try.zeroValue120
  i26 := by kernel_rfl }
end Go.Proofs

/- Walks of the cache's functions, part 3: an element taken out of a row; no condition. -/
namespace Go.Proofs.Ytggbnelbnbaoiaa
open Go.RowKit Go.MapKept Go.Sort Go.Lib

theorem heap_putRow {w : World} {g q : Nat} {d : Array Int} {cur : Array Value} {t : TypeId} {fz : Nat × Nat} (hg : w.heap[g]? = some (.cells cur t fz)) :
    (putRow (Value.int .i64) (Sort.ahead w q) g 0 d).heap[g]? = some (.cells (putCells (Value.int .i64) 0 d cur) t fz) := by
  unfold putRow mapBlock
  show (w.heap.modify g _)[g]? = _
  rw [Array.getElem?_modify, if_pos rfl, hg]
  rfl
theorem heap_putRow_other {w : World} {g q b : Nat} {d : Array Int} (hb : b ≠ g) : (putRow (Value.int .i64) (Sort.ahead w q) g 0 d).heap[b]? = w.heap[b]? := by
  unfold putRow mapBlock
  show (w.heap.modify g _)[b]? = _
  rw [Array.getElem?_modify, if_neg (Ne.symm hb)]
  try rfl

set_option maxRecDepth 100000 in
set_option maxHeartbeats 400000 in
theorem sdelete_any {ov : Value} {n : Nat} {l : List Int} {R : Assn} {w : World} (h : Bears w (rowA 3 1 ov n (intsV l) * R)) (hn : n = l.length) {k : Nat} (hk : k < l.length) :
    Calls Try.prog 115 #[ov, .int .i64 k, .int .i64 ((k + 1 : Nat) : Int)] w fun e w' => ∃ ov', e = .returned ov' ∧ Bears w' (rowA 3 1 ov' (n - 1) (intsV (l.eraseIdx k)) * R) := by
  subst hn
  obtain ⟨a, c, rfl, hc, hm, hr⟩ := h.rowForm
  obtain ⟨g, rfl, _⟩ := hr k hk
  clear hr
  have hcell := fun j (hj : j < l.length) => h.rowObj' hj
  obtain ⟨hl, hx⟩ := h.row
  rcases hx with ⟨hx, _⟩ | ⟨g', cap, cur, hv, _, hg, hn, hm', hs, ht⟩
  · cases hx
  simp only [Value.slice.injEq, Option.some.injEq, Addr.mk.injEq] at hv
  obtain ⟨⟨rfl, _⟩, _, rfl⟩ := hv
  have hH : Holds (Value.int .i64) w g 0 l.toArray := by
    intro j hj
    have hj' : j < l.length := by simpa using hj
    refine ⟨?_, frozen_of_obj hg _⟩
    rw [Nat.zero_add, hcell j hj']
    simp [hj']
  refine (Go.Proofs.Try.slices_Delete_int g 0 c k (k + 1) l w hH hc (by unfold maxLen at hm; omega) (by omega) (by omega)).mono ?_
  rintro e w' ⟨rfl, q, rfl⟩
  rw [show k + 1 - k = 1 by omega]
  refine ⟨_, rfl, ?_⟩
  obtain ⟨F, G, H, ⟨h1, rfl⟩, hR, hd, rfl⟩ := h
  refine ⟨_, _, H, ⟨⟨?_, .inr ⟨g, c, _, rfl, Nat.zero_le _, heap_putRow hg, by omega, hm, ?_, ?_⟩⟩, rfl⟩, R.loc hR ⟨rfl, rfl, rfl, ?_⟩ (fun b hb => heap_putRow_other (fun e => hd b (by rw [e]; rfl) hb)), hd, rfl⟩
  · simp [List.length_eraseIdx, hk]
  · simp [putCells, hs]
  · rw [List.eraseIdx_eq_take_drop_succ]
    have hel : (l.take k ++ l.drop (k + 1)).length = l.length - 1 := by simp; omega
    generalize l.take k ++ l.drop (k + 1) = e at hel
    apply List.ext_getElem
    · simp [putCells, hs, hel]
      omega
    · intro j h1 h2
      have hj : j < e.length := by simpa using h2
      simp only [List.getElem_take, Array.getElem_toList, putCells, Array.getElem_mapIdx, intsV, List.getElem_map]
      rw [if_pos ⟨Nat.zero_le _, by simp; omega⟩]
      congr 1
      simp only [Nat.sub_zero]
      rw [getElem!_pos _ j (by simp; omega)]
      simp [hj]
  · simp [putRow, mapBlock, Sort.ahead]

end Go.Proofs.Ytggbnelbnbaoiaa

/- Walks of the cache's functions, part 4: forget; no condition. -/
namespace Go.Proofs.Ytggbnelbnbaoiaa
open Go.RowKit Go.MapKept

theorem orderV_eq (ls : List LineM) : orderV ls = intsV (ls.map (·.at')) := by simp [orderV, intsV, Function.comp_def]
theorem forgetL_idx {i : Int} : ∀ {ls : List LineM} {k : Nat}, idxL i (ls.map (·.at')) = some k → k < ls.length ∧ (forgetL i ls).map (·.at') = (ls.map (·.at')).eraseIdx k
  | [], _, h => by simp [idxL] at h
  | x :: r, k, h => by
    simp only [List.map_cons, idxL] at h
    simp only [forgetL]
    by_cases e : x.at' = i
    · rw [if_pos e] at h ⊢
      simp only [Option.some.injEq] at h
      subst h
      exact ⟨by simp, rfl⟩
    · rw [if_neg e] at h ⊢
      cases hi : idxL i (r.map (·.at')) with
      | none => simp [hi] at h
      | some j =>
        simp only [hi, Option.map_some, Option.some.injEq] at h
        subst h
        obtain ⟨h1, h2⟩ := forgetL_idx hi
        exact ⟨by simp; omega, by simp [h2]⟩
theorem findL_idx {i : Int} : ∀ {ls : List LineM}, idxL i (ls.map (·.at')) = none → findL i ls = none
  | [], _ => rfl
  | x :: r, h => by
    simp only [List.map_cons, idxL] at h
    by_cases e : x.at' = i
    · rw [if_pos e] at h; cases h
    · rw [if_neg e] at h
      simp only [findL]
      rw [if_neg e]
      exact findL_idx (by simpa using h)

theorem u_has : Try.prog.underlying 107 = some (.map 3 33) := by kernel_rfl

set_option maxRecDepth 100000 in
set_option maxHeartbeats 800000 in
theorem forget_any {c p x : Nat} {cm : CacheM} {hb pb : Nat} {ov : Value} {hl : List (Int × Value)} {X : Assn} {w : World} {ls : List LineM} {n : Nat} (hn : n = ls.length)
    (h : Bears w (cacheObj c p x cm hb pb ov * (mapA hb hl * (rowA 3 1 ov n (orderV ls) * X)))) (i : Int) :
    Calls Try.prog 75 #[.pointer (some ⟨c, 0, none⟩), .int .i64 i] w fun e w' => e = .returned (.tuple #[]) ∧ ∃ ov', Bears w' (cacheObj c p x cm hb pb ov' * (mapA hb (delL i hl) *
      (rowA 3 1 ov' (forgetL i ls).length (orderV (forgetL i ls)) * X))) := by
  subst hn
  obtain ⟨⟨c0, c1, c2, c3, c4, c5, c6, c7⟩, _⟩ := cache_cells h
  obtain ⟨a, cap, rfl, hc, hm, _⟩ := h.pull3.rowForm
  have hlen : ls.length ≤ 9223372036854775806 ∨ True := .inr trivial
  go_enter Try.func75, Try.ntmps75
  go_wp2_with (refine wpList_delete_bears h.pull2 rfl rfl u_has u_int rfl rfl ?_; intro w2 h2; obtain ⟨⟨_, _, _, _, _, _, _, d7⟩, f⟩ := cache_cells h2.pull2; have f7 := f 7)
  have h3 := h2.pull3
  rw [orderV_eq] at h3
  refine (sindex_any h3 (by simp) i).mono ?_
  rintro e w' ⟨rfl, rfl⟩
  cases hk : idxL i (ls.map (·.at')) with
  | none =>
    have e1 : idxV i (ls.map (·.at')) = -1 := by unfold idxV; rw [hk]
    rw [e1]
    have hf := forgetL_none (findL_idx hk)
    have Hf := Lib.hid hf
    clear hk e1 hf
    go_wp2_with fail
    go_end0
    refine ⟨rfl, .slice a ls.length cap, ?_⟩
    rw [Hf.out]
    exact h2.pull2
  | some k =>
    have e1 : idxV i (ls.map (·.at')) = (k : Int) := by unfold idxV; rw [hk]
    rw [e1]
    obtain ⟨hkl, hfe⟩ := forgetL_idx hk
    have Hfe := Lib.hid hfe
    have hk63 : (k : Int) + 1 ≤ 9223372036854775807 := by unfold maxLen at hm; omega
    have hk0 : (0 : Int) ≤ (k : Int) := by omega
    have hwr : wrap64 ((k : Int) + 1) = (k : Int) + 1 := by unfold wrap64; omega
    have hdel := sdelete_any (k := k) h3 (by simp) (by simpa using hkl)
    rw [show ((k + 1 : Nat) : Int) = (k : Int) + 1 by omega] at hdel
    clear hk e1 hfe
    go_wp2_with fail
    refine hdel.mono ?_
    rintro e w4 ⟨ov', rfl, h4⟩
    have h5 := h4.pull3
    obtain ⟨a2, cap2, rfl, _⟩ := h4.rowForm
    have g7 := (cache_cells h5).1.2.2.2.2.2.2.2
    have gf7 := (cache_cells h5).2 7
    have h6 := h5.setCell (i := 7) (.slice a2 (ls.length - 1) cap2)
    go_wp2_with fail
    go_end0
    refine ⟨rfl, .slice a2 (ls.length - 1) cap2, ?_⟩
    rw [orderV_eq, Hfe.out]
    have hlen2 : (forgetL i ls).length = ls.length - 1 := by
      have := congrArg List.length Hfe.out
      simp [List.length_eraseIdx, hkl] at this
      exact this
    rw [hlen2]
    exact (h6.cast (by simp [cacheObj]; ac_rfl))

end Go.Proofs.Ytggbnelbnbaoiaa
