/- The walk of DiskBoots; no condition. -/
import Derived.Test.YtcfdnkmllpphfaaPure1
import Derived.Test.YtcfdnkmllpphfaaLawC
import Derived.Deep.DeepCutAuto
import Derived.Deep.CutBlock
namespace Go.Proofs.Ytcfdnkmllpphfaa
open Go.RowKit Go.MapKept

def mod8 (i : Nat) : Nat := i % 8
def mod58 (i : Nat) : Nat := 5 * i % 8

theorem kept_all (ks : List Int) (h : ∀ k, keeps ks k = true) : ∀ (l : List (Nat × Sec)) (j : Nat), kept ks j l = l
  | [], _ => rfl
  | p :: l, j => by simp only [kept, h j, if_true, kept_all ks h l (j + 1)]
theorem kept_none (ks : List Int) (h : ∀ k, keeps ks k = false) : ∀ (l : List (Nat × Sec)) (j : Nat), kept ks j l = []
  | [], _ => rfl
  | p :: l, j => by
    simp only [kept, h j]
    exact kept_none ks h l (j + 1)

set_option maxRecDepth 100000 in
set_option maxHeartbeats 1000000 in
theorem boots_any {R : Assn} {w : World} (h : Bears w R) (l1 l2 : List UInt8) (a1 a2 : Option Addr) (c1 c2 : Nat)
    (t1 : R.Tells (fun w => BytesIn w (.slice a1 l1.length c1) l1)) (t2 : R.Tells (fun w => BytesIn w (.slice a2 l2.length c2) l2))
    (b1 : l1.length ≤ 9223372036854775807) (b2 : l2.length ≤ 9223372036854775807) :
    Calls Try.prog 7 #[.slice a1 l1.length c1, .slice a2 l2.length c2] w fun e w' => e = .returned (.bool true) ∧ Bears w' R := by
  go_enter Try.func7, Try.ntmps7
  go_wp2_with fail
  refine (shown_any h).mono ?_
  rintro e w1 ⟨rfl, h1⟩
  go_wp2_with fail
  refine (new_ok h1 8 (by omega) (by omega)).mono ?_
  rintro e w2 ⟨p, rfl, h2⟩
  clear h h1
  go_upto_block 0 with (fail)
  go_cut [8] (fun _ wr => ∃ d : DiskM, d.Plain ∧ d.len = 8 ∧ d.sure = (fun _ => zeroSec) ∧ d.waits = fulls mod8 l1 (min l1.length 40) ∧ Bears wr (diskA p d * (R)))
  case first =>
    go_wp2_with fail
    go_loopw [8] (fun i wr => ∃ k : Nat, k ≤ l1.length ∧ k ≤ 40 ∧ i = .int .i64 k ∧ ∃ d : DiskM, d.Plain ∧ d.len = 8 ∧ d.sure = (fun _ => zeroSec) ∧ d.waits = fulls mod8 l1 k ∧ Bears wr (diskA p d * (R)))
      (fun i _ => 40 - (intOf i).toNat)
    case atStart => exact ⟨0, by omega, by omega, rfl, _, DiskM.new_plain 8, rfl, rfl, rfl, h2⟩
    case round =>
      obtain ⟨k, hk, hkN, rfl, d, hd, hd8, hds, hdw, h3⟩ := hrel
      have hdl : d.waits.length < 1099511627776 := by rw [hdw]; simp [fulls]; omega
      by_cases hlt : k < l1.length ∧ k < 40
      · obtain ⟨hlt, hltN⟩ := hlt
        obtain ⟨b, o, hab, hcell⟩ := (t1 _ h3.right).cell hlt
        subst hab
        have m0 : (0 : Int) ≤ (k : Int) % 8 := by omega
        have m1 : (k : Int) % 8 < 8 := by omega
        have e1 := fulls_succ mod8 l1 k
        generalize hc : l1.getD k 0 = c at hcell e1
        have HW := Lib.hid (hd.write' (i := (k : Int) % 8) (n := mod8 k) (by unfold mod8; omega) (by rw [hd8]; unfold mod8; omega) (fullS_length c))
        have Hdw := Lib.hid hdw
        have Hds := Lib.hid hds
        have Hd8 := Lib.hid hd8
        have E1 := Lib.hid e1
        clear hdw hds hd8 hc e1
        go_wp2_with fail
        refine (full_any h3 c).mono ?_
        rintro e w5 ⟨g, rfl, h5⟩
        go_wp2_with fail
        refine (write_to h5.pull2 HW.out (BytesIn.tells _ _ rfl) hdl).mono ?_
        rintro e w6 ⟨rfl, h6⟩
        have h7 := h6.pull2.right
        clear h3 h5 h6
        go_wp2_with fail
        go_roundw
        case rel =>
          refine ⟨k + 1, hlt, hltN, by go_num, d.put (mod8 k) (fullS c), hd.put _ _, Hd8.out, Hds.out, ?_, h7⟩
          rw [E1.out, ← Hdw.out]; rfl
        case measure => simp [intOf]; omega
      · go_wp2_with fail
        all_goals
          go_meet
          case rel =>
            have hkk : k = min l1.length 40 := by omega
            rw [← hkk]
            exact ⟨d, hd, hd8, hds, hdw, h3⟩
  case' rest =>
    obtain ⟨d, hd, hd8, hds, hdw, h5⟩ := hcut
    have hdl : d.waits.length < 1099511627776 := by rw [hdw]; simp [fulls]; omega
  have hb := hd.bar
  have hb8 : d.bar.len = 8 := hd8
  have hbw : d.bar.waits = [] := rfl
  have Hdw := Lib.hid hdw
  have Hds := Lib.hid hds
  have Hd8 := Lib.hid hd8
  clear hdw hds hd8
  go_wp2_with fail
  refine (barrier_to h5 hd.barrier hdl).mono ?_
  rintro e w4 ⟨rfl, h4⟩
  generalize d.bar = d1 at hb hb8 hbw h4
  have HW1 := Lib.hid hbw
  have HB8 := Lib.hid hb8
  clear h5 h2 hbw hb8
  go_wp2_with fail
  refine (clone_any h4 (by rw [HW1.out]; decide)).mono ?_
  rintro e w5 ⟨q, rfl, h5⟩
  go_upto_block 2 with (fail)
  go_cut [10] (fun _ wr => ∃ d : DiskM, d.Plain ∧ d.len = 8 ∧ d.sure = d1.sure ∧ d.waits = fulls mod58 l2 (min l2.length 40) ∧ Bears wr (diskA p d * (diskA q d1 * R)))
  case first =>
    go_wp2_with fail
    go_loopw [10] (fun i wr => ∃ k : Nat, k ≤ l2.length ∧ k ≤ 40 ∧ i = .int .i64 k ∧ ∃ d : DiskM, d.Plain ∧ d.len = 8 ∧ d.sure = d1.sure ∧ d.waits = fulls mod58 l2 k ∧ Bears wr (diskA p d * (diskA q d1 * R)))
      (fun i _ => 40 - (intOf i).toNat)
    case atStart => exact ⟨0, by omega, by omega, rfl, d1, hb, HB8.out, rfl, HW1.out, h5.pull2⟩
    case round =>
      obtain ⟨k, hk, hkN, rfl, d, hd, hd8, hds, hdw, h3⟩ := hrel
      have hdl : d.waits.length < 1099511627776 := by rw [hdw]; simp [fulls]; omega
      by_cases hlt : k < l2.length ∧ k < 40
      · obtain ⟨hlt, hltN⟩ := hlt
        obtain ⟨b, o, hab, hcell⟩ := (t2 _ h3.right.right).cell hlt
        subst hab
        have m0 : (0 : Int) ≤ 5 * (k : Int) % 8 := by omega
        have m1 : 5 * (k : Int) % 8 < 8 := by omega
        have e1 := fulls_succ mod58 l2 k
        generalize hc : l2.getD k 0 = c at hcell e1
        have HW := Lib.hid (hd.write' (i := 5 * (k : Int) % 8) (n := mod58 k) (by unfold mod58; omega) (by rw [hd8]; unfold mod58; omega) (fullS_length c))
        have Hdw := Lib.hid hdw
        have Hds := Lib.hid hds
        have Hd8 := Lib.hid hd8
        have E1 := Lib.hid e1
        clear hdw hds hd8 hc e1
        go_wp2_with fail
        refine (full_any h3 c).mono ?_
        rintro e w5 ⟨g, rfl, h5⟩
        go_wp2_with fail
        refine (write_to h5.pull2 HW.out (BytesIn.tells _ _ rfl) hdl).mono ?_
        rintro e w6 ⟨rfl, h6⟩
        have h7 := h6.pull2.right
        clear h3 h5 h6
        go_wp2_with fail
        go_roundw
        case rel =>
          refine ⟨k + 1, hlt, hltN, by go_num, d.put (mod58 k) (fullS c), hd.put _ _, Hd8.out, Hds.out, ?_, h7⟩
          rw [E1.out, ← Hdw.out]; rfl
        case measure => simp [intOf]; omega
      · go_wp2_with fail
        all_goals
          go_meet
          case rel =>
            have hkk : k = min l2.length 40 := by omega
            rw [← hkk]
            exact ⟨d, hd, hd8, hds, hdw, h3⟩
  case' rest =>
    obtain ⟨d2, hd, hd8, hds, hdw, h5⟩ := hcut
    have hdl : d2.waits.length < 1099511627776 := by rw [hdw]; simp [fulls]; omega
  have hl2 : d2.waits.length < 1099511627776 := hdl
  go_wp2_with fail
  refine (clone_any h5 hl2).mono ?_
  rintro e w6 ⟨x, rfl, h6⟩
  go_wp2_with fail
  refine (clone_any h6.pull2 hl2).mono ?_
  rintro e w7 ⟨y, rfl, h7⟩
  have e1 : ∀ j, (d2.boot [1]).now j = (d2.bar.boot []).now j := by
    intro j
    show settle (settle d2.sure (kept [1] 0 d2.waits)) [] j = settle (settle d2.now (kept [] 0 [])) [] j
    rw [kept_all [1] (fun k => by simp [keeps, Nat.mod_one])]
    rfl
  have e2 : ∀ j, (d2.boot [0, 2, -4]).now j = d1.now j := by
    intro j
    show settle (settle d2.sure (kept [0, 2, -4] 0 d2.waits)) [] j = settle d1.sure d1.waits j
    rw [HW1.out, hds, kept_none [0, 2, -4] (fun k => by
      have : k % 3 = 0 ∨ k % 3 = 1 ∨ k % 3 = 2 := by omega
      rcases this with h | h | h <;> simp [keeps, h])]
    rfl
  have E1 := Lib.hid e1
  have E2 := Lib.hid e2
  have l1' : d1.len = 8 := HB8.out
  have l2' : d2.len = 8 := hd8
  have L1 := Lib.hid l1'
  have L2 := Lib.hid l2'
  clear h5 h6 hds hdw hd8 e1 e2 l1' l2'
  go_wp2_with fail
  refine (barrier_to h7.pull2 hd.barrier hl2).mono ?_
  rintro e w8 ⟨rfl, h8⟩
  go_wp2_with fail
  refine (boot_to (d' := d2.bar.boot []) [] h8 rfl rfl (IntsIn.nil _) (by decide) (by decide) (by simp [DiskM.bar])).mono ?_
  rintro e w9 ⟨rfl, h9⟩
  go_wp2_with fail
  have h10 := h9.alloc (.cells #[.int .i64 1] 3)
  clear h7 h8 h9
  go_wp2_with fail
  refine (boot_to (d' := d2.boot [1]) [1] h10.pull4 rfl rfl (IntsIn.tells (l := [1]) _ _ rfl) (by decide) (by decide) hl2).mono ?_
  rintro e w11 ⟨rfl, h11⟩
  go_wp2_with fail
  have h12 := h11.alloc (.cells #[.int .i64 0, .int .i64 2, .int .i64 (-4)] 3)
  clear h10 h11
  go_wp2_with fail
  refine (boot_to (d' := d2.boot [0, 2, -4]) [0, 2, -4] h12.pull5 rfl rfl (IntsIn.tells (l := [0, 2, -4]) _ _ rfl) (by decide) (by decide) hl2).mono ?_
  rintro e w13 ⟨rfl, h13⟩
  have h14 : Bears w13 (diskA p (d2.bar.boot []) * (diskA x (d2.boot [1]) * (diskA q d1 * (diskA y (d2.boot [0, 2, -4]) * R)))) := (h13.pull2.right.pull3.right).cast (by ac_rfl)
  clear h12 h13
  have g1 := (d2.bar).boot_plain []
  have g2 := d2.boot_plain [1]
  have g4 := d2.boot_plain [0, 2, -4]
  have k1 : (d2.bar.boot []).len = 8 := L2.out
  have k2 : (d2.boot [1]).len = 8 := L2.out
  have k4 : (d2.boot [0, 2, -4]).len = 8 := L2.out
  generalize d2.bar.boot [] = D1 at h14 g1 k1 E1
  generalize d2.boot [1] = D2 at h14 g2 k2 E1
  generalize d2.boot [0, 2, -4] = D4 at h14 g4 k4 E2
  have K1 := Lib.hid k1
  have K2 := Lib.hid k2
  have K4 := Lib.hid k4
  clear k1 k2 k4
  go_wp2_with fail
  go_loopw [13] (fun i wr => ∃ j : Nat, j ≤ 8 ∧ i = .int .i64 j ∧ Bears wr (diskA p D1 * (diskA x D2 * (diskA q d1 * (diskA y D4 * R))))) (fun i _ => 8 - (intOf i).toNat)
  case atStart => exact ⟨0, by omega, rfl, h14⟩
  case round =>
    obtain ⟨j, hj, rfl, h1⟩ := hrel
    by_cases hlt : j < 8
    · have f1 : Hid (D1.check (j : Int) = 0) := g1.check (by rw [K1.out]; exact hlt)
      have f2 : Hid (D2.check (j : Int) = 0) := g2.check (by rw [K2.out]; exact hlt)
      have f3 : Hid (d1.check (j : Int) = 0) := hb.check (by rw [HB8.out]; exact hlt)
      have f4 : Hid (D4.check (j : Int) = 0) := g4.check (by rw [K4.out]; exact hlt)
      have s1 : Hid ((D1.now j).length = 64) := by obtain ⟨_, _, _, _, _, hwf, _⟩ := Bears.disk.1 h1; exact hwf.now j
      have s3 : Hid ((d1.now j).length = 64) := by obtain ⟨_, _, _, _, _, hwf, _⟩ := Bears.disk.1 h1.pull3; exact hwf.now j
      go_wp2_with fail
      refine (read_to (s := D1.now j) j h1 f1.out rfl).mono ?_
      rintro e w2 ⟨o1, rfl, h2⟩
      go_wp2_with fail
      refine (read_to (s := D1.now j) j h2.pull3 f2.out (E1.out j)).mono ?_
      rintro e w3 ⟨o2, rfl, h3⟩
      go_wp2_with fail
      refine (read_to (s := d1.now j) j h3.pull5 f3.out rfl).mono ?_
      rintro e w4 ⟨o3, rfl, h4⟩
      go_wp2_with fail
      refine (read_to (s := d1.now j) j h4.pull7 f4.out (E2.out j)).mono ?_
      rintro e w5 ⟨o4, rfl, h5⟩
      clear h1 h2 h3 h4
      have r1 := run_convert_in (BytesIn.tells 64 64 (by rw [s1.out]) _ h5.pull7)
      have r2 := run_convert_in (BytesIn.tells 64 64 (by rw [s1.out]) _ h5.pull5)
      have r3 := run_convert_in (BytesIn.tells 64 64 (by rw [s3.out]) _ h5.pull3)
      have r4 := run_convert_in (BytesIn.tells 64 64 (by rw [s3.out]) _ h5)
      go_wp2_with (first | (refine wpList_conv rfl rfl rfl r1 ?_) | (refine wpList_conv rfl rfl rfl r2 ?_) | (refine wpList_conv rfl rfl rfl r3 ?_) | (refine wpList_conv rfl rfl rfl r4 ?_))
      go_roundw
      case rel => exact ⟨j + 1, hlt, by go_num, (h5.right.pull2.right.pull3.right.pull4.right).cast (by ac_rfl)⟩
      case measure => simp [intOf]; omega
    · go_wp2
      go_ret
      exact ⟨rfl, h1.right.right.right.right⟩

end Go.Proofs.Ytcfdnkmllpphfaa
