/- The walk of WalRefuses; no condition. -/
import Derived.Test.YtadefdmoijkclaaWLawD
import Derived.Test.YtadefdmoijkclaaWOps
namespace Go.Proofs.Ytadefdmoijkclaa
open Go.RowKit Go.MapKept

set_option maxRecDepth 100000 in
set_option maxHeartbeats 1600000 in
theorem refuses_any {R : Assn} {w : World} (h : Bears w R) (gs : List GroupM) (a0 : Option Addr) (c0 : Nat)
    (t0 : R.Tells (fun w => GroupsIn w (.slice a0 gs.length c0) gs)) (b0 : gs.length ≤ 9223372036854775807) (b1 : ∀ k, k < gs.length → (gs.getD k default).puts.length ≤ 9223372036854775807) :
    Calls Try.prog 7 #[.slice a0 gs.length c0] w fun e w' => e = .returned (.bool true) ∧ Bears w' R := by
  go_enter Try.func7, Try.ntmps7
  go_wp2_with fail
  refine (wshown_any h).mono ?_
  rintro e w1 ⟨rfl, h1⟩
  go_wp2_with fail
  refine (ground_any h1 0 (by omega)).mono ?_
  rintro e w2 ⟨p, x, d, rfl, hd, hlen, hfu, h2⟩
  have Hlen := Lib.hid hlen
  clear h h1 hlen
  go_wp2_with fail
  go_loopw [6] (fun i wr => ∃ k : Nat, k ≤ gs.length ∧ k ≤ 40 ∧ i = .int .i64 k ∧ Bears wr (walObj x p 0 40 0 * (diskA p d * R)))
    (fun i _ => 40 - (intOf i).toNat)
  case atStart => exact ⟨0, by omega, by omega, rfl, h2⟩
  case round =>
    obtain ⟨k, hk, hkN, rfl, h3⟩ := hrel
    by_cases hlt : k < gs.length ∧ k < 40
    · obtain ⟨hlt, hltN⟩ := hlt
      obtain ⟨b, o, rfl, cl⟩ := (t0 _ h3.right.right).cell hlt
      have tp := GroupsIn.puts t0 hlt
      have bl := b1 k hlt
      obtain ⟨g, hg⟩ : ∃ g, gs.getD k default = g := ⟨_, rfl⟩
      rw [hg] at tp bl
      have Hg := Lib.hid hg
      clear cl hg
      obtain ⟨ga, gc, l⟩ := g
      simp only [GroupM.val] at tp bl
      go_wp2_with fail
      refine wp_region_L (fun w' => Bears w' (walObj x p 0 40 0 * (diskA p d * R))) 7
        [(true, 0), (true, 1), (true, 2), (true, 3), (true, 4), (false, 5), (false, 6)] [] (by kernel_rfl) (by kernel_rfl) h3.drew ?_
      simp only [pick, List.getElem?_cons_zero, List.getElem?_cons_succ]
      refine wpL_yield (v := ?_) rfl (fun w' hS => ?_) ?_
      rotate_left
      · (obtain ⟨b'', o'', he, r1⟩ := (t0 _ hS.right.right).cell hlt; cases he; rw [Hg.out] at r1; simp only [GroupM.val] at r1; go_simp; try with_reducible rfl)
      simp only [Act.put, List.setIfInBounds_toArray, List.set_cons_zero, List.set_cons_succ]
      refine wpL_yield (v := ?_) rfl (fun w' hS => ?_) ?_
      rotate_left
      · (obtain ⟨b'', o'', he, r1⟩ := (t0 _ hS.right.right).cell hlt; cases he; rw [Hg.out] at r1; simp only [GroupM.val] at r1; go_simp; try with_reducible rfl)
      simp only [Act.put, List.setIfInBounds_toArray, List.set_cons_zero, List.set_cons_succ]
      refine wpL_yield (v := ?_) rfl (fun w' hS => ?_) ?_
      rotate_left
      · (obtain ⟨b'', o'', he, r1⟩ := (t0 _ hS.right.right).cell hlt; cases he; rw [Hg.out] at r1; simp only [GroupM.val] at r1; go_simp; try with_reducible rfl)
      simp only [Act.put, List.setIfInBounds_toArray, List.set_cons_zero, List.set_cons_succ]
      refine wpL_yield (v := ?_) rfl (fun w' hS => ?_) ?_
      rotate_left
      · (obtain ⟨b'', o'', he, r1⟩ := (t0 _ hS.right.right).cell hlt; cases he; rw [Hg.out] at r1; simp only [GroupM.val] at r1; go_simp; try with_reducible rfl)
      simp only [Act.put, List.setIfInBounds_toArray, List.set_cons_zero, List.set_cons_succ]
      refine wpL_yield (v := ?_) rfl (fun w' hS => ?_) ?_
      rotate_left
      · (obtain ⟨b'', o'', he, r1⟩ := (t0 _ hS.right.right).cell hlt; cases he; rw [Hg.out] at r1; simp only [GroupM.val] at r1; go_simp; try with_reducible rfl)
      simp only [Act.put, List.setIfInBounds_toArray, List.set_cons_zero, List.set_cons_succ]
      refine wpL_eff rfl ?_
      go_simp
      refine (len_any (h3.drew.pull2)).mono ?_
      rintro e w4 ⟨rfl, rfl⟩
      refine ⟨h3.drew, ?_⟩
      refine wpL_eff rfl ?_
      go_simp
      refine (group_any h3.drew l ga gc 0 d.len tp.right.right bl (by omega) (by rw [Hlen.out]; omega)).mono ?_
      rintro e w5 ⟨rfl, h5⟩
      refine ⟨h5, ?_⟩
      refine wpL_nil ?_
      refine wpL_nil ?_
      obtain ⟨mv, hmv⟩ : ∃ mv, wMay d.len 0 40 l = mv := ⟨_, rfl⟩
      rw [hmv]
      have Hmv := Lib.hid hmv
      clear hmv h3
      cases mv with
      | true =>
        go_wp2_with fail
        go_roundw
        case rel => exact ⟨k + 1, hlt, hltN, by go_num, h5⟩
        case measure => simp [intOf]; omega
      | false =>
        have HC := Lib.hid (wCommit_no (g := 0) Hmv.out)
        go_wp2_with fail
        refine (steps_any h5.pull2).mono ?_
        rintro e w' ⟨rfl, rfl⟩
        go_wp2_with fail
        refine (groups_any h5).mono ?_
        rintro e w' ⟨rfl, rfl⟩
        obtain ⟨b', o', he, r1⟩ := (t0 _ h5.right.right).cell hlt
        cases he
        rw [Hg.out] at r1
        simp only [GroupM.val] at r1
        go_wp2_with fail
        refine (commit_to h5 HC.out tp bl (by omega) (by omega) (hd.few _ (by decide))).mono ?_
        rintro e w6 ⟨rfl, h6⟩
        go_wp2_with fail
        refine (steps_any h6.pull2).mono ?_
        rintro e w' ⟨rfl, rfl⟩
        go_wp2_with fail
        refine (groups_any h6).mono ?_
        rintro e w' ⟨rfl, rfl⟩
        go_wp2_with fail
        go_roundw
        case rel => exact ⟨k + 1, hlt, hltN, by go_num, h6⟩
        case measure => simp [intOf]; omega
    · go_wp2_with fail
      all_goals
        go_ret
        exact ⟨rfl, h3.right.right⟩

end Go.Proofs.Ytadefdmoijkclaa
