/- The walk of WalCrashes; no condition. -/
import Derived.Test.YtadefdmoijkclaaCrashB
import Derived.Test.YtadefdmoijkclaaCrashC
import Derived.Test.YtadefdmoijkclaaCrashD
import Derived.Test.YtadefdmoijkclaaCrashE
import Derived.Test.YtadefdmoijkclaaWOps2
namespace Go.Proofs.Ytadefdmoijkclaa
open Go.RowKit Go.MapKept

theorem among_lt (c : Int) (n : Nat) (hn : 0 < n) : ∃ m : Nat, m < n ∧ (if c < 0 then (-(c + 1)) % (n : Int) else c % (n : Int)) = (m : Int) := by
  have h : 0 ≤ (if c < 0 then (-(c + 1)) % (n : Int) else c % (n : Int)) ∧ (if c < 0 then (-(c + 1)) % (n : Int) else c % (n : Int)) < (n : Int) := by
    split
    · exact ⟨Int.emod_nonneg _ (by omega), Int.emod_lt_of_pos _ (by omega)⟩
    · exact ⟨Int.emod_nonneg _ (by omega), Int.emod_lt_of_pos _ (by omega)⟩
  exact ⟨(if c < 0 then (-(c + 1)) % (n : Int) else c % (n : Int)).toNat, by omega, by omega⟩

set_option maxRecDepth 1000000 in
set_option maxHeartbeats 3200000 in
theorem crashes_any {R : Assn} {w : World} (h : Bears w R) (c : Int) (hc : -9223372036854775808 ≤ c ∧ c ≤ 9223372036854775807) (ls : List WOpM) (a0 : Option Addr) (c0 : Nat)
    (t0 : R.Tells (fun w => WOpsIn w (.slice a0 ls.length c0) ls)) (b0 : ls.length ≤ 9223372036854775807) (hf : ∀ k, k < ls.length → (ls.getD k default).Fine R) :
    Calls Try.prog 6 #[.int .i64 c, .slice a0 ls.length c0] w fun e w' => e = .returned (.bool true) ∧ Bears w' R := by
  obtain ⟨a, ha61, hae⟩ := among_lt c 61 (by omega)
  rw [show ((61 : Nat) : Int) = 61 from rfl] at hae
  have ha : a + 40 ≤ 100 := by omega
  have Hae := Lib.hid hae
  clear hae
  go_enter Try.func6, Try.ntmps6
  go_wp2_with fail
  refine (wshown_any h).mono ?_
  rintro e w1 ⟨rfl, h1⟩
  go_wp2_with fail
  refine (among_any c 61 _ hc (by omega)).mono ?_
  rintro e w' ⟨rfl, rfl⟩
  rw [Hae.out]
  go_wp2_with fail
  refine (ground_any h1 a ha).mono ?_
  rintro e w2 ⟨p, x, d, rfl, hd, hlen, hfu, h2⟩
  go_wp2_with fail
  refine (rows_any h2.pull2 a ha hd.off hlen).mono ?_
  rintro e w3 ⟨v9, rs, Y, rfl, hY, h3⟩
  have hcr : CrOn d a 0 (fun _ => zeroSec) := ⟨hlen, hd⟩
  rw [show secs d.now a = secs (fun _ => zeroSec) a from secs_congr (fun i hi => hd.now hi)] at hY
  have h4 := h3.alloc (.cells #[] 37)
  have hoff := hcr.log.off
  have h5 : Bears _ (walObj x p a 40 ((0 : Nat) : Int) * (diskA p d * (rowA 34 1 v9 60 (rs.map Prod.fst) * (Y * R)))) := h4.right.cast (by ac_rfl)
  have hinv : CrInv R a p 0 (.pointer (some ⟨x, 0, none⟩)) v9 (.int .i64 0) (.slice (some ⟨w3.heap.size, 0, none⟩) 0 0) (.bool false) (.bool false) (w3.alloc (.cells #[] 37)) :=
    ⟨x, 0, ((0 : Nat) : Int), _, d, rs, Y, [], _, _, false, false, rfl, rfl, rfl, rfl, rfl, by omega, hY, fun _ _ => ⟨_, _, rfl, by simp, fun h => absurd rfl h⟩, by simp, .inl ⟨hoff, rfl, rfl, rfl, hcr⟩, h5⟩
  have Hinv := Lib.hid hinv
  clear h h1 h2 h3 h4 h5 hinv hoff hcr hY hd hlen hfu
  go_wp2_with fail
  go_loopw [8, 9, 11, 12, 13, 14, 15] (fun v8 v9 v11 v12 v13 v14 i wr => ∃ k : Nat, k ≤ ls.length ∧ k ≤ 60 ∧ i = .int .i64 k ∧ CrInv R a p k v8 v9 v11 v12 v13 v14 wr) (fun _ _ _ _ _ _ i _ => 60 - (intOf i).toNat)
  case atStart => exact ⟨0, by omega, by omega, rfl, Hinv.out⟩
  case round =>
    clear Hinv
    obtain ⟨k, hk, hkN, rfl, x, n, gw, F, d, rs, Y, l, la, lc, sm, fr, rfl, rfl, rfl, rfl, rfl, hnk, hY, tl, hl, hmode, h1⟩ := hrel
    by_cases hlt : k < ls.length ∧ k < 60
    · obtain ⟨hlt, hltN⟩ := hlt
      obtain ⟨b, o, rfl, q0, q1, q2, q3⟩ := (t0 _ h1.right.right.right.right).cells hlt
      have hop := hf k hlt
      generalize ls.getD k default = op at q0 q1 q2 q3 hop
      obtain ⟨kind, N, oa, oc, ops, ka, kc, ks⟩ := op
      obtain ⟨hkind, hN, tput, hops, tk, hk2, hk1⟩ := hop
      simp only at q0 q1 q2 q3 hkind hN tput hops tk hk2 hk1
      obtain ⟨kd, hkd8, hkde⟩ := among_lt kind 8 (by omega)
      rw [show ((8 : Nat) : Int) = 8 from rfl] at hkde
      have h2 := h1.alloc (.cells #[.int .i64 kind, .int .i64 N, .slice oa ops.length oc, .slice ka ks.length kc] 60)
      have Hkde := Lib.hid hkde
      have Hmode := Lib.hid hmode
      clear hkde hmode
      go_wp2_with fail
      refine (among_any kind 8 _ hkind (by omega)).mono ?_
      rintro e w' ⟨rfl, rfl⟩
      rw [Hkde.out]
      go_wp2_with fail
      refine (on_any h2.pull3).mono ?_
      rintro e w' ⟨rfl, rfl⟩
      have hkd : kd < 4 ∨ kd = 4 ∨ kd = 5 ∨ kd = 6 ∨ kd = 7 := by omega
      have Hkd := Lib.hid hkd
      clear hkd q0 q1 q2 q3
      rcases Hmode.out with ⟨hoff, rfl, rfl, rfl, hd⟩ | ⟨hoff, hm, hd⟩
      · rw [hoff]
        go_upto_block 2 with (fail)
        go_cut [8, 9, 11, 12, 13, 14] (fun v8 v9 v11 v12 v13 v14 wr => CrInv R a p (k + 1) v8 v9 v11 v12 v13 v14 wr)
        case first =>
          rcases Hkd.out with hk4 | rfl | rfl | rfl | rfl
          · exact sw_commit hnk hY tl hl hd (by omega) ha hk4 rfl tput hops h2 (fun w' hI => by go_step; go_meet; case rel => exact hI)
          · exact sw_open hnk hY tl hl hd (by omega) ha h2 (fun w' hI => by go_step; go_meet; case rel => exact hI)
          · exact sw_fuse hnk hY tl hl hd (by omega) h2 (fun w' hI => by go_step; go_meet; case rel => exact hI)
          · exact sw_boot hnk hY tl hl (hd.off l) (fun e => by cases e) (by omega) ha (by omega) rfl tk hk1 hk2 h2 (fun w' hI => by go_step; go_meet; case rel => exact hI)
          · exact sw_format hnk hY tl hl hd (by omega) ha h2 (fun w' hI => by go_step; go_meet; case rel => exact hI)
        case rest =>
          go_step
          refine end_any hcut ha (fun w' hI => ?_)
          go_wp2_with fail
          go_roundw
          case rel => exact ⟨k + 1, hlt, hltN, by go_num, hI⟩
          case measure => simp [intOf]; omega
      · rw [hoff]
        by_cases h6 : kd = 6
        · subst h6
          go_upto_block 2 with (fail)
          go_cut [8, 9, 11, 12, 13, 14] (fun v8 v9 v11 v12 v13 v14 wr => CrInv R a p (k + 1) v8 v9 v11 v12 v13 v14 wr)
          case first => exact sw_boot hnk hY tl hl hd hm (by omega) ha (by omega) rfl tk hk1 hk2 h2 (fun w' hI => by go_step; go_meet; case rel => exact hI)
          case rest =>
            go_step
            refine end_any hcut ha (fun w' hI => ?_)
            go_wp2_with fail
            go_roundw
            case rel => exact ⟨k + 1, hlt, hltN, by go_num, hI⟩
            case measure => simp [intOf]; omega
        · have h6n : ((kd : Int) == 6) = false := by rw [beq_eq_false_iff_ne]; omega
          have h6m : ((kd : Int) != 6) = true := by rw [bne_iff_ne]; omega
          go_wp2_with fail
          go_roundw
          case rel => exact ⟨k + 1, hlt, hltN, by go_num, x, n, gw, F, d, rs, Y, l, la, lc, sm, fr, rfl, rfl, rfl, rfl, rfl, by omega, hY, tl, hl, .inr ⟨hoff, hm, hd⟩, h2.right⟩
          case measure => simp [intOf]; omega
    · go_wp2_with fail
      all_goals
        go_ret
        exact ⟨rfl, h1.right.right.right.right⟩

end Go.Proofs.Ytadefdmoijkclaa
