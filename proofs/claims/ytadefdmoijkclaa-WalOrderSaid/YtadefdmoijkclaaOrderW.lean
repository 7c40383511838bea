/- The walk of WalOrder; no condition. -/
import Derived.Test.YtadefdmoijkclaaWGrp
import Derived.Test.YtadefdmoijkclaaWOps
namespace Go.Proofs.Ytadefdmoijkclaa
open Go.RowKit Go.MapKept

set_option maxRecDepth 100000 in
set_option maxHeartbeats 3200000 in
theorem order_any {R : Assn} {w : World} (h : Bears w R) (ls : List RowM) (a0 : Option Addr) (c0 : Nat) (ks : List Int) (a1 : Option Addr) (c1 : Nat)
    (t0 : R.Tells (fun w => RowsIn w (.slice a0 ls.length c0) ls)) (b0 : ls.length ≤ 9223372036854775807) (b1 : ∀ k, k < ls.length → (ls.getD k default).bytes.length ≤ 9223372036854775807)
    (t1 : R.Tells (fun w => IntsIn w (.slice a1 ks.length c1) ks)) (b2 : ks.length ≤ 9223372036854775807) (b3 : ∀ x ∈ ks, -9223372036854775808 ≤ x ∧ x ≤ 9223372036854775807) :
    Calls Try.prog 4 #[.slice a0 ls.length c0, .slice a1 ks.length c1] w fun e w' => e = .returned (.bool true) ∧ Bears w' R := by
  go_enter Try.func4, Try.ntmps4
  go_wp2_with fail
  refine (wshown_any h).mono ?_
  rintro e w1 ⟨rfl, h1⟩
  go_wp2_with fail
  refine (ground_any h1 0 (by omega)).mono ?_
  rintro e w2 ⟨p, x, d, rfl, hd, hlen, hfu, h2⟩
  have Hlen := Lib.hid hlen
  have Hfu := Lib.hid hfu
  clear h h1 hlen hfu
  have hz0 : ∀ w, (Instr.build 46 #[]).run Try.prog w = .ok (.agg (cellsV (List.replicate 60 0)).toArray) w := fun _ => by kernel_rfl
  have hz1 : ∀ w, (zeroValue 46).run Try.prog w = .ok (.agg (cellsV (List.replicate 60 0)).toArray) w := fun _ => by kernel_rfl
  have hi1 : (Try.prog.info? 46).map (·.size) = some (Value.agg (cellsV (List.replicate 60 0)).toArray).cells.size := by kernel_rfl
  have hone : ∀ v ∈ (cellsV (List.replicate 60 0)).toArray.toList, v.oneCell' = true := by intro v hv; exact oneCell_cellsV _ _ (by simpa using hv)
  have ho := Ord.zero
  generalize List.replicate 60 (0 : UInt8) = zs at hz0 hz1 hi1 hone ho
  go_upto_block 0 with (first
    | (refine wpList_op rfl (exec_build0 rfl (hz0 _)) ?_)
    | (refine wpList_alloc_z rfl rfl (hz1 _) ?_)
    | (refine wpList_store_obj (h2.alloc _) rfl rfl rfl rfl rfl hi1 hone ?_; intro w3 h3))
  generalize w2.heap.size = hb at h3
  go_cut [9] (fun _ wr => ∃ (d : DiskM) (F : Nat → Sec) (has : List UInt8), LogOn d 0 40 (min ls.length 30) F ∧ d.fuse = -1 ∧ d.len = 100 ∧ Ord F has ∧
    Bears wr (Assn.obj hb (.cells (cellsV has).toArray 46 (0, 0)) * (walObj x p 0 40 ((min ls.length 30 : Nat) : Int) * (diskA p d * R))))
  case first =>
    go_wp2_with fail
    go_loopw [9] (fun i wr => ∃ k : Nat, k ≤ ls.length ∧ k ≤ 30 ∧ i = .int .i64 k ∧ ∃ (d : DiskM) (F : Nat → Sec) (has : List UInt8), LogOn d 0 40 k F ∧ d.fuse = -1 ∧ d.len = 100 ∧ Ord F has ∧
      Bears wr (Assn.obj hb (.cells (cellsV has).toArray 46 (0, 0)) * (walObj x p 0 40 (k : Int) * (diskA p d * R)))) (fun i _ => 30 - (intOf i).toNat)
    case atStart => exact ⟨0, by omega, by omega, rfl, d, _, zs, hd, Hfu.out, Hlen.out, ho, h3⟩
    case round =>
      clear h2 h3 hd ho hz0 hz1 hi1 hone Hlen Hfu
      obtain ⟨k, hk, hkN, rfl, d, F, has, hd, hfu, hlen, ho, h5⟩ := hrel
      have Hlen := Lib.hid hlen
      have Hfu := Lib.hid hfu
      clear hlen hfu
      by_cases hlt : k < ls.length ∧ k < 30
      · obtain ⟨hlt, hltN⟩ := hlt
        have hy0 : ∀ w, (Instr.build 47 #[]).run Try.prog w = .ok (.agg (boolsV (List.replicate 60 false)).toArray) w := fun _ => by kernel_rfl
        have hy1 : ∀ w, (zeroValue 47).run Try.prog w = .ok (.agg (boolsV (List.replicate 60 false)).toArray) w := fun _ => by kernel_rfl
        have hi2 : (Try.prog.info? 47).map (·.size) = some (Value.agg (boolsV (List.replicate 60 false)).toArray).cells.size := by kernel_rfl
        have hone : ∀ v ∈ (boolsV (List.replicate 60 false)).toArray.toList, v.oneCell' = true := by intro v hv; simp [boolsV] at hv; obtain ⟨_, rfl⟩ := hv; rfl
        have hg := Grp.start 100 0 40 0 60 (fun j => fullS (UInt8.ofNat (k + 1)) (UInt8.ofNat j)) (UInt8.ofNat (k + 1)) has
        generalize List.replicate 60 false = ys at hy0 hy1 hi2 hone hg
        have h6 := h5.emptyRow 37 2
        go_upto_block 2 with (first
          | (refine wpList_op rfl (exec_build0 rfl (hy0 _)) ?_)
          | (refine wpList_alloc_z rfl rfl (hy1 _) ?_)
          | (refine wpList_store_obj (h6.alloc _) rfl rfl rfl rfl rfl hi2 hone ?_; intro w7 h7))
        have esb : (wr.alloc (.cells #[] 37)).heap.size = wr.heap.size + 1 := Array.size_push _
        rw [esb] at h7
        generalize wr.heap.size + 1 = sb at h7
        clear h5 h6 hy0 hy1 hi2 hone
        go_cut [10] (fun gv wr' => ∃ (l : List PutM) (has' : List UInt8) (seen : List Bool) (S : List (Nat × Obj)), OGrp (UInt8.ofNat (k + 1)) has has' seen l ∧ l.length ≤ 30 ∧ (∀ p ∈ l, PutHeld S p) ∧
          Bears wr' (rowA 37 2 gv l.length (putCells l) * (storeA S * (Assn.obj hb (.cells (cellsV has').toArray 46 (0, 0)) * (walObj x p 0 40 (k : Int) * (diskA p d * R))))))
        case first =>
          go_wp2_with fail
          go_loopw [10, 12] (fun gv i wr' => ∃ m : Nat, m ≤ (ls.getD k default).bytes.length ∧ m ≤ 30 ∧ i = .int .i64 m ∧ ∃ (l : List PutM) (has' : List UInt8) (seen : List Bool) (S : List (Nat × Obj)), OGrp (UInt8.ofNat (k + 1)) has has' seen l ∧ l.length ≤ m ∧ (∀ p ∈ l, PutHeld S p) ∧
            Bears wr' (Assn.obj sb (.cells (boolsV seen).toArray 47 (0, 0)) * (rowA 37 2 gv l.length (putCells l) * (storeA S * (Assn.obj hb (.cells (cellsV has').toArray 46 (0, 0)) * (walObj x p 0 40 (k : Int) * (diskA p d * R)))))))
            (fun _ i _ => 30 - (intOf i).toNat)
          case atStart =>
            exact ⟨0, by omega, by omega, rfl, [], has, ys, [], hg, by simp, by simp, (h7.pull2.cast (by rw [show storeA [] = Assn.emp from rfl, Assn.emp_mul]; ac_rfl))⟩
          case round =>
            obtain ⟨m, hm, hmN, rfl, l, has', seen, S, hG, hll, hh, h8⟩ := hrel
            obtain ⟨b, o, rfl, q1⟩ := (t0 _ h8.right.right.right.right.right.right).cell hlt
            have q2 := (t0 _ h8.right.right.right.right.right.right).bytes hlt
            obtain ⟨rw', hrw⟩ : ∃ r, ls.getD k default = r := ⟨_, rfl⟩
            rw [hrw] at q1 q2 hm
            have Hrw := Lib.hid hrw
            clear hrw
            obtain ⟨ra, rc, bs⟩ := rw'
            simp only [RowM.val] at q1 q2 hm
            by_cases hmlt : m < bs.length ∧ m < 30
            · obtain ⟨hmlt, hm30⟩ := hmlt
              obtain ⟨b2, o2, rfl, q3⟩ := q2.cell hmlt
              clear q2
              generalize bs.getD m 0 = c at q3
              have hc256 := c.toNat_lt
              unfold byteV at q3
              generalize c.toNat = cn at q3 hc256
              obtain ⟨j, hj⟩ : ∃ j : Nat, j = cn % 60 := ⟨_, rfl⟩
              have hj60 : j < 60 := by omega
              have hjm : (cn : Int) % 60 = (j : Int) := by omega
              have q4 := h8.boolCell (j := j) (by rw [hG.slen]; exact hj60)
              obtain ⟨sj, hsj⟩ : ∃ s, seen.getD j false = s := ⟨_, rfl⟩
              rw [hsj] at q4
              have Hsj := Lib.hid hsj
              clear hsj hj
              cases sj with
              | true =>
                go_wp2_with fail
                go_roundw
                case rel => exact ⟨m + 1, by rw [Hrw.out]; exact hmlt, hm30, by go_num, l, has', seen, S, hG, by omega, hh, h8⟩
                case measure => simp [intOf]; omega
              | false =>
                have hhl := hG.hlen.trans ho.len
                have f1 := frozen_of_obj h8.obj j
                have f2 := frozen_of_obj h8.pull4.obj j
                have h9 := h8.setBool j true
                have q5 := h9.pull4.byteCell (j := j) (by rw [hhl]; exact hj60)
                have h10 := h9.pull4.setByte j (UInt8.ofNat (k + 1))
                have hk1 : (k : Int) + 1 = ((UInt8.ofNat (k + 1)).toNat : Int) := by rw [UInt8.toNat_ofNat_of_lt' (by show k + 1 < 256; omega)]; omega
                have hj1 : (j : Int) = ((UInt8.ofNat j).toNat : Int) := by rw [UInt8.toNat_ofNat_of_lt' (by show j < 256; omega)]
                generalize has'.getD j 0 = old at q5
                unfold byteV at q5 h10
                rw [← hk1] at h10
                have Hk1 := Lib.hid hk1
                have Hj1 := Lib.hid hj1
                clear hk1 hj1 h9
                go_wp2_with fail
                refine (wfull_num h10 (UInt8.ofNat (k + 1)) (UInt8.ofNat j) Hk1.out Hj1.out).mono ?_
                rintro e w11 ⟨g, rfl, h11⟩
                have h12 := h11.alloc (.cells #[.int .i64 (40 + (j : Int)), .slice (some ⟨g, 0, none⟩) 64 64] 37)
                have hnews := World.news_of_block (cs := #[.int .i64 (40 + (j : Int)), .slice (some ⟨g, 0, none⟩) 64 64]) h12.obj
                have h13 := h12.pull5
                clear q4 q5 f1 f2 h8 h10 h11 h12
                obtain ⟨i0, hi0, hz0, hz1, hz2⟩ := info_parts i_put
                go_wp2_with (at_builtin; refine wpList_append_bears h13 rfl rfl u_puts hi0 hz0 hz1 hz2 (by simp [Value.cells]) (by decide) rfl (m := 1) rfl rfl hnews (by intro u hu; simp at hu; rcases hu with rfl | rfl <;> rfl) (by unfold maxLen; omega) (by omega) ?_; intro a' c' w14 h14)
                have h15 : Bears w14 (Assn.obj sb (.cells (boolsV (seen.set j true)).toArray 47 (0, 0)) * (rowA 37 2 (.slice a' (l.length + 1) c') (l.length + 1) (putCells l ++ [.int .i64 (40 + (j : Int)), .slice (some ⟨g, 0, none⟩) 64 64]) *
                  (Assn.obj g (.cells (cellsV (fullS (UInt8.ofNat (k + 1)) (UInt8.ofNat j))).toArray 5 (0, 0)) * (storeA S * (Assn.obj hb (.cells (cellsV (has'.set j (UInt8.ofNat (k + 1)))).toArray 46 (0, 0)) * (walObj x p 0 40 (k : Int) * (diskA p d * R))))))) := h14.pull2.right.cast (by ac_rfl)
                go_roundw
                case rel =>
                  refine ⟨m + 1, by rw [Hrw.out]; exact hmlt, hm30, by go_num, l ++ [putOf ((40 + j : Nat) : Int) g (fullS (UInt8.ofNat (k + 1)) (UInt8.ofNat j))], has'.set j (UInt8.ofNat (k + 1)), seen.set j true,
                    (g, .cells (cellsV (fullS (UInt8.ofNat (k + 1)) (UInt8.ofNat j))).toArray 5 (0, 0)) :: S, ?_, by simp; omega, ?_, ?_⟩
                  · have := hG.step hj60 Hsj.out (fullS_length _ _) (by decide) (by decide) (by rw [ho.len]; decide) g
                    rw [Nat.zero_add] at this
                    exact this
                  · intro q hq
                    rcases List.mem_append.1 hq with hq | hq
                    · exact (hh q hq).mono
                    · rw [List.mem_singleton] at hq
                      subst hq
                      exact ⟨g, rfl, by simp⟩
                  · rw [putCells_snoc]
                    simp only [List.length_append, List.length_cons, List.length_nil, Nat.zero_add]
                    exact h15.cast (by rw [show storeA ((g, Obj.cells (cellsV (fullS (UInt8.ofNat (k + 1)) (UInt8.ofNat j))).toArray 5 (0, 0)) :: S) = Assn.obj g (.cells (cellsV (fullS (UInt8.ofNat (k + 1)) (UInt8.ofNat j))).toArray 5 (0, 0)) * storeA S from rfl]; ac_rfl)
                case measure => simp [intOf]; omega
            · go_wp2_with fail
              all_goals
                go_meet
                case rel => exact ⟨l, has', seen, S, hG, by omega, hh, h8.right⟩
        case rest =>
          clear h7
          obtain ⟨l, has', seen, S, hG, hll, hh, h8⟩ := hcut
          obtain ⟨ga, gc, rfl, _⟩ := h8.rowForm
          have hm : wMay d.len 0 40 l = true := by rw [Hlen.out]; exact hG.mayAll (by omega)
          obtain ⟨d', c1, L1, u1, n1⟩ := hd.commits Hfu.out (by omega) hm
          have hc0 : UInt8.ofNat (k + 1) ≠ 0 := by
            intro e
            have := congrArg UInt8.toNat e
            rw [UInt8.toNat_ofNat_of_lt' (by show k + 1 < 256; omega)] at this
            exact absurd this (by simp)
          have ho' := ho.next hG hc0
          have C1 := Lib.hid c1
          have U1 := Lib.hid u1
          have N1 := Lib.hid (n1.trans Hlen.out)
          clear hm c1 u1 n1
          have h9 : Bears wc (walObj x p 0 40 (k : Int) * (diskA p d * (rowA 37 2 (.slice ga l.length gc) l.length (putCells l) * (storeA S * (Assn.obj hb (.cells (cellsV has').toArray 46 (0, 0)) * R))))) := h8.cast (by ac_rfl)
          go_wp2_with fail
          refine (commit_to h9 C1.out (rowPuts_tells rfl hh) (by omega) (by omega) (by omega) (hd.few _ (by decide))).mono ?_
          rintro e w9 ⟨rfl, h10⟩
          go_wp2_with fail
          refine (groups_any h10).mono ?_
          rintro e w' ⟨rfl, rfl⟩
          go_wp2_with fail
          go_roundw
          case rel => exact ⟨k + 1, hlt, hltN, by go_num, d', _, has', L1, U1.out, N1.out, ho', h10.pull3.right.pull3.right.pull3.cast (by ac_rfl)⟩
          case measure => simp [intOf]; omega
      · go_wp2_with fail
        all_goals
          go_meet
          case rel =>
            have hkk : k = min ls.length 30 := by omega
            rw [← hkk]
            exact ⟨d, F, has, hd, Hfu.out, Hlen.out, ho, h5⟩
  case rest =>
    clear h2 h3 hd ho hz0 hz1 hi1 hone Hlen Hfu
    obtain ⟨d, F, has, hd, hfu, hlen, ho, h5⟩ := hcut
    obtain ⟨n, hn⟩ : ∃ n, min ls.length 30 = n := ⟨_, rfl⟩
    rw [hn] at hd h5
    have Hlen := Lib.hid hlen
    have Hn := Lib.hid hn
    clear hlen hfu hn
    have L1 := hd.boot rfl hd.quiet rfl ks
    have n1 : Hid ((d.boot ks).len = 100) := Lib.hid Hlen.out
    go_wp2_with fail
    refine (boot_to (d' := d.boot ks) ks h5.pull3 rfl rfl t1.right.right b3 b2 hd.few0).mono ?_
    rintro e w6 ⟨rfl, h6⟩
    generalize d.boot ks = d1 at h6 L1 n1
    obtain ⟨o5, g5⟩ := L1.opens (by have := Hn.out; omega)
    have O5 := Lib.hid o5
    have G5 := Lib.hid g5
    clear o5 g5 h5 hd Hlen
    go_wp2_with fail
    refine (open_yes (a := 0) (s := 40) h6 O5.out G5.out (by omega) (by omega) (L1.few _ (by decide))).mono ?_
    rintro e w7 ⟨y, rfl, h7⟩
    go_upto_region 24 with (fail)
    go_cut [123] (fun s wr => s = .bool false ∧ Bears wr (diskA p d1 * (Assn.obj hb (.cells (cellsV has).toArray 46 (0, 0)) * R)))
    case first =>
      have h8 : Bears w7 (diskA p d1 * (Assn.obj hb (.cells (cellsV has).toArray 46 (0, 0)) * R)) := h7.right.pull3.right
      rcases Nat.le_total ls.length 30 with hmin | hmin
      · have e : n = ls.length := by have := Hn.out; omega
        subst e
        go_wp2_with fail
        refine (groups_any h7).mono ?_
        rintro e w' ⟨rfl, rfl⟩
        go_wp2_with fail
        go_meet
        case rel => exact ⟨rfl, h8⟩
      · have e : n = 30 := by have := Hn.out; omega
        subst e
        go_wp2_with fail
        refine (groups_any h7).mono ?_
        rintro e w' ⟨rfl, rfl⟩
        go_wp2_with fail
        all_goals
          go_meet
          case rel =>
            first
              | exact ⟨rfl, h8⟩
              | (have e : (ls.length : Int) = 30 := by omega
                 rw [e]
                 exact ⟨rfl, h8⟩)
    case rest =>
      obtain ⟨rfl, h8⟩ := hcut
      clear h6 h7
      go_wp2_with fail
      go_loopw [17] (fun i wr => ∃ j : Nat, j ≤ 60 ∧ i = .int .i64 j ∧ Bears wr (diskA p d1 * (Assn.obj hb (.cells (cellsV has).toArray 46 (0, 0)) * R))) (fun i _ => 60 - (intOf i).toNat)
      case atStart => exact ⟨0, by omega, rfl, h8⟩
      case round =>
        obtain ⟨j, hj, rfl, h9⟩ := hrel
        by_cases hlt : j < 60
        · have f1 : Hid (d1.check ((40 : Int) + j) = 0) := by
            have := DiskM.on_check (i := 40 + j) L1.off (by rw [n1.out]; omega)
            rw [Int.natCast_add] at this
            exact this
          have f2 : Hid (d1.now ((40 : Int) + j).toNat = wantS (has.getD j 0) j) := by
            rw [show ((40 : Int) + j).toNat = 40 + j by omega, L1.now (by omega)]
            exact ho.at' j hlt
          have hmk : ∀ w, (Instr.makeSlice 34 (.int .i64 64) (.int .i64 64)).run Try.prog w = .ok (.slice (some ⟨w.heap.size, 0, none⟩) 64 64) (w.alloc (.cells (cellsV zeroSec).toArray 5)) := fun _ => by kernel_rfl
          have hzl : Hid (64 = zeroSec.length) := rfl
          have hj1 : (j : Int) = ((UInt8.ofNat j).toNat : Int) := by rw [UInt8.toNat_ofNat_of_lt' (by show j < 256; omega)]
          have Hj1 := Lib.hid hj1
          clear hj1
          obtain ⟨c, hc⟩ : ∃ c, has.getD j 0 = c := ⟨_, rfl⟩
          rw [hc] at f2
          have Hc := Lib.hid hc
          clear hc
          go_wp2_with fail
          refine (read_to (s := wantS c j) _ h9 f1.out f2.out).mono ?_
          rintro e w10 ⟨g, rfl, h10⟩
          have h11 := h10.alloc (.cells (cellsV zeroSec).toArray 5)
          have q1 := h11.pull4.byteCell (j := j) (by rw [ho.len]; exact hlt)
          rw [Hc.out] at q1
          by_cases hc0 : c = 0
          · have hw : wantS c j = zeroSec := by unfold wantS; rw [if_pos hc0]
            rw [hw] at h10 h11
            subst hc0
            have q1' : (w10.alloc (.cells (cellsV zeroSec).toArray 5)).cell? ⟨hb, j, none⟩ = some (.int .u8 0) := q1
            clear q1 hw f2
            generalize zeroSec = z at hmk h10 h11 hzl q1'
            have r1 := run_convert_in (BytesIn.tells 64 64 hzl.out _ h11)
            have r2 := run_convert_in (BytesIn.tells 64 64 hzl.out _ h11.pull2)
            go_wp2_with (first | (refine wpList_conv rfl rfl rfl r1 ?_) | (refine wpList_conv rfl rfl rfl r2 ?_))
            go_roundw
            case rel => exact ⟨j + 1, hlt, by go_num, h11.right.right⟩
            case measure => simp [intOf]; omega
          · have hw : wantS c j = fullS c (UInt8.ofNat j) := by unfold wantS; rw [if_neg hc0]
            rw [hw] at h10 h11
            have hcp : 0 < c.toNat := by
              rcases Nat.eq_zero_or_pos c.toNat with e | e
              · exact absurd (UInt8.toNat_inj.1 (by simpa using e)) hc0
              · exact e
            obtain ⟨cn, hcn⟩ : ∃ cn, c.toNat = cn := ⟨_, rfl⟩
            unfold byteV at q1
            rw [hcn] at q1 hcp
            have Hcn := Lib.hid hcn
            have hc256 : cn < 256 := by rw [← hcn]; exact c.toNat_lt
            clear hw f2 hcn
            generalize zeroSec = z at hmk h10 h11 hzl q1
            go_wp2_with fail
            refine (wfull_num h11 c (UInt8.ofNat j) (by rw [Hcn.out]) Hj1.out).mono ?_
            rintro e w12 ⟨g2, rfl, h12⟩
            have hfl := Lib.hid (fullS_length c (UInt8.ofNat j))
            generalize fullS c (UInt8.ofNat j) = s at h10 h11 h12 hfl
            have r1 := run_convert_in (BytesIn.tells 64 64 (by rw [hfl.out]) _ h12)
            have r2 := run_convert_in (BytesIn.tells 64 64 (by rw [hfl.out]) _ h12.pull3)
            go_wp2_with (first | (refine wpList_conv rfl rfl rfl r1 ?_) | (refine wpList_conv rfl rfl rfl r2 ?_))
            go_roundw
            case rel => exact ⟨j + 1, hlt, by go_num, h12.right.right.right⟩
            case measure => simp [intOf]; omega
        · go_wp2_with fail
          go_ret
          exact ⟨rfl, h9.right.right⟩

end Go.Proofs.Ytadefdmoijkclaa
