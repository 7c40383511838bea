/- Texts of this claim, put together: AApartW; no condition. -/
import Derived.Test.YtaiobekochhemaaAllocApartB11

/- AllocApart walked; no condition. -/
namespace Go.Proofs.Ytaiobekochhemaa
open Go.RowKit Go.MapKept

set_option maxRecDepth 100000 in
set_option maxHeartbeats 40000000 in
theorem allocApart_walk {R : Assn} {w : World} (h : Bears w R) {l : List TOpM} {a1 : Option Addr} {c1 : Nat}
    (t1 : R.Tells (fun w => TOpsIn w (.slice a1 l.length c1) l)) (b1 : l.length ≤ 9223372036854775807) (hl1 : ∀ k, k < l.length → (l.getD k default).Fine) :
    Calls Try.prog 10 #[.slice a1 l.length c1] w fun e w' => e = .returned (.bool true) ∧ Bears w' R := by
  have T1 := Lib.hid t1
  have HL1 := Lib.hid hl1
  have hy0 : ∀ w, (Instr.build 79 #[]).run Try.prog w = .ok (.agg #[.int .i64 0, .int .i64 0, .int .i64 0]) w := fun _ => by kernel_rfl
  have hy1 : ∀ w, (zeroValue 79).run Try.prog w = .ok (.agg #[.int .i64 0, .int .i64 0, .int .i64 0]) w := fun _ => by kernel_rfl
  have hi2 : (Try.prog.info? 79).map (·.size) = some 3 := by kernel_rfl
  have Hy0 := Lib.hid hy0
  have Hy1 := Lib.hid hy1
  have Hi2 := Lib.hid hi2
  clear t1 hl1 hy0 hy1 hi2
  go_enter Try.func10, Try.ntmps10
  go_wp2_with fail
  refine (shown4_any h).mono ?_
  rintro e w1 ⟨rfl, h1⟩
  go_wp2_with fail
  refine (ground4_any h1).mono ?_
  rintro e w2 ⟨p, s, d, rfl, hfu, h2⟩
  go_wp2_with fail
  refine (sbegin_any h2).mono ?_
  rintro e w3 ⟨rfl, h3⟩
  have h4 : Bears w3 (spA s p d 1024 0 (outL 1024) true (freshF 1024) (freshF 1024) * R) := h3.spLeast
  have hS0 := Start3.fresh
  generalize hG0 : freshF 1024 = F0 at h4 hS0
  clear h h1 h2 h3 hG0
  have HS0 := Lib.hid hS0
  clear hS0
  go_wp2_with (first
    | (refine wpList_op rfl (exec_build0 rfl (Hy0.out _)) ?_)
    | (refine wpList_alloc_z rfl rfl (Hy1.out _) ?_)
    | (refine wpList_store_obj (h4.alloc _) rfl rfl rfl rfl rfl Hi2.out (by intro v hv; simp at hv; rcases hv with rfl | rfl | rfl <;> rfl) ?_; intro w4 h5))
  generalize w3.heap.size = nb at h5
  clear h4
  go_loopw [7] (fun iv wr => ∃ (i : Nat) (G : Nat → Sec), i ≤ 3 ∧ iv = .int .i64 i ∧ Start3 i G ∧ Bears wr (Assn.obj nb (.cells ((nsL i).map (Value.int .i64)).toArray 79 (0, 0)) * (spA s p d 1024 0 (outL 1024) true F0 G * R))) (fun iv _ => 3 - (intOf iv).toNat)
  case atStart => exact ⟨0, F0, by omega, rfl, HS0.out, h5⟩
  case round =>
    clear h5
    obtain ⟨i, G, hi, rfl, hS, h6⟩ := hrel
    have HS := Lib.hid hS
    clear hS
    by_cases hlt : i < 3
    · have ha := talloc_any h6.pull2 HS.out.took (show i < 273 by omega) (by simp) (fun j hj => by simpa using hj)
      rw [show ((751 + i : Nat) : Int) = 751 + (i : Int) by omega] at ha
      have hset := fun w' Q (h : Bears w' (Assn.obj nb (.cells ((nsL i).map (Value.int .i64)).toArray 79 (0, 0)) * Q)) => (And.intro (h.intCell (j := i) (by rw [nsL_length]; exact hlt)) (h.setInt i (751 + (i : Int))))
      rw [nsL_set hlt] at hset
      generalize (nsL i).getD i 0 = old at hset
      have hn := HS.out.next hlt
      have Ha := Lib.hid ha
      have Hset := Lib.hid hset
      have Hn := Lib.hid hn
      clear ha hset hn
      go_wp2_with fail
      refine Ha.out.mono ?_
      rintro e w8 ⟨rfl, h8⟩
      obtain ⟨c8, h9⟩ := Hset.out _ _ h8.pull2
      have f8 := frozen_of_obj h8.pull2.obj i
      clear h6 h8
      go_wp2_with fail
      go_roundw
      case rel => exact ⟨i + 1, _, hlt, by go_num, Hn.out, h9⟩
      case measure => simp [intOf]; omega
    · obtain rfl : i = 3 := by omega
      have hap := HS.out.apart
      have hmk : ∀ w, (Instr.makeSlice 43 (.int .i64 64) (.int .i64 64)).run Try.prog w = .ok (.slice (some ⟨w.heap.size, 0, none⟩) 64 64) (w.alloc (.cells (cellsV zeroSec).toArray 5)) := fun _ => by kernel_rfl
      have hmk2 : ∀ w, (Instr.makeSlice 43 (.int .i64 32) (.int .i64 32)).run Try.prog w = .ok (.slice (some ⟨w.heap.size, 0, none⟩) 32 32) (w.alloc (.cells (cellsV (List.replicate 32 0)).toArray 5)) := fun _ => by kernel_rfl
      have hz64 : zeroSec.length = 64 := rfl
      have hz32 : (List.replicate 32 (0 : UInt8)).length = 32 := rfl
      generalize zeroSec = z at hap hmk hz64
      generalize List.replicate 32 (0 : UInt8) = y at hap hmk2 hz32
      have Hap := Lib.hid hap
      have hb0 : ∀ w, (Instr.build 80 #[]).run Try.prog w = .ok (.agg #[.string ⟨#[]⟩, .string ⟨#[]⟩, .string ⟨#[]⟩]) w := fun _ => by kernel_rfl
      have hb1 : ∀ w, (zeroValue 80).run Try.prog w = .ok (.agg #[.string ⟨#[]⟩, .string ⟨#[]⟩, .string ⟨#[]⟩]) w := fun _ => by kernel_rfl
      have hb2 : (Try.prog.info? 80).map (·.size) = some 3 := by kernel_rfl
      have Hb0 := Lib.hid hb0
      have Hb1 := Lib.hid hb1
      have Hb2 := Lib.hid hb2
      have Hmk := Lib.hid hmk
      have Hmk2 := Lib.hid hmk2
      clear hap hb0 hb1 hb2 HS HS0 hmk hmk2
      go_wp2_with (first
        | (refine wpList_op rfl (exec_build0 rfl (Hb0.out _)) ?_)
        | (refine wpList_alloc_z rfl rfl (Hb1.out _) ?_)
        | (refine wpList_store_obj (h6.alloc _) rfl rfl rfl rfl rfl Hb2.out (by intro v hv; simp at hv; rcases hv with rfl | rfl | rfl <;> rfl) ?_; intro w7 h7)
        | (refine wpList_store_obj (h7.alloc _) rfl rfl rfl rfl rfl Hb2.out (by intro v hv; simp at hv; rcases hv with rfl | rfl | rfl <;> rfl) ?_; intro w8 h8))
      generalize wr.heap.size = bb at h7 h8
      generalize w7.heap.size = ib at h8
      have h9 : Bears w8 (stA s p d 1024 (outL 1024) ⟨0, true, F0, G⟩ * (Assn.obj nb (.cells ((nsL 3).map (Value.int .i64)).toArray 79 (0, 0)) * (Assn.obj bb (.cells (strsV (zsL z 0)).toArray 80 (0, 0)) * (Assn.obj ib (.cells (strsV (zsL y 0)).toArray 80 (0, 0)) * R)))) := h8.cast (by unfold stA; ac_rfl)
      clear h6 h7 h8
      go_loopw [12] (fun iv wr => ∃ i : Nat, i ≤ 3 ∧ iv = .int .i64 i ∧ Bears wr (stA s p d 1024 (outL 1024) ⟨0, true, F0, G⟩ * (Assn.obj nb (.cells ((nsL 3).map (Value.int .i64)).toArray 79 (0, 0)) * (Assn.obj bb (.cells (strsV (zsL z i)).toArray 80 (0, 0)) * (Assn.obj ib (.cells (strsV (zsL y i)).toArray 80 (0, 0)) * R))))) (fun iv _ => 3 - (intOf iv).toNat)
      case atStart => exact ⟨0, by omega, rfl, h9⟩
      case round =>
        clear h9
        obtain ⟨i, hi, rfl, h10⟩ := hrel
        by_cases hlt : i < 3
        · have e1 := zsL_set (z := z) hlt
          have e2 := zsL_set (z := y) hlt
          have hA := h10.alloc (.cells (cellsV z).toArray 5)
          have k1 := hA.pull4.strCell (j := i) (by rw [zsL_length]; exact hlt)
          have g1 := frozen_of_obj hA.pull4.obj i
          have hB := hA.pull4.setStr i z
          have hC := hB.alloc (.cells (cellsV y).toArray 5)
          rw [show ((wr.alloc (.cells (cellsV z).toArray 5)).setCell ⟨bb, i, none⟩ (strV z)).heap.size = wr.heap.size + 1 by simp] at hC
          have k2 := hC.pull6.strCell (j := i) (by rw [zsL_length]; exact hlt)
          have g2 := frozen_of_obj hC.pull6.obj i
          have hD := hC.pull6.setStr i y
          rw [e1, e2] at hD
          have hmk := Hmk.out
          have hmk2 := Hmk2.out
          have HD := Lib.hid hD
          generalize (zsL z i).getD i [] = o1 at k1
          generalize (zsL y i).getD i [] = o2 at k2
          clear hD e1 e2
          go_wp2_with (first
            | (refine wpList_op rfl (exec_convert rfl rfl (run_convert_in (BytesIn.tells _ _ hz64.symm _ hA))) ?_)
            | (refine wpList_op rfl (exec_convert rfl rfl (run_convert_in (BytesIn.tells _ _ hz32.symm _ hC))) ?_))
          go_roundw
          case rel => exact ⟨i + 1, hlt, by go_num, HD.out.pull2.right.pull3.right.cast (by ac_rfl)⟩
          case measure => simp [intOf]; omega
        · obtain rfl : i = 3 := by omega
          rw [show ((3 : Nat) : Int) = 3 from rfl]
          have h11 : ∃ bs is G, Apart3 G bs is ∧ Bears wr (stA s p d 1024 (outL 1024) ⟨0, true, F0, G⟩ * (Assn.obj nb (.cells ((nsL 3).map (Value.int .i64)).toArray 79 (0, 0)) * (Assn.obj bb (.cells (strsV bs).toArray 80 (0, 0)) * (Assn.obj ib (.cells (strsV is).toArray 80 (0, 0)) * R)))) := ⟨_, _, _, Hap.out, h10⟩
          have H11 := Lib.hid h11
          clear h10 h11
          go_upto_block 4 with (fail)
          go_cut [] (fun wr => ∃ bs is G, Apart3 G bs is ∧ Bears wr (stA s p d 1024 (outL 1024) ⟨0, true, F0, G⟩ * (Assn.obj nb (.cells ((nsL 3).map (Value.int .i64)).toArray 79 (0, 0)) * (Assn.obj bb (.cells (strsV bs).toArray 80 (0, 0)) * (Assn.obj ib (.cells (strsV is).toArray 80 (0, 0)) * R)))))
          case first =>
            go_wp2_with fail
            go_loopw [13] (fun iv wr => ∃ k : Nat, k ≤ l.length ∧ k ≤ 60 ∧ iv = .int .i64 k ∧ ∃ bs is G, Apart3 G bs is ∧ Bears wr (stA s p d 1024 (outL 1024) ⟨0, true, F0, G⟩ * (Assn.obj nb (.cells ((nsL 3).map (Value.int .i64)).toArray 79 (0, 0)) * (Assn.obj bb (.cells (strsV bs).toArray 80 (0, 0)) * (Assn.obj ib (.cells (strsV is).toArray 80 (0, 0)) * R))))) (fun iv _ => 60 - (intOf iv).toNat)
            case atStart => exact ⟨0, by omega, by omega, rfl, H11.out⟩
            case round =>
              clear H11
              obtain ⟨k, hk, hk2, rfl, bs, is, G, hap, h12⟩ := hrel
              have Hap := Lib.hid hap
              clear hap
              by_cases hlt : k < l.length ∧ k < 60
              · obtain ⟨hlt, hlt2⟩ := hlt
                obtain ⟨b0, o0, rfl, q0, q1, q2⟩ := (T1.out _ h12.right.right.right.right).cells hlt
                have hop := HL1.out k hlt
                have hbt := fun w' (hw : Bears w' R) => (T1.out w' hw).bytes hlt
                have hq2 : ∀ w', Bears w' R → w'.cell? ⟨b0, o0 + k * 3 + 2, none⟩ = some (.slice (l.getD k default).bad (l.getD k default).b.length (l.getD k default).bcap) := fun w' hw => by
                  obtain ⟨b', o', e, _, _, q⟩ := (T1.out w' hw).cells hlt
                  cases e
                  exact q
                generalize hc : l.getD k default = op at q0 q1 q2 hop hbt hq2
                obtain ⟨kd, n, ob, oad, ocap⟩ := op
                simp only at q0 q1 q2 hbt hq2
                obtain ⟨m, hm, hkv⟩ := kindN_lt n 3 (by decide)
                rw [show ((3 : Nat) : Int) = 3 from rfl] at hkv
                have hmi : (m : Int) < 3 := by omega
                have hn : ∀ w' Q, Bears w' (Assn.obj nb (.cells ((nsL 3).map (Value.int .i64)).toArray 79 (0, 0)) * Q) → w'.cell? ⟨nb, m, none⟩ = some (.int .i64 (751 + (m : Int))) := fun w' Q h => by
                  have := h.intCell (j := m) (by rw [nsL_length]; exact hm)
                  rwa [nsL_at hm, show ((751 + m : Nat) : Int) = 751 + (m : Int) by omega] at this
                have Hkv := Lib.hid hkv
                have Hop := Lib.hid hop
                have Hbt := Lib.hid hbt
                have Hq2 := Lib.hid hq2
                have Hn := Lib.hid hn
                clear hc hkv hop hbt hq2 hn
                go_wp2_with fail
                refine (kind4_any n 3 _ Hop.out.n (by omega)).mono ?_
                rintro e w' ⟨rfl, rfl⟩
                rw [Hkv.out]
                go_wp2_with fail
                have h13 : Bears wr (R * (Assn.obj nb (.cells ((nsL 3).map (Value.int .i64)).toArray 79 (0, 0)) * (stA s p d 1024 (outL 1024) ⟨0, true, F0, G⟩ * (Assn.obj bb (.cells (strsV bs).toArray 80 (0, 0)) * Assn.obj ib (.cells (strsV is).toArray 80 (0, 0)))))) := h12.cast (by ac_rfl)
                by_cases hA : ob.length = 64
                · have dA : ((ob.length : Int) == 64) = true := by rw [hA]; rfl
                  have dB : ((ob.length : Int) == 32) = false := by rw [hA]; rfl
                  have hw := write_st h12.drew ((751 + m : Nat) : Int) (ad := oad) (bn := ob.length) (cap := ocap) (fun w' hw => Hbt.out w' hw.right.right.right) (Hap.out.writes hm hA)
                  rw [show ((751 + m : Nat) : Int) = 751 + (m : Int) by omega] at hw
                  have hap2 := Hap.out.write hm hA
                  have Hw := Lib.hid hw
                  clear hw hA
                  refine wp_region_L (fun w' => ∃ Q, Bears w' (R * (Assn.obj nb (.cells ((nsL 3).map (Value.int .i64)).toArray 79 (0, 0)) * Q))) 20
                    [(true, 0), (true, 1), (true, 2), (true, 3), (true, 4), (true, 5), (true, 6), (true, 7), (true, 8), (true, 9), (true, 10), (true, 11), (true, 12), (true, 13), (true, 14), (true, 15), (true, 16), (false, 17), (true, 18), (true, 19)] [] (by kernel_rfl) (by kernel_rfl) ⟨_, h13.drew⟩ ?_
                  simp only [pick, List.getElem?_cons_zero, List.getElem?_cons_succ]
                  refine wpL_yield (v := ?_) rfl (fun w' hS => ?_) ?_
                  rotate_left
                  · (obtain ⟨_, hS⟩ := hS; have q2 := Hq2.out _ hS.left; have nn := Hn.out _ _ hS.right; go_simp; try with_reducible rfl)
                  simp only [Act.put, List.setIfInBounds_toArray, List.set_cons_zero, List.set_cons_succ]
                  refine wpL_yield (v := ?_) rfl (fun w' hS => ?_) ?_
                  rotate_left
                  · (obtain ⟨_, hS⟩ := hS; have q2 := Hq2.out _ hS.left; have nn := Hn.out _ _ hS.right; go_simp; try with_reducible rfl)
                  simp only [Act.put, List.setIfInBounds_toArray, List.set_cons_zero, List.set_cons_succ]
                  refine wpL_yield (v := ?_) rfl (fun w' hS => ?_) ?_
                  rotate_left
                  · (obtain ⟨_, hS⟩ := hS; have q2 := Hq2.out _ hS.left; have nn := Hn.out _ _ hS.right; go_simp; try with_reducible rfl)
                  simp only [Act.put, List.setIfInBounds_toArray, List.set_cons_zero, List.set_cons_succ]
                  refine wpL_yield (v := ?_) rfl (fun w' hS => ?_) ?_
                  rotate_left
                  · (obtain ⟨_, hS⟩ := hS; have q2 := Hq2.out _ hS.left; have nn := Hn.out _ _ hS.right; go_simp; try with_reducible rfl)
                  simp only [Act.put, List.setIfInBounds_toArray, List.set_cons_zero, List.set_cons_succ]
                  refine wpL_yield (v := ?_) rfl (fun w' hS => ?_) ?_
                  rotate_left
                  · (obtain ⟨_, hS⟩ := hS; have q2 := Hq2.out _ hS.left; have nn := Hn.out _ _ hS.right; go_simp; try with_reducible rfl)
                  simp only [Act.put, List.setIfInBounds_toArray, List.set_cons_zero, List.set_cons_succ]
                  refine wpL_yield (v := ?_) rfl (fun w' hS => ?_) ?_
                  rotate_left
                  · (obtain ⟨_, hS⟩ := hS; have q2 := Hq2.out _ hS.left; have nn := Hn.out _ _ hS.right; go_simp; try with_reducible rfl)
                  simp only [Act.put, List.setIfInBounds_toArray, List.set_cons_zero, List.set_cons_succ]
                  refine wpL_yield (v := ?_) rfl (fun w' hS => ?_) ?_
                  rotate_left
                  · (obtain ⟨_, hS⟩ := hS; have q2 := Hq2.out _ hS.left; have nn := Hn.out _ _ hS.right; go_simp; try with_reducible rfl)
                  simp only [Act.put, List.setIfInBounds_toArray, List.set_cons_zero, List.set_cons_succ]
                  refine wpL_yield (v := ?_) rfl (fun w' hS => ?_) ?_
                  rotate_left
                  · (go_simp; try with_reducible rfl)
                  simp only [Act.put, List.setIfInBounds_toArray, List.set_cons_zero, List.set_cons_succ]
                  refine wpL_guarded (v := ?_) rfl (fun w' hS => ?_) ?_
                  rotate_left
                  · (obtain ⟨_, hS⟩ := hS; have q2 := Hq2.out _ hS.left; have nn := Hn.out _ _ hS.right; go_simp; try with_reducible rfl)
                  simp only [Act.put, List.setIfInBounds_toArray, List.set_cons_zero, List.set_cons_succ]
                  refine wpL_guarded (v := ?_) rfl (fun w' hS => ?_) ?_
                  rotate_left
                  · (obtain ⟨_, hS⟩ := hS; have q2 := Hq2.out _ hS.left; have nn := Hn.out _ _ hS.right; go_simp; try with_reducible rfl)
                  simp only [Act.put, List.setIfInBounds_toArray, List.set_cons_zero, List.set_cons_succ]
                  refine wpL_guarded (v := ?_) rfl (fun w' hS => ?_) ?_
                  rotate_left
                  · (obtain ⟨_, hS⟩ := hS; have q2 := Hq2.out _ hS.left; have nn := Hn.out _ _ hS.right; go_simp; try with_reducible rfl)
                  simp only [Act.put, List.setIfInBounds_toArray, List.set_cons_zero, List.set_cons_succ]
                  refine wpL_guarded (v := ?_) rfl (fun w' hS => ?_) ?_
                  rotate_left
                  · (obtain ⟨_, hS⟩ := hS; have q2 := Hq2.out _ hS.left; have nn := Hn.out _ _ hS.right; go_simp; try with_reducible rfl)
                  simp only [Act.put, List.setIfInBounds_toArray, List.set_cons_zero, List.set_cons_succ]
                  refine wpL_guarded (v := ?_) rfl (fun w' hS => ?_) ?_
                  rotate_left
                  · (obtain ⟨_, hS⟩ := hS; have q2 := Hq2.out _ hS.left; have nn := Hn.out _ _ hS.right; go_simp; try with_reducible rfl)
                  simp only [Act.put, List.setIfInBounds_toArray, List.set_cons_zero, List.set_cons_succ]
                  refine wpL_guarded (v := ?_) rfl (fun w' hS => ?_) ?_
                  rotate_left
                  · (obtain ⟨_, hS⟩ := hS; have q2 := Hq2.out _ hS.left; have nn := Hn.out _ _ hS.right; go_simp; try with_reducible rfl)
                  simp only [Act.put, List.setIfInBounds_toArray, List.set_cons_zero, List.set_cons_succ]
                  refine wpL_guarded (v := ?_) rfl (fun w' hS => ?_) ?_
                  rotate_left
                  · (obtain ⟨_, hS⟩ := hS; have q2 := Hq2.out _ hS.left; have nn := Hn.out _ _ hS.right; go_simp; try with_reducible rfl)
                  simp only [Act.put, List.setIfInBounds_toArray, List.set_cons_zero, List.set_cons_succ]
                  refine wpL_guarded (v := ?_) rfl (fun w' hS => ?_) ?_
                  rotate_left
                  · (obtain ⟨_, hS⟩ := hS; have q2 := Hq2.out _ hS.left; have nn := Hn.out _ _ hS.right; go_simp; try with_reducible rfl)
                  simp only [Act.put, List.setIfInBounds_toArray, List.set_cons_zero, List.set_cons_succ]
                  refine wpL_guarded (v := ?_) rfl (fun w' hS => ?_) ?_
                  rotate_left
                  · (obtain ⟨_, hS⟩ := hS; have q2 := Hq2.out _ hS.left; have nn := Hn.out _ _ hS.right; go_simp; try with_reducible rfl)
                  simp only [Act.put, List.setIfInBounds_toArray, List.set_cons_zero, List.set_cons_succ]
                  refine wpL_effG rfl ?_
                  go_simp
                  refine Hw.out.mono ?_
                  rintro e w14 ⟨rfl, h14⟩
                  generalize updS G (751 + m) ob = G2 at h14 hap2
                  have h15 : Bears w14 (R * (Assn.obj nb (.cells ((nsL 3).map (Value.int .i64)).toArray 79 (0, 0)) * (stA s p d 1024 (outL 1024) ⟨0, true, F0, G2⟩ * (Assn.obj bb (.cells (strsV bs).toArray 80 (0, 0)) * Assn.obj ib (.cells (strsV is).toArray 80 (0, 0)))))) := h14.cast (by ac_rfl)
                  refine ⟨⟨_, h15⟩, ?_⟩
                  refine wpL_guarded (v := ?_) rfl (fun w' hS => ?_) ?_
                  rotate_left
                  · (go_simp; try with_reducible rfl)
                  simp only [Act.put, List.setIfInBounds_toArray, List.set_cons_zero, List.set_cons_succ]
                  refine wpL_yield (v := ?_) rfl (fun w' hS => ?_) ?_
                  rotate_left
                  · (go_simp; try with_reducible rfl)
                  simp only [Act.put, List.setIfInBounds_toArray, List.set_cons_zero, List.set_cons_succ]
                  refine wpL_nil ?_
                  refine wpL_nil ?_
                  have q2a := Hq2.out _ h15.left
                  have cb := h14.pull3.strCell (j := m) (by rw [Hap.out.lb]; exact hm)
                  have fb := frozen_of_obj h14.pull3.obj m
                  have h16 := (h14.pull3.setStr m ob).push3
                  have q2b := Hq2.out _ h16.right.right.right.right
                  generalize bs.set m ob = bs2 at h16 hap2
                  generalize bs.getD m [] = old at cb
                  have hby := Hbt.out _ h15.left
                  clear h12 h13 h14 h15 q0 q1 q2
                  go_wp2_with (refine wpList_op rfl (exec_convert rfl rfl (run_convert_in hby)) ?_)
                  have HapL := Lib.hid hap2
                  clear hap2
                  go_loopw [15] (fun jv wr => ∃ j : Nat, j ≤ 3 ∧ jv = .int .i64 j ∧ Bears wr (stA s p d 1024 (outL 1024) ⟨0, true, F0, G2⟩ * (Assn.obj nb (.cells ((nsL 3).map (Value.int .i64)).toArray 79 (0, 0)) * (Assn.obj bb (.cells (strsV bs2).toArray 80 (0, 0)) * (Assn.obj ib (.cells (strsV is).toArray 80 (0, 0)) * R))))) (fun jv _ => 3 - (intOf jv).toNat)
                  case atStart => exact ⟨0, by omega, rfl, h16⟩
                  case round =>
                    clear h16
                    obtain ⟨j, hj, rfl, h20⟩ := hrel
                    by_cases hj3 : j < 3
                    · have hnc := h20.pull2.intCell (j := j) (by rw [nsL_length]; exact hj3)
                      rw [nsL_at hj3] at hnc
                      have hrd := read_st h20 ((751 + j : Nat) : Int) (HapL.out.reads hj3)
                      have hin := fun w' Q (h : Bears w' (stA s p d 1024 (outL 1024) ⟨0, true, F0, G2⟩ * Q)) => inode_st h ((10 + j : Nat) : Int) (HapL.out.inodes hj3)
                      have hji : (j : Int) < 3 := by omega
                      rw [show ((751 + j : Nat) : Int) = 751 + (j : Int) by omega] at hnc hrd
                      rw [show ((10 + j : Nat) : Int) = 10 + (j : Int) by omega] at hin
                      have hsc : ∀ w' Q, Bears w' (Assn.obj bb (.cells (strsV bs2).toArray 80 (0, 0)) * (Assn.obj ib (.cells (strsV is).toArray 80 (0, 0)) * Q)) →
                          w'.cell? ⟨bb, j, none⟩ = some (strV (bs2.getD j [])) ∧ w'.cell? ⟨ib, j, none⟩ = some (strV (is.getD j [])) := fun w' Q h =>
                        ⟨h.strCell (by rw [HapL.out.lb]; exact hj3), h.right.strCell (by rw [HapL.out.li]; exact hj3)⟩
                      generalize bs2.getD j [] = xb at hrd hsc
                      generalize is.getD j [] = xi at hin hsc
                      have Hrd := Lib.hid hrd
                      have Hin := Lib.hid hin
                      have Hsc := Lib.hid hsc
                      clear hrd hin hsc
                      go_wp2_with fail
                      refine Hrd.out.mono ?_
                      rintro e w21 ⟨ad1, n1, cap1, rfl, h21⟩
                      go_wp2_with fail
                      refine (Hin.out _ _ h21.pull2).mono ?_
                      rintro e w22 ⟨ad2, n2, cap2, rfl, h22⟩
                      have h23 : Bears w22 (bufA (.slice ad1 n1 cap1) xb * (bufA (.slice ad2 n2 cap2) xi * (Assn.obj bb (.cells (strsV bs2).toArray 80 (0, 0)) * (Assn.obj ib (.cells (strsV is).toArray 80 (0, 0)) * (stA s p d 1024 (outL 1024) ⟨0, true, F0, G2⟩ * (Assn.obj nb (.cells ((nsL 3).map (Value.int .i64)).toArray 79 (0, 0)) * R)))))) := h22.cast (by ac_rfl)
                      clear h21 h22 h20
                      go_wp2_with fail
                      refine wp_region_L (fun w' => ∃ Q, Bears w' (bufA (.slice ad1 n1 cap1) xb * (bufA (.slice ad2 n2 cap2) xi * (Assn.obj bb (.cells (strsV bs2).toArray 80 (0, 0)) * (Assn.obj ib (.cells (strsV is).toArray 80 (0, 0)) * Q))))) 22
                        [(true, 0), (true, 1), (true, 2), (true, 3), (true, 4), (true, 5), (true, 6), (true, 7), (true, 8), (true, 9), (true, 10), (true, 11), (true, 12), (true, 13), (true, 14), (true, 15), (true, 16), (true, 17), (true, 18), (true, 19), (true, 20), (true, 21)] [] (by kernel_rfl) (by kernel_rfl) ⟨_, h23.drew⟩ ?_
                      simp only [pick, List.getElem?_cons_zero, List.getElem?_cons_succ]
                      refine wpL_yield (v := ?_) rfl (fun w' hS => ?_) ?_
                      rotate_left
                      · (go_simp; try with_reducible rfl)
                      simp only [Act.put, List.setIfInBounds_toArray, List.set_cons_zero, List.set_cons_succ]
                      refine wpL_yield (v := ?_) rfl (fun w' hS => ?_) ?_
                      rotate_left
                      · (go_simp; try with_reducible rfl)
                      simp only [Act.put, List.setIfInBounds_toArray, List.set_cons_zero, List.set_cons_succ]
                      refine wpL_yield (v := ?_) rfl (fun w' hS => ?_) ?_
                      rotate_left
                      · (go_simp; try with_reducible rfl)
                      simp only [Act.put, List.setIfInBounds_toArray, List.set_cons_zero, List.set_cons_succ]
                      refine wpL_guarded (v := ?_) rfl (fun w' hS => ?_) ?_
                      rotate_left
                      · (go_simp; try with_reducible rfl)
                      simp only [Act.put, List.setIfInBounds_toArray, List.set_cons_zero, List.set_cons_succ]
                      refine wpL_guarded (v := ?_) rfl (fun w' hS => ?_) ?_
                      rotate_left
                      · (go_simp; try with_reducible rfl)
                      simp only [Act.put, List.setIfInBounds_toArray, List.set_cons_zero, List.set_cons_succ]
                      refine wpL_yield (v := ?_) rfl (fun w' hS => ?_) ?_
                      rotate_left
                      · (go_simp; try with_reducible rfl)
                      simp only [Act.put, List.setIfInBounds_toArray, List.set_cons_zero, List.set_cons_succ]
                      refine wpL_yield (v := ?_) rfl (fun w' hS => ?_) ?_
                      rotate_left
                      · (go_simp; try with_reducible rfl)
                      simp only [Act.put, List.setIfInBounds_toArray, List.set_cons_zero, List.set_cons_succ]
                      refine wpL_guarded (v := ?_) rfl (fun w' hS => ?_) ?_
                      rotate_left
                      · (go_simp; try with_reducible rfl)
                      simp only [Act.put, List.setIfInBounds_toArray, List.set_cons_zero, List.set_cons_succ]
                      refine wpL_guarded rfl (fun w' hS => exec_convert rfl rfl (run_convert_in (by obtain ⟨_, hS⟩ := hS; exact buf_tells _ hS))) ?_
                      simp only [Act.put, List.setIfInBounds_toArray, List.set_cons_zero, List.set_cons_succ]
                      refine wpL_guarded (v := ?_) rfl (fun w' hS => ?_) ?_
                      rotate_left
                      · (obtain ⟨_, hS⟩ := hS; obtain ⟨cb, ci⟩ := Hsc.out _ _ hS.right.right; go_simp; try with_reducible rfl)
                      simp only [Act.put, List.setIfInBounds_toArray, List.set_cons_zero, List.set_cons_succ]
                      refine wpL_guarded (v := ?_) rfl (fun w' hS => ?_) ?_
                      rotate_left
                      · (obtain ⟨_, hS⟩ := hS; obtain ⟨cb, ci⟩ := Hsc.out _ _ hS.right.right; go_simp; try with_reducible rfl)
                      simp only [Act.put, List.setIfInBounds_toArray, List.set_cons_zero, List.set_cons_succ]
                      refine wpL_guarded (v := ?_) rfl (fun w' hS => ?_) ?_
                      rotate_left
                      · (obtain ⟨_, hS⟩ := hS; obtain ⟨cb, ci⟩ := Hsc.out _ _ hS.right.right; go_simp; try with_reducible rfl)
                      simp only [Act.put, List.setIfInBounds_toArray, List.set_cons_zero, List.set_cons_succ]
                      refine wpL_guarded (v := ?_) rfl (fun w' hS => ?_) ?_
                      rotate_left
                      · (obtain ⟨_, hS⟩ := hS; obtain ⟨cb, ci⟩ := Hsc.out _ _ hS.right.right; go_simp; try with_reducible rfl)
                      simp only [Act.put, List.setIfInBounds_toArray, List.set_cons_zero, List.set_cons_succ]
                      refine wpL_yield (v := ?_) rfl (fun w' hS => ?_) ?_
                      rotate_left
                      · (go_simp; try with_reducible rfl)
                      simp only [Act.put, List.setIfInBounds_toArray, List.set_cons_zero, List.set_cons_succ]
                      refine wpL_yield (v := ?_) rfl (fun w' hS => ?_) ?_
                      rotate_left
                      · (go_simp; try with_reducible rfl)
                      simp only [Act.put, List.setIfInBounds_toArray, List.set_cons_zero, List.set_cons_succ]
                      refine wpL_guarded (v := ?_) rfl (fun w' hS => ?_) ?_
                      rotate_left
                      · (go_simp; try with_reducible rfl)
                      simp only [Act.put, List.setIfInBounds_toArray, List.set_cons_zero, List.set_cons_succ]
                      refine wpL_guarded rfl (fun w' hS => exec_convert rfl rfl (run_convert_in (by obtain ⟨_, hS⟩ := hS; exact buf_tells _ hS.right))) ?_
                      simp only [Act.put, List.setIfInBounds_toArray, List.set_cons_zero, List.set_cons_succ]
                      refine wpL_guarded (v := ?_) rfl (fun w' hS => ?_) ?_
                      rotate_left
                      · (obtain ⟨_, hS⟩ := hS; obtain ⟨cb, ci⟩ := Hsc.out _ _ hS.right.right; go_simp; try with_reducible rfl)
                      simp only [Act.put, List.setIfInBounds_toArray, List.set_cons_zero, List.set_cons_succ]
                      refine wpL_guarded (v := ?_) rfl (fun w' hS => ?_) ?_
                      rotate_left
                      · (obtain ⟨_, hS⟩ := hS; obtain ⟨cb, ci⟩ := Hsc.out _ _ hS.right.right; go_simp; try with_reducible rfl)
                      simp only [Act.put, List.setIfInBounds_toArray, List.set_cons_zero, List.set_cons_succ]
                      refine wpL_guarded (v := ?_) rfl (fun w' hS => ?_) ?_
                      rotate_left
                      · (obtain ⟨_, hS⟩ := hS; obtain ⟨cb, ci⟩ := Hsc.out _ _ hS.right.right; go_simp; try with_reducible rfl)
                      simp only [Act.put, List.setIfInBounds_toArray, List.set_cons_zero, List.set_cons_succ]
                      refine wpL_guarded (v := ?_) rfl (fun w' hS => ?_) ?_
                      rotate_left
                      · (obtain ⟨_, hS⟩ := hS; obtain ⟨cb, ci⟩ := Hsc.out _ _ hS.right.right; go_simp; try with_reducible rfl)
                      simp only [Act.put, List.setIfInBounds_toArray, List.set_cons_zero, List.set_cons_succ]
                      refine wpL_yield (v := ?_) rfl (fun w' hS => ?_) ?_
                      rotate_left
                      · (go_simp; try with_reducible rfl)
                      simp only [Act.put, List.setIfInBounds_toArray, List.set_cons_zero, List.set_cons_succ]
                      refine wpL_nil ?_
                      refine wpL_nil ?_
                      go_wp2_with fail
                      go_roundw
                      case rel => exact ⟨j + 1, hj3, by go_num, h23.drew.right.right.cast (by ac_rfl)⟩
                      case measure => simp [intOf]; omega
                    · obtain rfl : j = 3 := by omega
                      go_wp2_with fail
                      go_roundw
                      case rel => exact ⟨k + 1, hlt, hlt2, by go_num, bs2, is, G2, HapL.out, h20⟩
                      case measure => simp [intOf]; omega
                · have dA : ((ob.length : Int) == 64) = false := by rw [beq_eq_false_iff_ne]; omega
                  have dA2 : (ob.length == 64) = false := by rw [beq_eq_false_iff_ne]; omega
                  have dA3 : decide (ob.length = 64) = false := decide_eq_false hA
                  have dA4 : decide ((ob.length : Int) = 64) = false := decide_eq_false (by omega)
                  clear hA
                  refine wp_region_L (fun w' => ∃ Q, Bears w' (R * (Assn.obj nb (.cells ((nsL 3).map (Value.int .i64)).toArray 79 (0, 0)) * Q))) 20
                    [(true, 0), (true, 1), (true, 2), (true, 3), (true, 4), (true, 5), (true, 6), (true, 7), (true, 8), (true, 9), (true, 10), (true, 11), (true, 12), (true, 13), (true, 14), (true, 15), (true, 16), (true, 17), (true, 18), (true, 19)] [] (by kernel_rfl) (by kernel_rfl) ⟨_, h13.drew⟩ ?_
                  simp only [pick, List.getElem?_cons_zero, List.getElem?_cons_succ]
                  refine wpL_yield (v := ?_) rfl (fun w' hS => ?_) ?_
                  rotate_left
                  · (obtain ⟨_, hS⟩ := hS; have q2 := Hq2.out _ hS.left; have nn := Hn.out _ _ hS.right; go_simp; try with_reducible rfl)
                  simp only [Act.put, List.setIfInBounds_toArray, List.set_cons_zero, List.set_cons_succ]
                  refine wpL_yield (v := ?_) rfl (fun w' hS => ?_) ?_
                  rotate_left
                  · (obtain ⟨_, hS⟩ := hS; have q2 := Hq2.out _ hS.left; have nn := Hn.out _ _ hS.right; go_simp; try with_reducible rfl)
                  simp only [Act.put, List.setIfInBounds_toArray, List.set_cons_zero, List.set_cons_succ]
                  refine wpL_yield (v := ?_) rfl (fun w' hS => ?_) ?_
                  rotate_left
                  · (obtain ⟨_, hS⟩ := hS; have q2 := Hq2.out _ hS.left; have nn := Hn.out _ _ hS.right; go_simp; try with_reducible rfl)
                  simp only [Act.put, List.setIfInBounds_toArray, List.set_cons_zero, List.set_cons_succ]
                  refine wpL_yield (v := ?_) rfl (fun w' hS => ?_) ?_
                  rotate_left
                  · (obtain ⟨_, hS⟩ := hS; have q2 := Hq2.out _ hS.left; have nn := Hn.out _ _ hS.right; go_simp; try with_reducible rfl)
                  simp only [Act.put, List.setIfInBounds_toArray, List.set_cons_zero, List.set_cons_succ]
                  refine wpL_yield (v := ?_) rfl (fun w' hS => ?_) ?_
                  rotate_left
                  · (obtain ⟨_, hS⟩ := hS; have q2 := Hq2.out _ hS.left; have nn := Hn.out _ _ hS.right; go_simp; try with_reducible rfl)
                  simp only [Act.put, List.setIfInBounds_toArray, List.set_cons_zero, List.set_cons_succ]
                  refine wpL_yield (v := ?_) rfl (fun w' hS => ?_) ?_
                  rotate_left
                  · (obtain ⟨_, hS⟩ := hS; have q2 := Hq2.out _ hS.left; have nn := Hn.out _ _ hS.right; go_simp; try with_reducible rfl)
                  simp only [Act.put, List.setIfInBounds_toArray, List.set_cons_zero, List.set_cons_succ]
                  refine wpL_yield (v := ?_) rfl (fun w' hS => ?_) ?_
                  rotate_left
                  · (obtain ⟨_, hS⟩ := hS; have q2 := Hq2.out _ hS.left; have nn := Hn.out _ _ hS.right; go_simp; try with_reducible rfl)
                  simp only [Act.put, List.setIfInBounds_toArray, List.set_cons_zero, List.set_cons_succ]
                  refine wpL_yield (v := ?_) rfl (fun w' hS => ?_) ?_
                  rotate_left
                  · (go_simp; try with_reducible rfl)
                  simp only [Act.put, List.setIfInBounds_toArray, List.set_cons_zero, List.set_cons_succ]
                  refine wpL_skip rfl ?_
                  simp only [Act.put, List.setIfInBounds_toArray, List.set_cons_zero, List.set_cons_succ]
                  refine wpL_skip rfl ?_
                  simp only [Act.put, List.setIfInBounds_toArray, List.set_cons_zero, List.set_cons_succ]
                  refine wpL_skip rfl ?_
                  simp only [Act.put, List.setIfInBounds_toArray, List.set_cons_zero, List.set_cons_succ]
                  refine wpL_skip rfl ?_
                  simp only [Act.put, List.setIfInBounds_toArray, List.set_cons_zero, List.set_cons_succ]
                  refine wpL_skip rfl ?_
                  simp only [Act.put, List.setIfInBounds_toArray, List.set_cons_zero, List.set_cons_succ]
                  refine wpL_skip rfl ?_
                  simp only [Act.put, List.setIfInBounds_toArray, List.set_cons_zero, List.set_cons_succ]
                  refine wpL_skip rfl ?_
                  simp only [Act.put, List.setIfInBounds_toArray, List.set_cons_zero, List.set_cons_succ]
                  refine wpL_skip rfl ?_
                  simp only [Act.put, List.setIfInBounds_toArray, List.set_cons_zero, List.set_cons_succ]
                  refine wpL_skip rfl ?_
                  simp only [Act.put, List.setIfInBounds_toArray, List.set_cons_zero, List.set_cons_succ]
                  refine wpL_skip rfl ?_
                  simp only [Act.put, List.setIfInBounds_toArray, List.set_cons_zero, List.set_cons_succ]
                  refine wpL_skip rfl ?_
                  simp only [Act.put, List.setIfInBounds_toArray, List.set_cons_zero, List.set_cons_succ]
                  refine wpL_yield (v := ?_) rfl (fun w' hS => ?_) ?_
                  rotate_left
                  · (go_simp; try with_reducible rfl)
                  simp only [Act.put, List.setIfInBounds_toArray, List.set_cons_zero, List.set_cons_succ]
                  refine wpL_nil ?_
                  refine wpL_nil ?_
                  by_cases hB : ob.length = 32
                  · have dB : ((ob.length : Int) == 32) = true := by rw [hB]; rfl
                    have hw := setinode_st h12.drew ((10 + m : Nat) : Int) (ad := oad) (bn := ob.length) (cap := ocap) (fun w' hw => Hbt.out w' hw.right.right.right) (Apart3.sets hm hB)
                    rw [show ((10 + m : Nat) : Int) = 10 + (m : Int) by omega] at hw
                    have hap2 := Hap.out.inode hm hB
                    have q2a := Hq2.out _ h13.drew.left
                    have Hw := Lib.hid hw
                    clear hw hB h13 q0 q1 q2
                    go_wp2_with fail
                    refine Hw.out.mono ?_
                    rintro e w14 ⟨rfl, h14⟩
                    generalize (siN 1024 G (10 + m) ob).2 = G2 at h14 hap2
                    have q2b := Hq2.out _ h14.right.right.right.right
                    have hby := Hbt.out _ h14.right.right.right.right
                    have cb := h14.pull4.strCell (j := m) (by rw [Hap.out.li]; exact hm)
                    have fb := frozen_of_obj h14.pull4.obj m
                    have h16 := (h14.pull4.setStr m ob).push4
                    generalize is.set m ob = is2 at h16 hap2
                    generalize is.getD m [] = old at cb
                    clear h12 h14 q2a
                    go_wp2_with (refine wpList_op rfl (exec_convert rfl rfl (run_convert_in hby)) ?_)
                    have HapL := Lib.hid hap2
                    clear hap2
                    go_loopw [15] (fun jv wr => ∃ j : Nat, j ≤ 3 ∧ jv = .int .i64 j ∧ Bears wr (stA s p d 1024 (outL 1024) ⟨0, true, F0, G2⟩ * (Assn.obj nb (.cells ((nsL 3).map (Value.int .i64)).toArray 79 (0, 0)) * (Assn.obj bb (.cells (strsV bs).toArray 80 (0, 0)) * (Assn.obj ib (.cells (strsV is2).toArray 80 (0, 0)) * R))))) (fun jv _ => 3 - (intOf jv).toNat)
                    case atStart => exact ⟨0, by omega, rfl, h16⟩
                    case round =>
                      clear h16
                      obtain ⟨j, hj, rfl, h20⟩ := hrel
                      by_cases hj3 : j < 3
                      · have hnc := h20.pull2.intCell (j := j) (by rw [nsL_length]; exact hj3)
                        rw [nsL_at hj3] at hnc
                        have hrd := read_st h20 ((751 + j : Nat) : Int) (HapL.out.reads hj3)
                        have hin := fun w' Q (h : Bears w' (stA s p d 1024 (outL 1024) ⟨0, true, F0, G2⟩ * Q)) => inode_st h ((10 + j : Nat) : Int) (HapL.out.inodes hj3)
                        have hji : (j : Int) < 3 := by omega
                        rw [show ((751 + j : Nat) : Int) = 751 + (j : Int) by omega] at hnc hrd
                        rw [show ((10 + j : Nat) : Int) = 10 + (j : Int) by omega] at hin
                        have hsc : ∀ w' Q, Bears w' (Assn.obj bb (.cells (strsV bs).toArray 80 (0, 0)) * (Assn.obj ib (.cells (strsV is2).toArray 80 (0, 0)) * Q)) →
                            w'.cell? ⟨bb, j, none⟩ = some (strV (bs.getD j [])) ∧ w'.cell? ⟨ib, j, none⟩ = some (strV (is2.getD j [])) := fun w' Q h =>
                          ⟨h.strCell (by rw [HapL.out.lb]; exact hj3), h.right.strCell (by rw [HapL.out.li]; exact hj3)⟩
                        generalize bs.getD j [] = xb at hrd hsc
                        generalize is2.getD j [] = xi at hin hsc
                        have Hrd := Lib.hid hrd
                        have Hin := Lib.hid hin
                        have Hsc := Lib.hid hsc
                        clear hrd hin hsc
                        go_wp2_with fail
                        refine Hrd.out.mono ?_
                        rintro e w21 ⟨ad1, n1, cap1, rfl, h21⟩
                        go_wp2_with fail
                        refine (Hin.out _ _ h21.pull2).mono ?_
                        rintro e w22 ⟨ad2, n2, cap2, rfl, h22⟩
                        have h23 : Bears w22 (bufA (.slice ad1 n1 cap1) xb * (bufA (.slice ad2 n2 cap2) xi * (Assn.obj bb (.cells (strsV bs).toArray 80 (0, 0)) * (Assn.obj ib (.cells (strsV is2).toArray 80 (0, 0)) * (stA s p d 1024 (outL 1024) ⟨0, true, F0, G2⟩ * (Assn.obj nb (.cells ((nsL 3).map (Value.int .i64)).toArray 79 (0, 0)) * R)))))) := h22.cast (by ac_rfl)
                        clear h21 h22 h20
                        go_wp2_with fail
                        refine wp_region_L (fun w' => ∃ Q, Bears w' (bufA (.slice ad1 n1 cap1) xb * (bufA (.slice ad2 n2 cap2) xi * (Assn.obj bb (.cells (strsV bs).toArray 80 (0, 0)) * (Assn.obj ib (.cells (strsV is2).toArray 80 (0, 0)) * Q))))) 22
                          [(true, 0), (true, 1), (true, 2), (true, 3), (true, 4), (true, 5), (true, 6), (true, 7), (true, 8), (true, 9), (true, 10), (true, 11), (true, 12), (true, 13), (true, 14), (true, 15), (true, 16), (true, 17), (true, 18), (true, 19), (true, 20), (true, 21)] [] (by kernel_rfl) (by kernel_rfl) ⟨_, h23.drew⟩ ?_
                        simp only [pick, List.getElem?_cons_zero, List.getElem?_cons_succ]
                        refine wpL_yield (v := ?_) rfl (fun w' hS => ?_) ?_
                        rotate_left
                        · (go_simp; try with_reducible rfl)
                        simp only [Act.put, List.setIfInBounds_toArray, List.set_cons_zero, List.set_cons_succ]
                        refine wpL_yield (v := ?_) rfl (fun w' hS => ?_) ?_
                        rotate_left
                        · (go_simp; try with_reducible rfl)
                        simp only [Act.put, List.setIfInBounds_toArray, List.set_cons_zero, List.set_cons_succ]
                        refine wpL_yield (v := ?_) rfl (fun w' hS => ?_) ?_
                        rotate_left
                        · (go_simp; try with_reducible rfl)
                        simp only [Act.put, List.setIfInBounds_toArray, List.set_cons_zero, List.set_cons_succ]
                        refine wpL_guarded (v := ?_) rfl (fun w' hS => ?_) ?_
                        rotate_left
                        · (go_simp; try with_reducible rfl)
                        simp only [Act.put, List.setIfInBounds_toArray, List.set_cons_zero, List.set_cons_succ]
                        refine wpL_guarded (v := ?_) rfl (fun w' hS => ?_) ?_
                        rotate_left
                        · (go_simp; try with_reducible rfl)
                        simp only [Act.put, List.setIfInBounds_toArray, List.set_cons_zero, List.set_cons_succ]
                        refine wpL_yield (v := ?_) rfl (fun w' hS => ?_) ?_
                        rotate_left
                        · (go_simp; try with_reducible rfl)
                        simp only [Act.put, List.setIfInBounds_toArray, List.set_cons_zero, List.set_cons_succ]
                        refine wpL_yield (v := ?_) rfl (fun w' hS => ?_) ?_
                        rotate_left
                        · (go_simp; try with_reducible rfl)
                        simp only [Act.put, List.setIfInBounds_toArray, List.set_cons_zero, List.set_cons_succ]
                        refine wpL_guarded (v := ?_) rfl (fun w' hS => ?_) ?_
                        rotate_left
                        · (go_simp; try with_reducible rfl)
                        simp only [Act.put, List.setIfInBounds_toArray, List.set_cons_zero, List.set_cons_succ]
                        refine wpL_guarded rfl (fun w' hS => exec_convert rfl rfl (run_convert_in (by obtain ⟨_, hS⟩ := hS; exact buf_tells _ hS))) ?_
                        simp only [Act.put, List.setIfInBounds_toArray, List.set_cons_zero, List.set_cons_succ]
                        refine wpL_guarded (v := ?_) rfl (fun w' hS => ?_) ?_
                        rotate_left
                        · (obtain ⟨_, hS⟩ := hS; obtain ⟨cb, ci⟩ := Hsc.out _ _ hS.right.right; go_simp; try with_reducible rfl)
                        simp only [Act.put, List.setIfInBounds_toArray, List.set_cons_zero, List.set_cons_succ]
                        refine wpL_guarded (v := ?_) rfl (fun w' hS => ?_) ?_
                        rotate_left
                        · (obtain ⟨_, hS⟩ := hS; obtain ⟨cb, ci⟩ := Hsc.out _ _ hS.right.right; go_simp; try with_reducible rfl)
                        simp only [Act.put, List.setIfInBounds_toArray, List.set_cons_zero, List.set_cons_succ]
                        refine wpL_guarded (v := ?_) rfl (fun w' hS => ?_) ?_
                        rotate_left
                        · (obtain ⟨_, hS⟩ := hS; obtain ⟨cb, ci⟩ := Hsc.out _ _ hS.right.right; go_simp; try with_reducible rfl)
                        simp only [Act.put, List.setIfInBounds_toArray, List.set_cons_zero, List.set_cons_succ]
                        refine wpL_guarded (v := ?_) rfl (fun w' hS => ?_) ?_
                        rotate_left
                        · (obtain ⟨_, hS⟩ := hS; obtain ⟨cb, ci⟩ := Hsc.out _ _ hS.right.right; go_simp; try with_reducible rfl)
                        simp only [Act.put, List.setIfInBounds_toArray, List.set_cons_zero, List.set_cons_succ]
                        refine wpL_yield (v := ?_) rfl (fun w' hS => ?_) ?_
                        rotate_left
                        · (go_simp; try with_reducible rfl)
                        simp only [Act.put, List.setIfInBounds_toArray, List.set_cons_zero, List.set_cons_succ]
                        refine wpL_yield (v := ?_) rfl (fun w' hS => ?_) ?_
                        rotate_left
                        · (go_simp; try with_reducible rfl)
                        simp only [Act.put, List.setIfInBounds_toArray, List.set_cons_zero, List.set_cons_succ]
                        refine wpL_guarded (v := ?_) rfl (fun w' hS => ?_) ?_
                        rotate_left
                        · (go_simp; try with_reducible rfl)
                        simp only [Act.put, List.setIfInBounds_toArray, List.set_cons_zero, List.set_cons_succ]
                        refine wpL_guarded rfl (fun w' hS => exec_convert rfl rfl (run_convert_in (by obtain ⟨_, hS⟩ := hS; exact buf_tells _ hS.right))) ?_
                        simp only [Act.put, List.setIfInBounds_toArray, List.set_cons_zero, List.set_cons_succ]
                        refine wpL_guarded (v := ?_) rfl (fun w' hS => ?_) ?_
                        rotate_left
                        · (obtain ⟨_, hS⟩ := hS; obtain ⟨cb, ci⟩ := Hsc.out _ _ hS.right.right; go_simp; try with_reducible rfl)
                        simp only [Act.put, List.setIfInBounds_toArray, List.set_cons_zero, List.set_cons_succ]
                        refine wpL_guarded (v := ?_) rfl (fun w' hS => ?_) ?_
                        rotate_left
                        · (obtain ⟨_, hS⟩ := hS; obtain ⟨cb, ci⟩ := Hsc.out _ _ hS.right.right; go_simp; try with_reducible rfl)
                        simp only [Act.put, List.setIfInBounds_toArray, List.set_cons_zero, List.set_cons_succ]
                        refine wpL_guarded (v := ?_) rfl (fun w' hS => ?_) ?_
                        rotate_left
                        · (obtain ⟨_, hS⟩ := hS; obtain ⟨cb, ci⟩ := Hsc.out _ _ hS.right.right; go_simp; try with_reducible rfl)
                        simp only [Act.put, List.setIfInBounds_toArray, List.set_cons_zero, List.set_cons_succ]
                        refine wpL_guarded (v := ?_) rfl (fun w' hS => ?_) ?_
                        rotate_left
                        · (obtain ⟨_, hS⟩ := hS; obtain ⟨cb, ci⟩ := Hsc.out _ _ hS.right.right; go_simp; try with_reducible rfl)
                        simp only [Act.put, List.setIfInBounds_toArray, List.set_cons_zero, List.set_cons_succ]
                        refine wpL_yield (v := ?_) rfl (fun w' hS => ?_) ?_
                        rotate_left
                        · (go_simp; try with_reducible rfl)
                        simp only [Act.put, List.setIfInBounds_toArray, List.set_cons_zero, List.set_cons_succ]
                        refine wpL_nil ?_
                        refine wpL_nil ?_
                        go_wp2_with fail
                        go_roundw
                        case rel => exact ⟨j + 1, hj3, by go_num, h23.drew.right.right.cast (by ac_rfl)⟩
                        case measure => simp [intOf]; omega
                      · obtain rfl : j = 3 := by omega
                        go_wp2_with fail
                        go_roundw
                        case rel => exact ⟨k + 1, hlt, hlt2, by go_num, bs, is2, G2, HapL.out, h20⟩
                        case measure => simp [intOf]; omega
                  · have dB : ((ob.length : Int) == 32) = false := by rw [beq_eq_false_iff_ne]; omega
                    have q2a := Hq2.out _ h13.drew.left
                    have h16 := h12.drew
                    have hap2 := Hap.out
                    clear hB h13 q0 q1 q2 h12 Hap
                    go_wp2_with fail
                    have HapL := Lib.hid hap2
                    clear hap2
                    go_loopw [15] (fun jv wr => ∃ j : Nat, j ≤ 3 ∧ jv = .int .i64 j ∧ Bears wr (stA s p d 1024 (outL 1024) ⟨0, true, F0, G⟩ * (Assn.obj nb (.cells ((nsL 3).map (Value.int .i64)).toArray 79 (0, 0)) * (Assn.obj bb (.cells (strsV bs).toArray 80 (0, 0)) * (Assn.obj ib (.cells (strsV is).toArray 80 (0, 0)) * R))))) (fun jv _ => 3 - (intOf jv).toNat)
                    case atStart => exact ⟨0, by omega, rfl, h16⟩
                    case round =>
                      clear h16
                      obtain ⟨j, hj, rfl, h20⟩ := hrel
                      by_cases hj3 : j < 3
                      · have hnc := h20.pull2.intCell (j := j) (by rw [nsL_length]; exact hj3)
                        rw [nsL_at hj3] at hnc
                        have hrd := read_st h20 ((751 + j : Nat) : Int) (HapL.out.reads hj3)
                        have hin := fun w' Q (h : Bears w' (stA s p d 1024 (outL 1024) ⟨0, true, F0, G⟩ * Q)) => inode_st h ((10 + j : Nat) : Int) (HapL.out.inodes hj3)
                        have hji : (j : Int) < 3 := by omega
                        rw [show ((751 + j : Nat) : Int) = 751 + (j : Int) by omega] at hnc hrd
                        rw [show ((10 + j : Nat) : Int) = 10 + (j : Int) by omega] at hin
                        have hsc : ∀ w' Q, Bears w' (Assn.obj bb (.cells (strsV bs).toArray 80 (0, 0)) * (Assn.obj ib (.cells (strsV is).toArray 80 (0, 0)) * Q)) →
                            w'.cell? ⟨bb, j, none⟩ = some (strV (bs.getD j [])) ∧ w'.cell? ⟨ib, j, none⟩ = some (strV (is.getD j [])) := fun w' Q h =>
                          ⟨h.strCell (by rw [HapL.out.lb]; exact hj3), h.right.strCell (by rw [HapL.out.li]; exact hj3)⟩
                        generalize bs.getD j [] = xb at hrd hsc
                        generalize is.getD j [] = xi at hin hsc
                        have Hrd := Lib.hid hrd
                        have Hin := Lib.hid hin
                        have Hsc := Lib.hid hsc
                        clear hrd hin hsc
                        go_wp2_with fail
                        refine Hrd.out.mono ?_
                        rintro e w21 ⟨ad1, n1, cap1, rfl, h21⟩
                        go_wp2_with fail
                        refine (Hin.out _ _ h21.pull2).mono ?_
                        rintro e w22 ⟨ad2, n2, cap2, rfl, h22⟩
                        have h23 : Bears w22 (bufA (.slice ad1 n1 cap1) xb * (bufA (.slice ad2 n2 cap2) xi * (Assn.obj bb (.cells (strsV bs).toArray 80 (0, 0)) * (Assn.obj ib (.cells (strsV is).toArray 80 (0, 0)) * (stA s p d 1024 (outL 1024) ⟨0, true, F0, G⟩ * (Assn.obj nb (.cells ((nsL 3).map (Value.int .i64)).toArray 79 (0, 0)) * R)))))) := h22.cast (by ac_rfl)
                        clear h21 h22 h20
                        go_wp2_with fail
                        refine wp_region_L (fun w' => ∃ Q, Bears w' (bufA (.slice ad1 n1 cap1) xb * (bufA (.slice ad2 n2 cap2) xi * (Assn.obj bb (.cells (strsV bs).toArray 80 (0, 0)) * (Assn.obj ib (.cells (strsV is).toArray 80 (0, 0)) * Q))))) 22
                          [(true, 0), (true, 1), (true, 2), (true, 3), (true, 4), (true, 5), (true, 6), (true, 7), (true, 8), (true, 9), (true, 10), (true, 11), (true, 12), (true, 13), (true, 14), (true, 15), (true, 16), (true, 17), (true, 18), (true, 19), (true, 20), (true, 21)] [] (by kernel_rfl) (by kernel_rfl) ⟨_, h23.drew⟩ ?_
                        simp only [pick, List.getElem?_cons_zero, List.getElem?_cons_succ]
                        refine wpL_yield (v := ?_) rfl (fun w' hS => ?_) ?_
                        rotate_left
                        · (go_simp; try with_reducible rfl)
                        simp only [Act.put, List.setIfInBounds_toArray, List.set_cons_zero, List.set_cons_succ]
                        refine wpL_yield (v := ?_) rfl (fun w' hS => ?_) ?_
                        rotate_left
                        · (go_simp; try with_reducible rfl)
                        simp only [Act.put, List.setIfInBounds_toArray, List.set_cons_zero, List.set_cons_succ]
                        refine wpL_yield (v := ?_) rfl (fun w' hS => ?_) ?_
                        rotate_left
                        · (go_simp; try with_reducible rfl)
                        simp only [Act.put, List.setIfInBounds_toArray, List.set_cons_zero, List.set_cons_succ]
                        refine wpL_guarded (v := ?_) rfl (fun w' hS => ?_) ?_
                        rotate_left
                        · (go_simp; try with_reducible rfl)
                        simp only [Act.put, List.setIfInBounds_toArray, List.set_cons_zero, List.set_cons_succ]
                        refine wpL_guarded (v := ?_) rfl (fun w' hS => ?_) ?_
                        rotate_left
                        · (go_simp; try with_reducible rfl)
                        simp only [Act.put, List.setIfInBounds_toArray, List.set_cons_zero, List.set_cons_succ]
                        refine wpL_yield (v := ?_) rfl (fun w' hS => ?_) ?_
                        rotate_left
                        · (go_simp; try with_reducible rfl)
                        simp only [Act.put, List.setIfInBounds_toArray, List.set_cons_zero, List.set_cons_succ]
                        refine wpL_yield (v := ?_) rfl (fun w' hS => ?_) ?_
                        rotate_left
                        · (go_simp; try with_reducible rfl)
                        simp only [Act.put, List.setIfInBounds_toArray, List.set_cons_zero, List.set_cons_succ]
                        refine wpL_guarded (v := ?_) rfl (fun w' hS => ?_) ?_
                        rotate_left
                        · (go_simp; try with_reducible rfl)
                        simp only [Act.put, List.setIfInBounds_toArray, List.set_cons_zero, List.set_cons_succ]
                        refine wpL_guarded rfl (fun w' hS => exec_convert rfl rfl (run_convert_in (by obtain ⟨_, hS⟩ := hS; exact buf_tells _ hS))) ?_
                        simp only [Act.put, List.setIfInBounds_toArray, List.set_cons_zero, List.set_cons_succ]
                        refine wpL_guarded (v := ?_) rfl (fun w' hS => ?_) ?_
                        rotate_left
                        · (obtain ⟨_, hS⟩ := hS; obtain ⟨cb, ci⟩ := Hsc.out _ _ hS.right.right; go_simp; try with_reducible rfl)
                        simp only [Act.put, List.setIfInBounds_toArray, List.set_cons_zero, List.set_cons_succ]
                        refine wpL_guarded (v := ?_) rfl (fun w' hS => ?_) ?_
                        rotate_left
                        · (obtain ⟨_, hS⟩ := hS; obtain ⟨cb, ci⟩ := Hsc.out _ _ hS.right.right; go_simp; try with_reducible rfl)
                        simp only [Act.put, List.setIfInBounds_toArray, List.set_cons_zero, List.set_cons_succ]
                        refine wpL_guarded (v := ?_) rfl (fun w' hS => ?_) ?_
                        rotate_left
                        · (obtain ⟨_, hS⟩ := hS; obtain ⟨cb, ci⟩ := Hsc.out _ _ hS.right.right; go_simp; try with_reducible rfl)
                        simp only [Act.put, List.setIfInBounds_toArray, List.set_cons_zero, List.set_cons_succ]
                        refine wpL_guarded (v := ?_) rfl (fun w' hS => ?_) ?_
                        rotate_left
                        · (obtain ⟨_, hS⟩ := hS; obtain ⟨cb, ci⟩ := Hsc.out _ _ hS.right.right; go_simp; try with_reducible rfl)
                        simp only [Act.put, List.setIfInBounds_toArray, List.set_cons_zero, List.set_cons_succ]
                        refine wpL_yield (v := ?_) rfl (fun w' hS => ?_) ?_
                        rotate_left
                        · (go_simp; try with_reducible rfl)
                        simp only [Act.put, List.setIfInBounds_toArray, List.set_cons_zero, List.set_cons_succ]
                        refine wpL_yield (v := ?_) rfl (fun w' hS => ?_) ?_
                        rotate_left
                        · (go_simp; try with_reducible rfl)
                        simp only [Act.put, List.setIfInBounds_toArray, List.set_cons_zero, List.set_cons_succ]
                        refine wpL_guarded (v := ?_) rfl (fun w' hS => ?_) ?_
                        rotate_left
                        · (go_simp; try with_reducible rfl)
                        simp only [Act.put, List.setIfInBounds_toArray, List.set_cons_zero, List.set_cons_succ]
                        refine wpL_guarded rfl (fun w' hS => exec_convert rfl rfl (run_convert_in (by obtain ⟨_, hS⟩ := hS; exact buf_tells _ hS.right))) ?_
                        simp only [Act.put, List.setIfInBounds_toArray, List.set_cons_zero, List.set_cons_succ]
                        refine wpL_guarded (v := ?_) rfl (fun w' hS => ?_) ?_
                        rotate_left
                        · (obtain ⟨_, hS⟩ := hS; obtain ⟨cb, ci⟩ := Hsc.out _ _ hS.right.right; go_simp; try with_reducible rfl)
                        simp only [Act.put, List.setIfInBounds_toArray, List.set_cons_zero, List.set_cons_succ]
                        refine wpL_guarded (v := ?_) rfl (fun w' hS => ?_) ?_
                        rotate_left
                        · (obtain ⟨_, hS⟩ := hS; obtain ⟨cb, ci⟩ := Hsc.out _ _ hS.right.right; go_simp; try with_reducible rfl)
                        simp only [Act.put, List.setIfInBounds_toArray, List.set_cons_zero, List.set_cons_succ]
                        refine wpL_guarded (v := ?_) rfl (fun w' hS => ?_) ?_
                        rotate_left
                        · (obtain ⟨_, hS⟩ := hS; obtain ⟨cb, ci⟩ := Hsc.out _ _ hS.right.right; go_simp; try with_reducible rfl)
                        simp only [Act.put, List.setIfInBounds_toArray, List.set_cons_zero, List.set_cons_succ]
                        refine wpL_guarded (v := ?_) rfl (fun w' hS => ?_) ?_
                        rotate_left
                        · (obtain ⟨_, hS⟩ := hS; obtain ⟨cb, ci⟩ := Hsc.out _ _ hS.right.right; go_simp; try with_reducible rfl)
                        simp only [Act.put, List.setIfInBounds_toArray, List.set_cons_zero, List.set_cons_succ]
                        refine wpL_yield (v := ?_) rfl (fun w' hS => ?_) ?_
                        rotate_left
                        · (go_simp; try with_reducible rfl)
                        simp only [Act.put, List.setIfInBounds_toArray, List.set_cons_zero, List.set_cons_succ]
                        refine wpL_nil ?_
                        refine wpL_nil ?_
                        go_wp2_with fail
                        go_roundw
                        case rel => exact ⟨j + 1, hj3, by go_num, h23.drew.right.right.cast (by ac_rfl)⟩
                        case measure => simp [intOf]; omega
                      · obtain rfl : j = 3 := by omega
                        go_wp2_with fail
                        go_roundw
                        case rel => exact ⟨k + 1, hlt, hlt2, by go_num, bs, is, G, HapL.out, h20⟩
                        case measure => simp [intOf]; omega
              · go_wp2_with fail
                all_goals
                  go_meet
                  case rel => exact ⟨bs, is, G, Hap.out, h12⟩
          case rest =>
            obtain ⟨bs, is, G, hap, h12⟩ := hcut
            clear hap H11
            go_wp2_with fail
            refine (commit_st h12 (by decide) hfu (show (0 : Nat) < 4611686018427387904 by decide) (t := ⟨0, [], 0⟩) (S' := ⟨1, false, G, G⟩) rfl).mono ?_
            rintro e w13 ⟨d13, rfl, _, h13⟩
            go_wp2_with fail
            go_ret
            exact ⟨rfl, h13.right.right.right.right⟩

end Go.Proofs.Ytaiobekochhemaa
