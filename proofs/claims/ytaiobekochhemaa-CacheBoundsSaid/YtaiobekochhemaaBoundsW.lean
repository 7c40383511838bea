/- The law CacheBounds, walked; no condition. -/
import Derived.Test.YtaiobekochhemaaCLawD
import Derived.Test.YtaiobekochhemaaCOps
import Derived.Test.YtaiobekochhemaaBools
namespace Go.Proofs.Ytaiobekochhemaa
open Go.RowKit Go.MapKept

theorem kind_lt (c : Int) (m : Nat) (hm : 0 < m) : ∃ s : Nat, s < m ∧ (if c < 0 then (-(c + 1)) % (m : Int) else c % (m : Int)) = (s : Int) := by
  by_cases h : c < 0
  · rw [if_pos h]
    have h1 := Int.emod_nonneg (-(c + 1)) (show (m : Int) ≠ 0 by omega)
    have h2 := Int.emod_lt_of_pos (-(c + 1)) (show (0 : Int) < m by omega)
    exact ⟨((-(c + 1)) % (m : Int)).toNat, by omega, by omega⟩
  · rw [if_neg h]
    have h1 := Int.emod_nonneg c (show (m : Int) ≠ 0 by omega)
    have h2 := Int.emod_lt_of_pos c (show (0 : Int) < m by omega)
    exact ⟨(c % (m : Int)).toNat, by omega, by omega⟩

theorem pins_free (ls : List LineM) : (ls.filter (·.pin)).length + freeN ls = ls.length := by
  unfold freeN
  induction ls with
  | nil => rfl
  | cons y r ih => cases h : y.pin <;> simp [h] <;> omega

theorem u_op : Try.prog.underlying 42 = Try.prog.underlying 42 := rfl

theorem full_num {R : Assn} {w : World} (h : Bears w R) (c : UInt8) {x : Int} (hx : (c.toNat : Int) = x) :
    Calls Try.prog 26 #[.int .u8 x] w fun e w' => ∃ g, e = .returned (.slice (some ⟨g, 0, none⟩) 64 64) ∧ Bears w' (Assn.obj g (.cells (cellsV (fullB c)).toArray 5 (0, 0)) * R) := by
  subst hx
  exact full_any h c
theorem cop_cells {w : World} {b : Nat} {v0 v1 v2 v3 : Value} {t : TypeId} {R : Assn} (h : Bears w (Assn.obj b (.cells #[v0, v1, v2, v3] t (0, 0)) * R)) :
    w.cell? ⟨b, 0, none⟩ = some v0 ∧ w.cell? ⟨b, 1, none⟩ = some v1 ∧ w.cell? ⟨b, 2, none⟩ = some v2 ∧ w.cell? ⟨b, 3, none⟩ = some v3 :=
  ⟨cell_of_obj h.obj 0, cell_of_obj h.obj 1, cell_of_obj h.obj 2, cell_of_obj h.obj 3⟩

set_option maxRecDepth 100000 in
set_option maxHeartbeats 4000000 in
theorem bounds_any {R : Assn} {w : World} (h : Bears w R) (most : Int) (hm : -9223372036854775808 ≤ most ∧ most ≤ 9223372036854775807) {l : List COpM} {a0 : Option Addr} {c0 : Nat}
    (t0 : R.Tells (fun w => COpsIn w (.slice a0 l.length c0) l)) (b0 : l.length ≤ 9223372036854775807) (hl : ∀ k, k < l.length → (l.getD k default).Fine) :
    Calls Try.prog 5 #[.int .i64 most, .slice a0 l.length c0] w fun e w' => e = .returned (.bool true) ∧ Bears w' R := by
  obtain ⟨s, hs, hks⟩ := kind_lt most 60 (by omega)
  rw [show ((60 : Nat) : Int) = 60 from rfl] at hks
  have Hks := Lib.hid hks
  clear hks
  go_enter Try.func5, Try.ntmps5
  go_wp2_with fail
  refine (shown3_any h).mono ?_
  rintro e w1 ⟨rfl, h1⟩
  go_wp2_with fail
  refine (kind_any most 60 w1 hm (by omega)).mono ?_
  rintro e w1' ⟨rfl, rfl⟩
  rw [Hks.out]
  go_wp2_with fail
  refine (ground3_any h1 _ (by omega)).mono ?_
  rintro e w2 ⟨p, c, x, d, rfl, L, hdl, hfu, _, _, h2⟩
  obtain ⟨n, hn⟩ : ∃ n, s + 1 = n := ⟨_, rfl⟩
  have hn1 : 1 ≤ n := by omega
  have hn2 : n ≤ 60 := by omega
  have h3 : Bears w2 (boundA c p x n 0 * R) := Bears.bound.2 ⟨_, d, 0, _, Bounds.new (by omega) L hfu hdl, h2.c23⟩
  clear h h1 h2 L hdl hfu
  go_wp2_with fail
  go_loopw [9] (fun i wr => ∃ k : Nat, k ≤ l.length ∧ k ≤ 250 ∧ i = .int .i64 k ∧ Bears wr (boundA c p x n k * R)) (fun i _ => 250 - (intOf i).toNat)
  case atStart => exact ⟨0, by omega, by omega, rfl, h3⟩
  case round =>
    clear h3
    obtain ⟨k, hk, hkN, rfl, h5⟩ := hrel
    by_cases hlt : k < l.length ∧ k < 250
    · obtain ⟨hlt, hltN⟩ := hlt
      obtain ⟨b, o, rfl, cl0, cl1, cl2, cl3⟩ := (t0 _ h5.right).cells hlt
      have hop := hl k hlt
      generalize hc : l.getD k default = op at cl0 cl1 cl2 cl3 hop
      obtain ⟨kd, at', on, ob⟩ := op
      have Hop := Lib.hid hop
      clear hop hc
      unfold byteV at cl3
      simp only at cl0 cl1 cl2 cl3
      generalize hobn : (ob.toNat : Int) = obn at cl3
      have Hobn := Lib.hid hobn
      clear hobn
      have h6 := h5.alloc (.cells #[.int .i64 kd, .int .i64 at', .int .i64 on, .int .u8 obn] 42)
      obtain ⟨kk, hkk, hkks⟩ := kind_lt kd 9 (by omega)
      rw [show ((9 : Nat) : Int) = 9 from rfl] at hkks
      have Hkk := Lib.hid hkks
      clear hkks
      go_upto_block 2 with (fail)
      refine (kind_any kd 9 _ Hop.out.kind (by omega)).mono ?_
      rintro e w' ⟨rfl, rfl⟩
      rw [Hkk.out]
      go_upto_block 2 with (fail)
      generalize wr.alloc (.cells #[.int .i64 kd, .int .i64 at', .int .i64 on, .int .u8 obn] 42) = w6 at h6
      generalize wr.heap.size = lb at h6
      have o1 := cell_of_obj h6.obj 1
      have o3 := cell_of_obj h6.obj 3
      simp only [List.getElem?_toArray, List.getElem?_cons_zero, List.getElem?_cons_succ] at o1 o3
      have h7 := h6.pull2
      clear h5 cl0 cl1 cl2 cl3
      go_cut [] (fun wr' => Bears wr' (boundA c p x n (k + 1) * R))
      case first =>
        match kk, hkk with
        | 0, _ | 1, _ | 2, _ =>
          go_wp2_with fail
          refine (bread_any h7 at').mono ?_
          rintro e w8 ⟨⟨v, e8, rfl⟩, h8⟩
          go_wp2_with fail
          go_meet
          case rel => exact h8.pull2.right.more
        | 3, _ | 4, _ =>
          go_wp2_with fail
          refine wp_region_L (fun w' => ∃ Q, Bears w' (Assn.obj lb (.cells #[.int .i64 kd, .int .i64 at', .int .i64 on, .int .u8 obn] 42 (0, 0)) * Q)) 7
            [(true, 0), (true, 1), (true, 2), (true, 3), (true, 4), (false, 5), (false, 6)] [] (by kernel_rfl) (by kernel_rfl) ⟨_, h6.drew⟩ ?_
          simp only [pick, List.getElem?_cons_zero, List.getElem?_cons_succ]
          refine wpL_yield (v := ?_) rfl (fun w' hS => ?_) ?_
          rotate_left
          · (obtain ⟨_, hS⟩ := hS; obtain ⟨o0, o1, o2, o3⟩ := cop_cells hS; go_simp; try with_reducible rfl)
          simp only [Act.put, List.setIfInBounds_toArray, List.set_cons_zero, List.set_cons_succ]
          refine wpL_yield (v := ?_) rfl (fun w' hS => ?_) ?_
          rotate_left
          · (obtain ⟨_, hS⟩ := hS; obtain ⟨o0, o1, o2, o3⟩ := cop_cells hS; go_simp; try with_reducible rfl)
          simp only [Act.put, List.setIfInBounds_toArray, List.set_cons_zero, List.set_cons_succ]
          refine wpL_yield (v := ?_) rfl (fun w' hS => ?_) ?_
          rotate_left
          · (obtain ⟨_, hS⟩ := hS; obtain ⟨o0, o1, o2, o3⟩ := cop_cells hS; go_simp; try with_reducible rfl)
          simp only [Act.put, List.setIfInBounds_toArray, List.set_cons_zero, List.set_cons_succ]
          refine wpL_yield (v := ?_) rfl (fun w' hS => ?_) ?_
          rotate_left
          · (obtain ⟨_, hS⟩ := hS; obtain ⟨o0, o1, o2, o3⟩ := cop_cells hS; go_simp; try with_reducible rfl)
          simp only [Act.put, List.setIfInBounds_toArray, List.set_cons_zero, List.set_cons_succ]
          refine wpL_yield (v := ?_) rfl (fun w' hS => ?_) ?_
          rotate_left
          · (obtain ⟨_, hS⟩ := hS; obtain ⟨o0, o1, o2, o3⟩ := cop_cells hS; go_simp; try with_reducible rfl)
          simp only [Act.put, List.setIfInBounds_toArray, List.set_cons_zero, List.set_cons_succ]
          refine wpL_eff rfl ?_
          go_simp
          refine (full_num h6.drew ob Hobn.out).mono ?_
          rintro e w8 ⟨g, rfl, h8⟩
          refine ⟨⟨_, h8.pull2⟩, ?_⟩
          refine wpL_eff rfl ?_
          go_simp
          refine (bwrite_any (i := at') h8.pull3 (BytesIn.tells (l := fullB ob) _ _ (fullB_length ob).symm)).mono ?_
          rintro e w9 ⟨⟨v, rfl⟩, h9⟩
          refine ⟨⟨_, h9.pull3⟩, ?_⟩
          refine wpL_nil ?_
          refine wpL_nil ?_
          go_wp2_with fail
          go_meet
          case rel => exact (h9.pull3.right.pull2.right).more
        | 5, _ =>
          go_wp2_with fail
          refine (bbegin_any h7).mono ?_
          rintro e w8 ⟨⟨v, rfl⟩, h8⟩
          go_wp2_with fail
          go_meet
          case rel => exact h8.pull2.right.more
        | 6, _ =>
          go_wp2_with fail
          refine (bcommit_any h7 (by omega)).mono ?_
          rintro e w8 ⟨⟨v, rfl⟩, h8⟩
          go_wp2_with fail
          go_meet
          case rel => exact h8.pull2.right
        | 7, _ =>
          go_wp2_with fail
          refine (babort_any h7).mono ?_
          rintro e w8 ⟨⟨v, rfl⟩, h8⟩
          go_wp2_with fail
          go_meet
          case rel => exact h8.pull2.right.more
        | 8, _ =>
          go_wp2_with fail
          go_meet
          case rel => exact h7.pull2.right.more
        | n + 9, h => exact absurd h (by omega)
      case rest =>
        obtain ⟨cm, d, g, F, hB, h9⟩ := Bears.bound.1 hcut
        have hll := hB.length
        have hnl := pins_free cm.lines
        have hfr := hB.free
        obtain ⟨L, hL⟩ : ∃ L, cm.lines.length = L := ⟨_, rfl⟩
        obtain ⟨P, hP⟩ : ∃ P, (cm.lines.filter (·.pin)).length = P := ⟨_, rfl⟩
        rw [hL] at hll hnl
        rw [hP] at hnl
        have HB := Lib.hid hB
        have HL := Lib.hid hL
        have HP := Lib.hid hP
        clear hB hL hP h6 h7 hcut o1 o3
        have hy0 : ∀ w, (Instr.build 59 #[]).run Try.prog w = .ok (.agg (boolsV (List.replicate 100 false)).toArray) w := fun _ => by kernel_rfl
        have hy1 : ∀ w, (zeroValue 59).run Try.prog w = .ok (.agg (boolsV (List.replicate 100 false)).toArray) w := fun _ => by kernel_rfl
        have hi2 : (Try.prog.info? 59).map (·.size) = some (Value.agg (boolsV (List.replicate 100 false)).toArray).cells.size := by kernel_rfl
        have hone : ∀ v ∈ (boolsV (List.replicate 100 false)).toArray.toList, v.oneCell' = true := fun v hv => oneCell_bools _ v (by simpa using hv)
        have hys : (List.replicate 100 false).length = 100 := by simp
        have hyf : ∀ j, (List.replicate 100 false).getD j false = false := by intro j; rw [List.getD_eq_getElem?_getD, List.getElem?_replicate]; split <;> rfl
        generalize List.replicate 100 false = ys at hy0 hy1 hi2 hone hys hyf
        go_wp2_with fail
        refine (cheld_to (l := cm.lines.map (·.at')) h9 HL.out rfl (by omega)).mono ?_
        rintro e w10 ⟨ha, hc, rfl, h10⟩
        go_wp2_with (first
          | (refine wpList_op rfl (exec_build0 rfl (hy0 _)) ?_)
          | (refine wpList_alloc_z rfl rfl (hy1 _) ?_)
          | (refine wpList_store_obj (h10.alloc _) rfl rfl rfl rfl rfl hi2 hone ?_; intro w11 h11))
        generalize w10.heap.size = sb at h11
        obtain ⟨zs, hzs⟩ : ∃ zs, cm.lines.map (·.at') = zs := ⟨_, rfl⟩
        have hzn : zs.Nodup := by rw [← hzs]; exact HB.out.nodup
        have hzr : ∀ z ∈ zs, 0 ≤ z ∧ z < 100 := by
          intro z hz
          rw [← hzs] at hz
          obtain ⟨y, hy, rfl⟩ := List.mem_map.1 hz
          exact HB.out.range y hy
        have hzl : zs.length = L := by rw [← hzs, List.length_map, HL.out]
        rw [hzs] at h11
        have Hzn := Lib.hid hzn
        have Hzr := Lib.hid hzr
        have Hzl := Lib.hid hzl
        clear hzs hzn hzr hzl h9 h10 hy0 hy1 hi2 hone
        go_loopw [13] (fun i wr' => ∃ j : Nat, j ≤ L ∧ i = .int .i64 j ∧ ∃ seen : List Bool, seen.length = 100 ∧ (∀ m : Nat, seen.getD m false = true → (m : Int) ∈ zs.take j) ∧
          Bears wr' (Assn.obj sb (.cells (boolsV seen).toArray 59 (0, 0)) * (rowA 3 1 (.slice ha L hc) L (intsV zs) * (cacheA c p x cm * (diskA p d * (walObj x p 0 40 (g : Int) * R)))))) (fun i _ => L - (intOf i).toNat)
        case atStart => exact ⟨0, by omega, rfl, ys, hys, fun m hm => (by rw [hyf] at hm; cases hm), h11⟩
        case round =>
          obtain ⟨j, hj, rfl, seen, hsl, hsn, h12⟩ := hrel
          have Hsn := Lib.hid hsn
          have Hsl := Lib.hid hsl
          clear hsn hsl h11
          by_cases hlj : j < L
          · obtain ⟨rg, rfl, q0⟩ := h12.pull2.rowObjN Hzl.out.symm hlj
            have hmem : zs.getD j 0 ∈ zs := by rw [List.getD_eq_getElem?_getD, List.getElem?_eq_getElem (by rw [Hzl.out]; exact hlj)]; simp
            obtain ⟨z0, z1⟩ := Hzr.out _ hmem
            obtain ⟨zn, hzn⟩ : ∃ zn : Nat, zs.getD j 0 = (zn : Int) := ⟨(zs.getD j 0).toNat, by omega⟩
            have hz100 : zn < 100 := by omega
            have hsucc : zs.take (j + 1) = zs.take j ++ [(zn : Int)] := by
              rw [← hzn, List.take_succ_eq_append_getElem (by rw [Hzl.out]; exact hlj)]
              simp [Hzl.out, hlj]
            have hfresh : (zn : Int) ∉ zs.take j := by
              have h1 : (zs.take (j + 1)).Nodup := Hzn.out.sublist (List.take_sublist _ _)
              rw [hsucc, List.nodup_append] at h1
              intro hm
              exact h1.2.2 _ hm _ (by simp) rfl
            have hsz : seen.getD zn false = false := by
              cases hs : seen.getD zn false with
              | false => rfl
              | true => exact absurd (Hsn.out zn hs) hfresh
            have q1 := h12.boolCell (j := zn) (by rw [Hsl.out]; exact hz100)
            have f1 := frozen_of_obj h12.obj zn
            rw [hzn] at q0
            rw [hsz] at q1
            have h13 := h12.setBool zn true
            have Hsucc := Lib.hid hsucc
            clear hsz hfresh hsucc hmem z0 z1 hzn
            go_wp2_with fail
            go_roundw
            case rel =>
              refine ⟨j + 1, hlj, by go_num, seen.set zn true, by simp [Hsl.out], fun m hm => ?_, h13⟩
              rw [Hsucc.out]
              by_cases e : m = zn
              · subst e; simp
              · rw [List.getD_eq_getElem?_getD, List.getElem?_set_ne (Ne.symm e), ← List.getD_eq_getElem?_getD] at hm
                exact List.mem_append_left _ (Hsn.out m hm)
            case measure => simp [intOf]; omega
          · obtain rfl : j = L := by omega
            have h14 := h12.right.right
            clear h12 Hsn Hsl
            go_wp2_with fail
            refine (cpinned_to h14 HP.out).mono ?_
            rintro e w15 ⟨rfl, h15⟩
            have p1 : decide ((j : Int) < (P : Int)) = false := decide_eq_false (by omega)
            go_wp2_with fail
            all_goals
              go_roundw
              case rel => exact ⟨k + 1, hlt, hltN, by go_num, Bears.bound.2 ⟨cm, d, g, F, HB.out, h15⟩⟩
              case measure => simp [intOf]; omega
    · go_wp2_with fail
      all_goals
        go_ret
        exact ⟨rfl, h5.right⟩

end Go.Proofs.Ytaiobekochhemaa
