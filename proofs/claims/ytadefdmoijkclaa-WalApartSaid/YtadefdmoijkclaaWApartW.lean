/- The walk of WalApart; no condition. -/
import Derived.Test.YtadefdmoijkclaaWTwo
import Derived.Test.YtadefdmoijkclaaWOps
namespace Go.Proofs.Ytadefdmoijkclaa
open Go.RowKit Go.MapKept

/-- Two logs in memory, this one first. -/
def pairA (p k k' : Nat) (xs g : Nat → Nat) : Assn := walObj (xs k) p (40 * k) 40 (g k) * walObj (xs k') p (40 * k') 40 (g k')
theorem pairA_comm (p k k' : Nat) (xs g : Nat → Nat) : pairA p k k' xs g = pairA p k' k xs g := Assn.mul_comm' _ _

abbrev ptrV (x : Nat) : Value := .pointer (some ⟨x, 0, none⟩)
theorem two_cells {w : World} {b : Nat} {f : Nat → Value} {t : TypeId} {R : Assn} (h : Bears w (Assn.obj b (.cells #[f 0, f 1] t (0, 0)) * R)) {k : Nat} (hk : k < 2) : w.cell? ⟨b, k, none⟩ = some (f k) := by
  rw [cell_of_obj h.obj]
  match k, hk with
  | 0, _ => rfl
  | 1, _ => rfl
theorem two_set {w : World} {b : Nat} {f : Nat → Value} {t : TypeId} {R : Assn} (h : Bears w (Assn.obj b (.cells #[f 0, f 1] t (0, 0)) * R)) {k : Nat} (hk : k < 2) (v : Value) :
    Bears (w.setCell ⟨b, k, none⟩ v) (Assn.obj b (.cells #[updN f k v 0, updN f k v 1] t (0, 0)) * R) := by
  refine (h.setCell (i := k) v).cast ?_
  match k, hk with
  | 0, _ => rfl
  | 1, _ => rfl

set_option maxRecDepth 100000 in
set_option maxHeartbeats 3200000 in
theorem wapart_any {R : Assn} {w : World} (h : Bears w R) (ls : List RowM) (a0 : Option Addr) (c0 : Nat)
    (t0 : R.Tells (fun w => RowsIn w (.slice a0 ls.length c0) ls)) (b0 : ls.length ≤ 9223372036854775807) (b1 : ∀ k, k < ls.length → (ls.getD k default).bytes.length ≤ 9223372036854775807) :
    Calls Try.prog 5 #[.slice a0 ls.length c0] w fun e w' => e = .returned (.bool true) ∧ Bears w' R := by
  go_enter Try.func5, Try.ntmps5
  go_wp2_with fail
  refine (wshown_any h).mono ?_
  rintro e w1 ⟨rfl, h1⟩
  go_wp2_with fail
  refine (new_ok h1 120 (by omega) (by omega)).mono ?_
  rintro e w2 ⟨p, rfl, h2⟩
  clear h h1
  have hd := Logs.new
  generalize DiskM.new 120 = d at h2 hd
  have h3 := (h2.alloc (.cells #[.int .i64 0, .int .i64 40] 50)).alloc (.cells #[.pointer none, .pointer none] 51)
  go_upto_block 0 with (fail)
  have e1 : (w2.alloc (.cells #[.int .i64 0, .int .i64 40] 50)).heap.size = w2.heap.size + 1 := Array.size_push _
  rw [e1] at h3
  have hne : w2.heap.size + 1 ≠ w2.heap.size := by omega
  generalize w2.heap.size + 1 = wsb at h3 hne
  generalize w2.heap.size = plc at h3 hne
  clear e1
  go_cut [8] (fun _ wr => ∃ (d : DiskM) (xs : Nat → Nat), Logs 2 d (fun _ => 0) (fun _ => zeroSec) ∧
    Bears wr (Assn.obj wsb (.cells #[ptrV (xs 0), ptrV (xs 1)] 51 (0, 0)) * (pairA p 0 1 xs (fun _ => 0) * (diskA p d * (Assn.obj plc (.cells #[.int .i64 0, .int .i64 40] 50 (0, 0)) * R)))))
  case first =>
    go_wp2_with fail
    go_loopw [8] (fun i wr => ∃ k : Nat, k ≤ 2 ∧ i = .int .i64 k ∧ ∃ d : DiskM, Logs k d (fun _ => 0) (fun _ => zeroSec) ∧
      ((k = 0 ∧ Bears wr (Assn.obj wsb (.cells #[.pointer none, .pointer none] 51 (0, 0)) * (Assn.obj plc (.cells #[.int .i64 0, .int .i64 40] 50 (0, 0)) * (diskA p d * R)))) ∨
       (k = 1 ∧ ∃ x0, Bears wr (Assn.obj wsb (.cells #[ptrV x0, .pointer none] 51 (0, 0)) * (Assn.obj plc (.cells #[.int .i64 0, .int .i64 40] 50 (0, 0)) * (diskA p d * (walObj x0 p 0 40 0 * R))))) ∨
       (k = 2 ∧ ∃ x0 x1, Bears wr (Assn.obj wsb (.cells #[ptrV x0, ptrV x1] 51 (0, 0)) * (Assn.obj plc (.cells #[.int .i64 0, .int .i64 40] 50 (0, 0)) * (diskA p d * (walObj x1 p 40 40 0 * (walObj x0 p 0 40 0 * R))))))))
      (fun i _ => 2 - (intOf i).toNat)
    case atStart => exact ⟨0, by omega, rfl, d, hd, .inl ⟨rfl, h3⟩⟩
    case round =>
      obtain ⟨k, hk, rfl, d, hd, (⟨rfl, h4⟩ | ⟨rfl, x0, h4⟩ | ⟨rfl, x0, x1, h4⟩)⟩ := hrel
      · obtain ⟨d1, f1, L1⟩ := hd.format (by omega)
        obtain ⟨o1, g1⟩ := L1.opens (k := 0) (by omega) (by omega) (by decide)
        have F1 : Hid (wFormat d 0 40 = (0, d1)) := f1
        have O1 : Hid (wOpen d1 ((0 : Nat) : Int) 40 = (0, d1)) := o1
        have G1 : Hid (groupsIn (d1.now 0) = 0) := g1
        have cp := cell_of_obj h4.pull2.obj 0
        clear f1 o1 g1
        go_wp2_with fail
        refine (format_to h4.pull3 F1.out (by omega) (by omega) (by rw [hd.quiet]; decide)).mono ?_
        rintro e w5 ⟨rfl, h5⟩
        have cp := cell_of_obj h5.pull3.obj 0
        go_wp2_with fail
        refine (open_yes (a := 0) (s := 40) h5 O1.out G1.out (by omega) (by omega) (by rw [L1.quiet]; decide)).mono ?_
        rintro e w6 ⟨y, rfl, h6⟩
        have cw := cell_of_obj h6.pull3.obj 0
        have fw := frozen_of_obj h6.pull3.obj 0
        have h7 := h6.pull3.setCell (i := 0) (ptrV y)
        go_wp2_with fail
        go_roundw
        case rel => exact ⟨1, by omega, by go_num, d1, L1, .inr (.inl ⟨rfl, y, h7.cast (by simp; ac_rfl)⟩)⟩
        case measure => simp [intOf]
      · obtain ⟨d1, f1, L1⟩ := hd.format (by omega)
        obtain ⟨o1, g1⟩ := L1.opens (k := 1) (by omega) (by omega) (by decide)
        have F1 : Hid (wFormat d 40 40 = (0, d1)) := f1
        have O1 : Hid (wOpen d1 ((40 : Nat) : Int) 40 = (0, d1)) := o1
        have G1 : Hid (groupsIn (d1.now 40) = 0) := g1
        have cp := cell_of_obj h4.pull2.obj 1
        clear f1 o1 g1
        go_wp2_with fail
        refine (format_to h4.pull3 F1.out (by omega) (by omega) (by rw [hd.quiet]; decide)).mono ?_
        rintro e w5 ⟨rfl, h5⟩
        have cp := cell_of_obj h5.pull3.obj 1
        go_wp2_with fail
        refine (open_yes (a := 40) (s := 40) h5 O1.out G1.out (by omega) (by omega) (by rw [L1.quiet]; decide)).mono ?_
        rintro e w6 ⟨y, rfl, h6⟩
        have cw := cell_of_obj h6.pull3.obj 1
        have fw := frozen_of_obj h6.pull3.obj 1
        have h7 := h6.pull3.setCell (i := 1) (ptrV y)
        go_wp2_with fail
        go_roundw
        case rel => exact ⟨2, by omega, by go_num, d1, L1, .inr (.inr ⟨rfl, x0, y, h7.cast (by simp; ac_rfl)⟩)⟩
        case measure => simp [intOf]
      · go_wp2_with fail
        go_meet
        case rel =>
          refine ⟨d, fun j => if j = 0 then x0 else x1, hd, h4.cast ?_⟩
          simp [pairA]
          ac_rfl
  case rest =>
    clear h2 h3 hd
    obtain ⟨d, xs, hd, h4⟩ := hcut
    have hz0 : ∀ w, (Instr.build 52 #[]).run Try.prog w = .ok (.agg (cellsV (List.replicate 40 0)).toArray) w := fun _ => by kernel_rfl
    have hz1 : ∀ w, (zeroValue 52).run Try.prog w = .ok (.agg (cellsV (List.replicate 40 0)).toArray) w := fun _ => by kernel_rfl
    have hi1 : (Try.prog.info? 52).map (·.size) = some (Value.agg (cellsV (List.replicate 40 0)).toArray).cells.size := by kernel_rfl
    have hone : ∀ v ∈ (cellsV (List.replicate 40 0)).toArray.toList, v.oneCell' = true := by intro v hv; exact oneCell_cellsV _ _ (by simpa using hv)
    have ho := TOrd.zero
    generalize List.replicate 40 (0 : UInt8) = zs at hz0 hz1 hi1 hone ho
    have h5 := h4.alloc (.cells #[.int .i64 0, .int .i64 0] 50)
    have e1 : (wc.alloc (.cells #[.int .i64 0, .int .i64 0] 50)).heap.size = wc.heap.size + 1 := Array.size_push _
    go_upto_block 2 with (first
      | (refine wpList_op rfl (exec_build0 rfl (hz0 _)) ?_)
      | (refine wpList_alloc_z rfl rfl (hz1 _) ?_)
      | (refine wpList_store_obj (h5.alloc _) rfl rfl rfl rfl rfl hi1 hone ?_; intro w6 h6))
    rw [e1] at h6
    generalize wc.heap.size + 1 = hb at h6
    generalize wc.heap.size = nb at h6
    clear h4 h5 e1 hz0 hz1 hi1 hone
    have h7 : Bears w6 (Assn.obj wsb (.cells #[ptrV (xs 0), ptrV (xs 1)] 51 (0, 0)) * (Assn.obj nb (.cells #[.int .i64 ((0 : Nat) : Int), .int .i64 ((0 : Nat) : Int)] 50 (0, 0)) * (Assn.obj hb (.cells (cellsV zs).toArray 52 (0, 0)) *
      (Assn.obj plc (.cells #[.int .i64 0, .int .i64 40] 50 (0, 0)) * (pairA p 0 1 xs (fun _ => 0) * (diskA p d * R)))))) := h6.cast (by ac_rfl)
    clear h6
    go_cut [14] (fun _ wr => ∃ (d : DiskM) (g : Nat → Nat) (F : Nat → Sec) (has : List UInt8), Logs 2 d g F ∧ TOrd F has ∧ Bears wr (Assn.obj hb (.cells (cellsV has).toArray 52 (0, 0)) * (diskA p d * R)))
    case first =>
      go_wp2_with fail
      go_loopw [14] (fun i wr => ∃ k : Nat, k ≤ ls.length ∧ k ≤ 30 ∧ i = .int .i64 k ∧ ∃ (d : DiskM) (xs g : Nat → Nat) (F : Nat → Sec) (has : List UInt8), Logs 2 d g F ∧ TOrd F has ∧ (∀ j, g j ≤ k) ∧
        Bears wr (Assn.obj wsb (.cells #[ptrV (xs 0), ptrV (xs 1)] 51 (0, 0)) * (Assn.obj nb (.cells #[.int .i64 ((g 0 : Nat) : Int), .int .i64 ((g 1 : Nat) : Int)] 50 (0, 0)) * (Assn.obj hb (.cells (cellsV has).toArray 52 (0, 0)) *
          (Assn.obj plc (.cells #[.int .i64 0, .int .i64 40] 50 (0, 0)) * (pairA p 0 1 xs g * (diskA p d * R))))))) (fun i _ => 30 - (intOf i).toNat)
      case atStart => exact ⟨0, by omega, by omega, rfl, d, xs, fun _ => 0, _, zs, hd, ho, fun _ => Nat.le_refl _, h7⟩
      case round =>
        clear h7 hd ho
        obtain ⟨k, hk, hkN, rfl, d, xs, g, F, has, hd, ho, hgk, h5⟩ := hrel
        by_cases hlt : k < ls.length ∧ k < 30
        · obtain ⟨hlt, hltN⟩ := hlt
          obtain ⟨q, q', hq, hq', hqq, hkq, hpair⟩ : ∃ q q' : Nat, q < 2 ∧ q' < 2 ∧ (1 : Int) - (q : Int) = (q' : Int) ∧ (k : Int) % 2 = (q : Int) ∧ ∀ xs g, pairA p 0 1 xs g = pairA p q q' xs g := by
            rcases Nat.mod_two_eq_zero_or_one k with e | e
            · exact ⟨0, 1, by omega, by omega, by omega, by omega, fun _ _ => rfl⟩
            · exact ⟨1, 0, by omega, by omega, by omega, by omega, fun _ _ => pairA_comm _ _ _ _ _⟩
          have hne' : q ≠ q' := by omega
          rw [hpair] at h5
          have Hpair := Lib.hid hpair
          clear hpair
          have hy0 : ∀ w, (Instr.build 53 #[]).run Try.prog w = .ok (.agg (boolsV (List.replicate 20 false)).toArray) w := fun _ => by kernel_rfl
          have hy1 : ∀ w, (zeroValue 53).run Try.prog w = .ok (.agg (boolsV (List.replicate 20 false)).toArray) w := fun _ => by kernel_rfl
          have hi2 : (Try.prog.info? 53).map (·.size) = some (Value.agg (boolsV (List.replicate 20 false)).toArray).cells.size := by kernel_rfl
          have hone : ∀ v ∈ (boolsV (List.replicate 20 false)).toArray.toList, v.oneCell' = true := by intro v hv; simp [boolsV] at hv; obtain ⟨_, rfl⟩ := hv; rfl
          have hg := Grp.start 120 (40 * q) (80 + 20 * q) (20 * q) 20 (fun _ => fullS (UInt8.ofNat (k + 1)) 3) (UInt8.ofNat (k + 1)) has
          generalize List.replicate 20 false = ys at hy0 hy1 hi2 hone hg
          have h6 := h5.emptyRow 37 2
          go_upto_block 4 with (first
            | (refine wpList_op rfl (exec_build0 rfl (hy0 _)) ?_)
            | (refine wpList_alloc_z rfl rfl (hy1 _) ?_)
            | (refine wpList_store_obj (h6.alloc _) rfl rfl rfl rfl rfl hi2 hone ?_; intro w7 h7))
          have esb : (wr.alloc (.cells #[] 37)).heap.size = wr.heap.size + 1 := Array.size_push _
          rw [esb] at h7
          generalize wr.heap.size + 1 = sb at h7
          clear h5 h6 hy0 hy1 hi2 hone esb
          obtain ⟨X, hX⟩ : ∃ X, Assn.obj wsb (.cells #[ptrV (xs 0), ptrV (xs 1)] 51 (0, 0)) * (Assn.obj nb (.cells #[.int .i64 ((g 0 : Nat) : Int), .int .i64 ((g 1 : Nat) : Int)] 50 (0, 0)) *
            (Assn.obj plc (.cells #[.int .i64 0, .int .i64 40] 50 (0, 0)) * (pairA p q q' xs g * (diskA p d * R)))) = X := ⟨_, rfl⟩
          have h8 : Bears w7 (Assn.obj sb (.cells (boolsV ys).toArray 53 (0, 0)) * (rowA 37 2 (.slice (some ⟨wr.heap.size, 0, none⟩) 0 0) 0 [] * (storeA [] * (Assn.obj hb (.cells (cellsV has).toArray 52 (0, 0)) * X)))) := by
            rw [← hX, show storeA [] = Assn.emp from rfl, Assn.emp_mul]
            exact h7.cast (by ac_rfl)
          have tX : X.Tells (fun w => RowsIn w (.slice a0 ls.length c0) ls) := by rw [← hX]; exact t0.right.right.right.right.right
          have HX := Lib.hid hX
          clear hX h7
          go_cut [16] (fun gv wr' => ∃ (l : List PutM) (has' : List UInt8) (seen : List Bool) (S : List (Nat × Obj)), TGrp q (UInt8.ofNat (k + 1)) has has' seen l ∧ l.length ≤ 30 ∧ (∀ p ∈ l, PutHeld S p) ∧
            Bears wr' (rowA 37 2 gv l.length (putCells l) * (storeA S * (Assn.obj hb (.cells (cellsV has').toArray 52 (0, 0)) * X))))
          case first =>
            go_wp2_with fail
            go_loopw [16, 18] (fun gv i wr' => ∃ m : Nat, m ≤ (ls.getD k default).bytes.length ∧ m ≤ 20 ∧ i = .int .i64 m ∧ ∃ (l : List PutM) (has' : List UInt8) (seen : List Bool) (S : List (Nat × Obj)), TGrp q (UInt8.ofNat (k + 1)) has has' seen l ∧ l.length ≤ m ∧ (∀ p ∈ l, PutHeld S p) ∧
              Bears wr' (Assn.obj sb (.cells (boolsV seen).toArray 53 (0, 0)) * (rowA 37 2 gv l.length (putCells l) * (storeA S * (Assn.obj hb (.cells (cellsV has').toArray 52 (0, 0)) * X)))))
              (fun _ i _ => 30 - (intOf i).toNat)
            case atStart => exact ⟨0, by omega, by omega, rfl, [], has, ys, [], hg, by simp, by simp, h8⟩
            case round =>
              clear h8
              obtain ⟨m, hm, hmN, rfl, l, has', seen, S, hG, hll, hh, h8⟩ := hrel
              obtain ⟨b, o, rfl, q1⟩ := (tX _ h8.right.right.right.right).cell hlt
              have q2 := (tX _ h8.right.right.right.right).bytes hlt
              obtain ⟨rw', hrw⟩ : ∃ r, ls.getD k default = r := ⟨_, rfl⟩
              rw [hrw] at q1 q2 hm
              have Hrw := Lib.hid hrw
              clear hrw
              obtain ⟨ra, rc, bs⟩ := rw'
              simp only [RowM.val] at q1 q2 hm
              by_cases hmlt : m < bs.length ∧ m < 20
              · obtain ⟨hmlt, hm20⟩ := hmlt
                obtain ⟨b2, o2, rfl, q3⟩ := q2.cell hmlt
                clear q2
                generalize bs.getD m 0 = c at q3
                have hc256 := c.toNat_lt
                unfold byteV at q3
                generalize c.toNat = cn at q3 hc256
                obtain ⟨j, hj⟩ : ∃ j : Nat, j = cn % 20 := ⟨_, rfl⟩
                have hj20 : j < 20 := by omega
                have hjm : (cn : Int) % 20 = (j : Int) := by omega
                have q4 := h8.boolCell (j := j) (by rw [hG.slen]; exact hj20)
                obtain ⟨sj, hsj⟩ : ∃ s, seen.getD j false = s := ⟨_, rfl⟩
                rw [hsj] at q4
                have Hsj := Lib.hid hsj
                clear hsj hj
                cases sj with
                | true =>
                  go_wp2_with fail
                  go_roundw
                  case rel => exact ⟨m + 1, by rw [Hrw.out]; exact hmlt, hm20, by go_num, l, has', seen, S, hG, by omega, hh, h8⟩
                  case measure => simp [intOf]; omega
                | false =>
                  have hhl := hG.hlen.trans ho.len
                  have f1 := frozen_of_obj h8.obj j
                  have f2 := frozen_of_obj h8.pull4.obj (20 * q + j)
                  have h9 := h8.setBool j true
                  have q5 := h9.pull4.byteCell (j := 20 * q + j) (by rw [hhl]; omega)
                  have h10 := h9.pull4.setByte (20 * q + j) (UInt8.ofNat (k + 1))
                  have hk1 : (k : Int) + 1 = ((UInt8.ofNat (k + 1)).toNat : Int) := by rw [UInt8.toNat_ofNat_of_lt' (by show k + 1 < 256; omega)]; omega
                  generalize has'.getD (20 * q + j) 0 = old at q5
                  unfold byteV at q5 h10
                  rw [← hk1] at h10
                  have Hk1 := Lib.hid hk1
                  clear hk1 h9
                  go_wp2_with fail
                  refine (wfull_num h10 (UInt8.ofNat (k + 1)) 3 Hk1.out rfl).mono ?_
                  rintro e w11 ⟨gb, rfl, h11⟩
                  have h12 := h11.alloc (.cells #[.int .i64 (80 + 20 * (q : Int) + (j : Int)), .slice (some ⟨gb, 0, none⟩) 64 64] 37)
                  have hnews := World.news_of_block (cs := #[.int .i64 (80 + 20 * (q : Int) + (j : Int)), .slice (some ⟨gb, 0, none⟩) 64 64]) h12.obj
                  have h13 := h12.pull5
                  clear q4 q5 f1 f2 h8 h10 h11 h12
                  obtain ⟨i0, hi0, hz0, hz1, hz2⟩ := info_parts i_put
                  go_wp2_with (at_builtin; refine wpList_append_bears h13 rfl rfl u_puts hi0 hz0 hz1 hz2 (by simp [Value.cells]) (by decide) rfl (m := 1) rfl rfl hnews (by intro u hu; simp at hu; rcases hu with rfl | rfl <;> rfl) (by unfold maxLen; omega) (by omega) ?_; intro a' c' w14 h14)
                  have h15 : Bears w14 (Assn.obj sb (.cells (boolsV (seen.set j true)).toArray 53 (0, 0)) * (rowA 37 2 (.slice a' (l.length + 1) c') (l.length + 1) (putCells l ++ [.int .i64 (80 + 20 * (q : Int) + (j : Int)), .slice (some ⟨gb, 0, none⟩) 64 64]) *
                    (Assn.obj gb (.cells (cellsV (fullS (UInt8.ofNat (k + 1)) 3)).toArray 5 (0, 0)) * (storeA S * (Assn.obj hb (.cells (cellsV (has'.set (20 * q + j) (UInt8.ofNat (k + 1)))).toArray 52 (0, 0)) * X))))) := h14.pull2.right.cast (by ac_rfl)
                  go_roundw
                  case rel =>
                    refine ⟨m + 1, by rw [Hrw.out]; exact hmlt, hm20, by go_num, l ++ [putOf ((80 + 20 * q + j : Nat) : Int) gb (fullS (UInt8.ofNat (k + 1)) 3)], has'.set (20 * q + j) (UInt8.ofNat (k + 1)), seen.set j true,
                      (gb, .cells (cellsV (fullS (UInt8.ofNat (k + 1)) 3)).toArray 5 (0, 0)) :: S, ?_, by simp; omega, ?_, ?_⟩
                    · exact hG.step hj20 Hsj.out (fullS_length _ _) (by omega) (by omega) (by rw [ho.len]; omega) gb
                    · intro r hr
                      rcases List.mem_append.1 hr with hr | hr
                      · exact (hh r hr).mono
                      · rw [List.mem_singleton] at hr
                        subst hr
                        exact ⟨gb, rfl, by simp⟩
                    · rw [putCells_snoc]
                      simp only [List.length_append, List.length_cons, List.length_nil, Nat.zero_add]
                      have e : ((80 + 20 * q + j : Nat) : Int) = 80 + 20 * (q : Int) + (j : Int) := by omega
                      rw [e]
                      exact h15.cast (by rw [show storeA ((gb, Obj.cells (cellsV (fullS (UInt8.ofNat (k + 1)) 3)).toArray 5 (0, 0)) :: S) = Assn.obj gb (.cells (cellsV (fullS (UInt8.ofNat (k + 1)) 3)).toArray 5 (0, 0)) * storeA S from rfl]; ac_rfl)
                  case measure => simp [intOf]; omega
              · go_wp2_with fail
                all_goals
                  go_meet
                  case rel => exact ⟨l, has', seen, S, hG, by omega, hh, h8.right⟩
          case rest =>
            clear h8
            obtain ⟨l, has', seen, S, hG, hll, hh, h8⟩ := hcut
            obtain ⟨ga, gc, rfl, _⟩ := h8.rowForm
            obtain ⟨d', c1, L1⟩ := hd.commit hq (hG.mayAll (by omega)) hG.far (by have := hgk q; omega)
            obtain ⟨o1, g1⟩ := L1.opens (k := q') hq' (by omega) (by unfold updN; rw [if_neg (Ne.symm hne')]; have := hgk q'; omega)
            have gq' : updN g q (g q + 1) q' = g q' := by unfold updN; rw [if_neg (Ne.symm hne')]
            rw [gq'] at g1
            have ho' := ho.next hG
            have C1 := Lib.hid c1
            have O1 := Lib.hid o1
            have G1 := Lib.hid g1
            have hgq := hgk q
            have hgq' := hgk q'
            clear c1 o1 g1
            rw [← HX.out] at h8
            have h9 : Bears wc (walObj (xs q) p (40 * q) 40 (g q) * (diskA p d * (rowA 37 2 (.slice ga l.length gc) l.length (putCells l) * (storeA S * (Assn.obj wsb (.cells #[ptrV (xs 0), ptrV (xs 1)] 51 (0, 0)) *
              (Assn.obj nb (.cells #[.int .i64 ((g 0 : Nat) : Int), .int .i64 ((g 1 : Nat) : Int)] 50 (0, 0)) * (Assn.obj plc (.cells #[.int .i64 0, .int .i64 40] 50 (0, 0)) *
              (Assn.obj hb (.cells (cellsV has').toArray 52 (0, 0)) * (walObj (xs q') p (40 * q') 40 (g q') * R))))))))) := h8.cast (by unfold pairA; ac_rfl)
            have cw := two_cells (f := fun k => ptrV (xs k)) h9.pull5 hq
            go_wp2_with fail
            refine (commit_to h9 C1.out (rowPuts_tells rfl hh) (by omega) (by omega) (by omega) (by rw [hd.quiet]; decide)).mono ?_
            rintro e w9 ⟨rfl, h10⟩
            have h11 : Bears w9 (Assn.obj nb (.cells #[.int .i64 ((g 0 : Nat) : Int), .int .i64 ((g 1 : Nat) : Int)] 50 (0, 0)) * (Assn.obj plc (.cells #[.int .i64 0, .int .i64 40] 50 (0, 0)) * (diskA p d' * (walObj (xs q) p (40 * q) 40 ((g q + 1 : Nat) : Int) *
              (Assn.obj wsb (.cells #[ptrV (xs 0), ptrV (xs 1)] 51 (0, 0)) * (Assn.obj hb (.cells (cellsV has').toArray 52 (0, 0)) * R)))))) :=
              (h10.cast (by ac_rfl) : Bears _ (rowA 37 2 (.slice ga l.length gc) l.length (putCells l) * (storeA S * (walObj (xs q') p (40 * q') 40 (g q') * _)))).right.right.right
            have cn := two_cells (f := fun k => .int .i64 ((g k : Nat) : Int)) h11 hq
            have fn := frozen_of_obj h11.obj q
            have h12 := two_set (f := fun k => .int .i64 ((g k : Nat) : Int)) h11 hq (.int .i64 ((g q : Int) + 1))
            simp only [updN_ints] at h12
            have cpl := two_cells (f := fun k => .int .i64 ((40 * k : Nat) : Int)) h12.pull2 hq'
            go_wp2_with fail
            refine (open_yesI (a := 40 * q') (s := 40) h12.pull3 (by omega) O1.out G1.out (by omega) (by omega) (by rw [L1.quiet]; decide)).mono ?_
            rintro e w13 ⟨y, rfl, h13⟩
            have gq : updN g q (g q + 1) q = g q + 1 := by unfold updN; rw [if_pos rfl]
            have Gq := Lib.hid gq
            have Gq' := Lib.hid gq'
            generalize hgg : updN g q (g q + 1) = g2 at h12 h13 L1 Gq Gq'
            have Hgg := Lib.hid hgg
            have h14 : Bears w13 (walObj y p (40 * q') 40 (g q') * (Assn.obj nb (.cells #[.int .i64 ((g2 0 : Nat) : Int), .int .i64 ((g2 1 : Nat) : Int)] 50 (0, 0)) * (Assn.obj wsb (.cells #[ptrV (xs 0), ptrV (xs 1)] 51 (0, 0)) *
              (walObj (xs q) p (40 * q) 40 ((g q + 1 : Nat) : Int) * (Assn.obj hb (.cells (cellsV has').toArray 52 (0, 0)) * (Assn.obj plc (.cells #[.int .i64 0, .int .i64 40] 50 (0, 0)) * (diskA p d' * R))))))) := h13.cast (by ac_rfl)
            clear h8 h9 h10 h11 h12 h13 cw cn fn cpl gq gq' hgg
            go_wp2_with fail
            refine wp_region_L (fun w' => ∃ Q, Bears w' (walObj y p (40 * q') 40 (g q') * (Assn.obj nb (.cells #[.int .i64 ((g2 0 : Nat) : Int), .int .i64 ((g2 1 : Nat) : Int)] 50 (0, 0)) * (Assn.obj wsb (.cells #[ptrV (xs 0), ptrV (xs 1)] 51 (0, 0)) *
              (walObj (xs q) p (40 * q) 40 ((g q + 1 : Nat) : Int) * Q))))) 29
              [(true, 0), (true, 1), (true, 2), (true, 3), (true, 4), (true, 5), (true, 6), (true, 7), (true, 8), (true, 9), (true, 10), (true, 11), (true, 13), (true, 14), (true, 15), (true, 16), (false, 12), (true, 17), (true, 18), (true, 19), (true, 20), (true, 21), (true, 22), (true, 24), (true, 25), (true, 26), (false, 23), (true, 27), (true, 28)] [] (by kernel_rfl) (by kernel_rfl) ⟨_, h14.drew⟩ ?_
            simp only [pick, List.getElem?_cons_zero, List.getElem?_cons_succ]
            have r1 : IntKind.i64.wrap (q' : Int) = (q' : Int) := IntWalk.i64_in _ (by omega)
            have r2 : (q' : Int) < 2 := by omega
            have r3 : (q : Int) < 2 := by omega
            refine wpL_guarded (v := ?_) rfl (fun w' hS => ?_) ?_
            rotate_left
            · (obtain ⟨_, hS⟩ := hS; have n1 := two_cells (f := fun k => .int .i64 ((g2 k : Nat) : Int)) hS.pull2 hq'; rw [Gq'.out] at n1; go_simp; try with_reducible rfl)
            simp only [Act.put, List.setIfInBounds_toArray, List.set_cons_zero, List.set_cons_succ]
            refine wpL_guarded (v := ?_) rfl (fun w' hS => ?_) ?_
            rotate_left
            · (obtain ⟨_, hS⟩ := hS; have n1 := two_cells (f := fun k => .int .i64 ((g2 k : Nat) : Int)) hS.pull2 hq'; rw [Gq'.out] at n1; go_simp; try with_reducible rfl)
            simp only [Act.put, List.setIfInBounds_toArray, List.set_cons_zero, List.set_cons_succ]
            refine wpL_guarded (v := ?_) rfl (fun w' hS => ?_) ?_
            rotate_left
            · (obtain ⟨_, hS⟩ := hS; have n1 := two_cells (f := fun k => .int .i64 ((g2 k : Nat) : Int)) hS.pull2 hq'; rw [Gq'.out] at n1; go_simp; try with_reducible rfl)
            simp only [Act.put, List.setIfInBounds_toArray, List.set_cons_zero, List.set_cons_succ]
            refine wpL_guarded (v := ?_) rfl (fun w' hS => ?_) ?_
            rotate_left
            · (obtain ⟨_, hS⟩ := hS; have n1 := two_cells (f := fun k => .int .i64 ((g2 k : Nat) : Int)) hS.pull2 hq'; rw [Gq'.out] at n1; go_simp; try with_reducible rfl)
            simp only [Act.put, List.setIfInBounds_toArray, List.set_cons_zero, List.set_cons_succ]
            refine wpL_guarded (v := ?_) rfl (fun w' hS => ?_) ?_
            rotate_left
            · (obtain ⟨_, hS⟩ := hS; have n1 := two_cells (f := fun k => .int .i64 ((g2 k : Nat) : Int)) hS.pull2 hq'; rw [Gq'.out] at n1; go_simp; try with_reducible rfl)
            simp only [Act.put, List.setIfInBounds_toArray, List.set_cons_zero, List.set_cons_succ]
            refine wpL_guarded (v := ?_) rfl (fun w' hS => ?_) ?_
            rotate_left
            · (obtain ⟨_, hS⟩ := hS; have n1 := two_cells (f := fun k => .int .i64 ((g2 k : Nat) : Int)) hS.pull2 hq'; rw [Gq'.out] at n1; go_simp; try with_reducible rfl)
            simp only [Act.put, List.setIfInBounds_toArray, List.set_cons_zero, List.set_cons_succ]
            refine wpL_guarded (v := ?_) rfl (fun w' hS => ?_) ?_
            rotate_left
            · (obtain ⟨_, hS⟩ := hS; have n1 := two_cells (f := fun k => .int .i64 ((g2 k : Nat) : Int)) hS.pull2 hq'; rw [Gq'.out] at n1; go_simp; try with_reducible rfl)
            simp only [Act.put, List.setIfInBounds_toArray, List.set_cons_zero, List.set_cons_succ]
            refine wpL_guarded (v := ?_) rfl (fun w' hS => ?_) ?_
            rotate_left
            · (obtain ⟨_, hS⟩ := hS; have n1 := two_cells (f := fun k => .int .i64 ((g2 k : Nat) : Int)) hS.pull2 hq'; rw [Gq'.out] at n1; go_simp; try with_reducible rfl)
            simp only [Act.put, List.setIfInBounds_toArray, List.set_cons_zero, List.set_cons_succ]
            refine wpL_guarded (v := ?_) rfl (fun w' hS => ?_) ?_
            rotate_left
            · (obtain ⟨_, hS⟩ := hS; have n1 := two_cells (f := fun k => .int .i64 ((g2 k : Nat) : Int)) hS.pull2 hq'; rw [Gq'.out] at n1; go_simp; try with_reducible rfl)
            simp only [Act.put, List.setIfInBounds_toArray, List.set_cons_zero, List.set_cons_succ]
            refine wpL_guarded (v := ?_) rfl (fun w' hS => ?_) ?_
            rotate_left
            · (obtain ⟨_, hS⟩ := hS; have n1 := two_cells (f := fun k => .int .i64 ((g2 k : Nat) : Int)) hS.pull2 hq'; rw [Gq'.out] at n1; go_simp; try with_reducible rfl)
            simp only [Act.put, List.setIfInBounds_toArray, List.set_cons_zero, List.set_cons_succ]
            refine wpL_guarded (v := ?_) rfl (fun w' hS => ?_) ?_
            rotate_left
            · (obtain ⟨_, hS⟩ := hS; have n1 := two_cells (f := fun k => .int .i64 ((g2 k : Nat) : Int)) hS.pull2 hq'; rw [Gq'.out] at n1; go_simp; try with_reducible rfl)
            simp only [Act.put, List.setIfInBounds_toArray, List.set_cons_zero, List.set_cons_succ]
            refine wpL_guarded (v := ?_) rfl (fun w' hS => ?_) ?_
            rotate_left
            · (obtain ⟨_, hS⟩ := hS; have n1 := two_cells (f := fun k => .int .i64 ((g2 k : Nat) : Int)) hS.pull2 hq'; rw [Gq'.out] at n1; go_simp; try with_reducible rfl)
            simp only [Act.put, List.setIfInBounds_toArray, List.set_cons_zero, List.set_cons_succ]
            refine wpL_guarded (v := ?_) rfl (fun w' hS => ?_) ?_
            rotate_left
            · (obtain ⟨_, hS⟩ := hS; have n1 := two_cells (f := fun k => .int .i64 ((g2 k : Nat) : Int)) hS.pull2 hq'; rw [Gq'.out] at n1; go_simp; try with_reducible rfl)
            simp only [Act.put, List.setIfInBounds_toArray, List.set_cons_zero, List.set_cons_succ]
            refine wpL_guarded (v := ?_) rfl (fun w' hS => ?_) ?_
            rotate_left
            · (obtain ⟨_, hS⟩ := hS; have n1 := two_cells (f := fun k => .int .i64 ((g2 k : Nat) : Int)) hS.pull2 hq'; rw [Gq'.out] at n1; go_simp; try with_reducible rfl)
            simp only [Act.put, List.setIfInBounds_toArray, List.set_cons_zero, List.set_cons_succ]
            refine wpL_guarded (v := ?_) rfl (fun w' hS => ?_) ?_
            rotate_left
            · (obtain ⟨_, hS⟩ := hS; have n1 := two_cells (f := fun k => .int .i64 ((g2 k : Nat) : Int)) hS.pull2 hq'; rw [Gq'.out] at n1; go_simp; try with_reducible rfl)
            simp only [Act.put, List.setIfInBounds_toArray, List.set_cons_zero, List.set_cons_succ]
            refine wpL_guarded (v := ?_) rfl (fun w' hS => ?_) ?_
            rotate_left
            · (obtain ⟨_, hS⟩ := hS; have n1 := two_cells (f := fun k => .int .i64 ((g2 k : Nat) : Int)) hS.pull2 hq'; rw [Gq'.out] at n1; go_simp; try with_reducible rfl)
            simp only [Act.put, List.setIfInBounds_toArray, List.set_cons_zero, List.set_cons_succ]
            refine wpL_effG rfl ?_
            go_simp
            refine (groups_any h14.drew).mono ?_
            rintro e w15 ⟨rfl, rfl⟩
            refine ⟨⟨_, h14.drew⟩, ?_⟩
            refine wpL_guarded (v := ?_) rfl (fun w' hS => ?_) ?_
            rotate_left
            · (obtain ⟨_, hS⟩ := hS; have n1 := two_cells (f := fun k => .int .i64 ((g2 k : Nat) : Int)) hS.pull2 hq; rw [Gq.out] at n1; have n2 := two_cells (f := fun k => ptrV (xs k)) hS.pull3 hq; go_simp; try with_reducible rfl)
            simp only [Act.put, List.setIfInBounds_toArray, List.set_cons_zero, List.set_cons_succ]
            refine wpL_guarded (v := ?_) rfl (fun w' hS => ?_) ?_
            rotate_left
            · (obtain ⟨_, hS⟩ := hS; have n1 := two_cells (f := fun k => .int .i64 ((g2 k : Nat) : Int)) hS.pull2 hq; rw [Gq.out] at n1; have n2 := two_cells (f := fun k => ptrV (xs k)) hS.pull3 hq; go_simp; try with_reducible rfl)
            simp only [Act.put, List.setIfInBounds_toArray, List.set_cons_zero, List.set_cons_succ]
            refine wpL_guarded (v := ?_) rfl (fun w' hS => ?_) ?_
            rotate_left
            · (obtain ⟨_, hS⟩ := hS; have n1 := two_cells (f := fun k => .int .i64 ((g2 k : Nat) : Int)) hS.pull2 hq; rw [Gq.out] at n1; have n2 := two_cells (f := fun k => ptrV (xs k)) hS.pull3 hq; go_simp; try with_reducible rfl)
            simp only [Act.put, List.setIfInBounds_toArray, List.set_cons_zero, List.set_cons_succ]
            refine wpL_guarded (v := ?_) rfl (fun w' hS => ?_) ?_
            rotate_left
            · (obtain ⟨_, hS⟩ := hS; have n1 := two_cells (f := fun k => .int .i64 ((g2 k : Nat) : Int)) hS.pull2 hq; rw [Gq.out] at n1; have n2 := two_cells (f := fun k => ptrV (xs k)) hS.pull3 hq; go_simp; try with_reducible rfl)
            simp only [Act.put, List.setIfInBounds_toArray, List.set_cons_zero, List.set_cons_succ]
            refine wpL_guarded (v := ?_) rfl (fun w' hS => ?_) ?_
            rotate_left
            · (obtain ⟨_, hS⟩ := hS; have n1 := two_cells (f := fun k => .int .i64 ((g2 k : Nat) : Int)) hS.pull2 hq; rw [Gq.out] at n1; have n2 := two_cells (f := fun k => ptrV (xs k)) hS.pull3 hq; go_simp; try with_reducible rfl)
            simp only [Act.put, List.setIfInBounds_toArray, List.set_cons_zero, List.set_cons_succ]
            refine wpL_guarded (v := ?_) rfl (fun w' hS => ?_) ?_
            rotate_left
            · (obtain ⟨_, hS⟩ := hS; have n1 := two_cells (f := fun k => .int .i64 ((g2 k : Nat) : Int)) hS.pull2 hq; rw [Gq.out] at n1; have n2 := two_cells (f := fun k => ptrV (xs k)) hS.pull3 hq; go_simp; try with_reducible rfl)
            simp only [Act.put, List.setIfInBounds_toArray, List.set_cons_zero, List.set_cons_succ]
            refine wpL_guarded (v := ?_) rfl (fun w' hS => ?_) ?_
            rotate_left
            · (obtain ⟨_, hS⟩ := hS; have n1 := two_cells (f := fun k => .int .i64 ((g2 k : Nat) : Int)) hS.pull2 hq; rw [Gq.out] at n1; have n2 := two_cells (f := fun k => ptrV (xs k)) hS.pull3 hq; go_simp; try with_reducible rfl)
            simp only [Act.put, List.setIfInBounds_toArray, List.set_cons_zero, List.set_cons_succ]
            refine wpL_guarded (v := ?_) rfl (fun w' hS => ?_) ?_
            rotate_left
            · (obtain ⟨_, hS⟩ := hS; have n1 := two_cells (f := fun k => .int .i64 ((g2 k : Nat) : Int)) hS.pull2 hq; rw [Gq.out] at n1; have n2 := two_cells (f := fun k => ptrV (xs k)) hS.pull3 hq; go_simp; try with_reducible rfl)
            simp only [Act.put, List.setIfInBounds_toArray, List.set_cons_zero, List.set_cons_succ]
            refine wpL_guarded (v := ?_) rfl (fun w' hS => ?_) ?_
            rotate_left
            · (obtain ⟨_, hS⟩ := hS; have n1 := two_cells (f := fun k => .int .i64 ((g2 k : Nat) : Int)) hS.pull2 hq; rw [Gq.out] at n1; have n2 := two_cells (f := fun k => ptrV (xs k)) hS.pull3 hq; go_simp; try with_reducible rfl)
            simp only [Act.put, List.setIfInBounds_toArray, List.set_cons_zero, List.set_cons_succ]
            refine wpL_effG rfl ?_
            go_simp
            refine (groups_any h14.drew.pull4).mono ?_
            rintro e w15 ⟨rfl, rfl⟩
            refine ⟨⟨_, h14.drew⟩, ?_⟩
            refine wpL_guarded (v := ?_) rfl (fun w' hS => ?_) ?_
            rotate_left
            · (go_simp; try with_reducible rfl)
            simp only [Act.put, List.setIfInBounds_toArray, List.set_cons_zero, List.set_cons_succ]
            refine wpL_guarded (v := ?_) rfl (fun w' hS => ?_) ?_
            rotate_left
            · (go_simp; try with_reducible rfl)
            simp only [Act.put, List.setIfInBounds_toArray, List.set_cons_zero, List.set_cons_succ]
            refine wpL_nil ?_
            refine wpL_nil ?_
            have h15 := h14.drew.pull3
            have n3 := two_cells (f := fun k => ptrV (xs k)) h15 hq'
            have fn3 := frozen_of_obj h15.obj q'
            have h16 := two_set (f := fun k => ptrV (xs k)) h15 hq' (ptrV y)
            clear h14
            go_wp2_with fail
            go_roundw
            case rel =>
              refine ⟨k + 1, hlt, hltN, by go_num, d', updN xs q' y, g2, _, has', L1, ho', fun j => ?_, h16.cast ?_⟩
              · rw [← Hgg.out]
                unfold updN
                split
                · omega
                · have := hgk j; omega
              · rw [Hpair.out]
                unfold pairA
                rw [Gq.out, Gq'.out]
                have x1 : updN xs q' y q = xs q := by unfold updN; rw [if_neg hne']
                have x2 : updN xs q' y q' = y := by unfold updN; rw [if_pos rfl]
                have x3 : ∀ i, updN (fun k => ptrV (xs k)) q' (ptrV y) i = ptrV (updN xs q' y i) := by intro i; unfold updN; split <;> rfl
                rw [x1, x2, x3, x3]
                ac_rfl
            case measure => simp [intOf]; omega
        · go_wp2_with fail
          all_goals
            go_meet
            case rel => exact ⟨d, g, F, has, hd, ho, h5.right.right.pull3.pull3.right.right⟩
    case rest =>
      clear h7 hd ho
      obtain ⟨d, g, F, has, hd, ho, h5⟩ := hcut
      go_wp2_with fail
      go_loopw [23] (fun i wr => ∃ j : Nat, j ≤ 40 ∧ i = .int .i64 j ∧ Bears wr (Assn.obj hb (.cells (cellsV has).toArray 52 (0, 0)) * (diskA p d * R))) (fun i _ => 40 - (intOf i).toNat)
      case atStart => exact ⟨0, by omega, rfl, h5⟩
      case round =>
        obtain ⟨j, hj, rfl, h6⟩ := hrel
        by_cases hlt : j < 40
        · have f1 : Hid (d.check ((80 : Int) + j) = 0) := by
            have := DiskM.on_check (i := 80 + j) hd.off (by rw [hd.len]; omega)
            rw [Int.natCast_add] at this
            exact this
          have f2 : Hid (d.now ((80 : Int) + j).toNat = F (80 + j)) := by
            rw [show ((80 : Int) + j).toNat = 80 + j by omega, now_quiet hd.quiet]
            exact hd.out _ (by omega)
          have hs := ho.at' j hlt
          obtain ⟨s, hse⟩ : ∃ s, F (80 + j) = s := ⟨_, rfl⟩
          rw [hse] at f2 hs
          have Hs := Lib.hid hs
          clear hs hse
          go_wp2_with fail
          refine (read_to (s := s) _ h6.pull2 f1.out f2.out).mono ?_
          rintro e w7 ⟨gr, rfl, h7⟩
          have h8 := h7.pull3
          have q1 := h8.byteCell (j := j) (by rw [ho.len]; exact hlt)
          obtain ⟨c, hc⟩ : ∃ c, has.getD j 0 = c := ⟨_, rfl⟩
          rw [hc] at q1 Hs
          have Hc := Lib.hid hc
          clear hc q1
          go_wp2_with fail
          by_cases hc0 : c = 0
          · subst hc0
            have r3 : (j : Int) < 40 := by omega
            refine wp_region_L (fun w' => ∃ Q, Bears w' (Assn.obj gr (.cells (cellsV s).toArray 82 (0, 0)) * (Assn.obj hb (.cells (cellsV has).toArray 52 (0, 0)) * Q))) 18
              [(true, 0), (true, 1), (true, 2), (true, 3), (true, 4), (true, 5), (true, 6), (true, 7), (true, 8), (true, 9), (true, 10), (true, 11), (true, 12), (true, 13), (true, 14), (true, 15), (true, 16), (true, 17)] [] (by kernel_rfl) (by kernel_rfl) ⟨_, (h7.drew.cast (by ac_rfl) : Bears _ (Assn.obj gr _ * (Assn.obj hb _ * (diskA p d * R))))⟩ ?_
            simp only [pick, List.getElem?_cons_zero, List.getElem?_cons_succ]
            refine wpL_guarded (v := ?_) rfl (fun w' hS => ?_) ?_
            rotate_left
            · (obtain ⟨_, hS⟩ := hS; have n1 := hS.pull2.byteCell (j := j) (by rw [ho.len]; exact hlt); rw [Hc.out] at n1; unfold byteV at n1; rw [show (((0 : UInt8).toNat : Nat) : Int) = 0 from rfl] at n1; go_simp; try with_reducible rfl)
            simp only [Act.put, List.setIfInBounds_toArray, List.set_cons_zero, List.set_cons_succ]
            refine wpL_guarded (v := ?_) rfl (fun w' hS => ?_) ?_
            rotate_left
            · (obtain ⟨_, hS⟩ := hS; have n1 := hS.pull2.byteCell (j := j) (by rw [ho.len]; exact hlt); rw [Hc.out] at n1; unfold byteV at n1; rw [show (((0 : UInt8).toNat : Nat) : Int) = 0 from rfl] at n1; go_simp; try with_reducible rfl)
            simp only [Act.put, List.setIfInBounds_toArray, List.set_cons_zero, List.set_cons_succ]
            refine wpL_guarded (v := ?_) rfl (fun w' hS => ?_) ?_
            rotate_left
            · (obtain ⟨_, hS⟩ := hS; have n1 := hS.pull2.byteCell (j := j) (by rw [ho.len]; exact hlt); rw [Hc.out] at n1; unfold byteV at n1; rw [show (((0 : UInt8).toNat : Nat) : Int) = 0 from rfl] at n1; go_simp; try with_reducible rfl)
            simp only [Act.put, List.setIfInBounds_toArray, List.set_cons_zero, List.set_cons_succ]
            refine wpL_guarded (v := ?_) rfl (fun w' hS => ?_) ?_
            rotate_left
            · (obtain ⟨_, hS⟩ := hS; have n1 := hS.pull2.byteCell (j := j) (by rw [ho.len]; exact hlt); rw [Hc.out] at n1; unfold byteV at n1; rw [show (((0 : UInt8).toNat : Nat) : Int) = 0 from rfl] at n1; go_simp; try with_reducible rfl)
            simp only [Act.put, List.setIfInBounds_toArray, List.set_cons_zero, List.set_cons_succ]
            refine wpL_guarded (v := ?_) rfl (fun w' hS => ?_) ?_
            rotate_left
            · (obtain ⟨_, hS⟩ := hS; have n1 := hS.pull2.byteCell (j := j) (by rw [ho.len]; exact hlt); rw [Hc.out] at n1; unfold byteV at n1; rw [show (((0 : UInt8).toNat : Nat) : Int) = 0 from rfl] at n1; go_simp; try with_reducible rfl)
            simp only [Act.put, List.setIfInBounds_toArray, List.set_cons_zero, List.set_cons_succ]
            refine wpL_guarded (v := ?_) rfl (fun w' hS => ?_) ?_
            rotate_left
            · (obtain ⟨_, hS⟩ := hS; have n1 := hS.pull2.byteCell (j := j) (by rw [ho.len]; exact hlt); rw [Hc.out] at n1; unfold byteV at n1; rw [show (((0 : UInt8).toNat : Nat) : Int) = 0 from rfl] at n1; go_simp; try with_reducible rfl)
            simp only [Act.put, List.setIfInBounds_toArray, List.set_cons_zero, List.set_cons_succ]
            refine wpL_guarded (v := ?_) rfl (fun w' hS => ?_) ?_
            rotate_left
            · (obtain ⟨_, hS⟩ := hS; have n1 := hS.pull2.byteCell (j := j) (by rw [ho.len]; exact hlt); rw [Hc.out] at n1; unfold byteV at n1; rw [show (((0 : UInt8).toNat : Nat) : Int) = 0 from rfl] at n1; go_simp; try with_reducible rfl)
            simp only [Act.put, List.setIfInBounds_toArray, List.set_cons_zero, List.set_cons_succ]
            refine wpL_guarded (v := ?_) rfl (fun w' hS => ?_) ?_
            rotate_left
            · (obtain ⟨_, hS⟩ := hS; have n1 := hS.pull2.byteCell (j := j) (by rw [ho.len]; exact hlt); rw [Hc.out] at n1; unfold byteV at n1; rw [show (((0 : UInt8).toNat : Nat) : Int) = 0 from rfl] at n1; go_simp; try with_reducible rfl)
            simp only [Act.put, List.setIfInBounds_toArray, List.set_cons_zero, List.set_cons_succ]
            refine wpL_skip rfl ?_
            simp only [Act.put, List.setIfInBounds_toArray, List.set_cons_zero, List.set_cons_succ]
            refine wpL_skip rfl ?_
            simp only [Act.put, List.setIfInBounds_toArray, List.set_cons_zero, List.set_cons_succ]
            refine wpL_skip rfl ?_
            simp only [Act.put, List.setIfInBounds_toArray, List.set_cons_zero, List.set_cons_succ]
            refine wpL_skip rfl ?_
            simp only [Act.put, List.setIfInBounds_toArray, List.set_cons_zero, List.set_cons_succ]
            refine wpL_skip rfl ?_
            simp only [Act.put, List.setIfInBounds_toArray, List.set_cons_zero, List.set_cons_succ]
            refine wpL_skip rfl ?_
            simp only [Act.put, List.setIfInBounds_toArray, List.set_cons_zero, List.set_cons_succ]
            refine wpL_skip rfl ?_
            simp only [Act.put, List.setIfInBounds_toArray, List.set_cons_zero, List.set_cons_succ]
            refine wpL_skip rfl ?_
            simp only [Act.put, List.setIfInBounds_toArray, List.set_cons_zero, List.set_cons_succ]
            refine wpL_guarded (v := ?_) rfl (fun w' hS => ?_) ?_
            rotate_left
            · (go_simp; try with_reducible rfl)
            simp only [Act.put, List.setIfInBounds_toArray, List.set_cons_zero, List.set_cons_succ]
            refine wpL_guarded (v := ?_) rfl (fun w' hS => ?_) ?_
            rotate_left
            · (go_simp; try with_reducible rfl)
            simp only [Act.put, List.setIfInBounds_toArray, List.set_cons_zero, List.set_cons_succ]
            refine wpL_nil ?_
            refine wpL_nil ?_
            go_wp2_with fail
            go_roundw
            case rel => exact ⟨j + 1, hlt, by go_num, h7.drew.right.pull2⟩
            case measure => simp [intOf]; omega
          · have hcp : 0 < c.toNat := by
              rcases Nat.eq_zero_or_pos c.toNat with e | e
              · exact absurd (UInt8.toNat_inj.1 (by simpa using e)) hc0
              · exact e
            have hs := Hs.out hc0
            subst hs
            have hfl := fullS_length c 3
            have r3 : (j : Int) < 40 := by omega
            obtain ⟨cn, hcn⟩ : ∃ cn, c.toNat = cn := ⟨_, rfl⟩
            rw [hcn] at hcp
            have Hcn := Lib.hid hcn
            have hc256 : cn < 256 := by rw [← hcn]; exact c.toNat_lt
            have hcpi : (0 : Int) < (cn : Int) := by omega
            clear hcn
            refine wp_region_L (fun w' => ∃ Q, Bears w' (Assn.obj gr (.cells (cellsV (fullS c 3)).toArray 82 (0, 0)) * (Assn.obj hb (.cells (cellsV has).toArray 52 (0, 0)) * Q))) 18
              [(true, 0), (true, 1), (true, 2), (true, 3), (true, 4), (true, 5), (true, 6), (true, 7), (true, 8), (true, 9), (true, 10), (true, 11), (true, 12), (false, 13), (false, 14), (true, 15), (true, 16), (true, 17)] [] (by kernel_rfl) (by kernel_rfl) ⟨_, (h7.drew.cast (by ac_rfl) : Bears _ (Assn.obj gr _ * (Assn.obj hb _ * (diskA p d * R))))⟩ ?_
            simp only [pick, List.getElem?_cons_zero, List.getElem?_cons_succ]
            refine wpL_guarded (v := ?_) rfl (fun w' hS => ?_) ?_
            rotate_left
            · (obtain ⟨_, hS⟩ := hS; have n1 := hS.pull2.byteCell (j := j) (by rw [ho.len]; exact hlt); rw [Hc.out] at n1; unfold byteV at n1; rw [Hcn.out] at n1; go_simp; try with_reducible rfl)
            simp only [Act.put, List.setIfInBounds_toArray, List.set_cons_zero, List.set_cons_succ]
            refine wpL_guarded (v := ?_) rfl (fun w' hS => ?_) ?_
            rotate_left
            · (obtain ⟨_, hS⟩ := hS; have n1 := hS.pull2.byteCell (j := j) (by rw [ho.len]; exact hlt); rw [Hc.out] at n1; unfold byteV at n1; rw [Hcn.out] at n1; go_simp; try with_reducible rfl)
            simp only [Act.put, List.setIfInBounds_toArray, List.set_cons_zero, List.set_cons_succ]
            refine wpL_guarded (v := ?_) rfl (fun w' hS => ?_) ?_
            rotate_left
            · (obtain ⟨_, hS⟩ := hS; have n1 := hS.pull2.byteCell (j := j) (by rw [ho.len]; exact hlt); rw [Hc.out] at n1; unfold byteV at n1; rw [Hcn.out] at n1; go_simp; try with_reducible rfl)
            simp only [Act.put, List.setIfInBounds_toArray, List.set_cons_zero, List.set_cons_succ]
            refine wpL_guarded (v := ?_) rfl (fun w' hS => ?_) ?_
            rotate_left
            · (obtain ⟨_, hS⟩ := hS; have n1 := hS.pull2.byteCell (j := j) (by rw [ho.len]; exact hlt); rw [Hc.out] at n1; unfold byteV at n1; rw [Hcn.out] at n1; go_simp; try with_reducible rfl)
            simp only [Act.put, List.setIfInBounds_toArray, List.set_cons_zero, List.set_cons_succ]
            refine wpL_guarded (v := ?_) rfl (fun w' hS => ?_) ?_
            rotate_left
            · (obtain ⟨_, hS⟩ := hS; have n1 := hS.pull2.byteCell (j := j) (by rw [ho.len]; exact hlt); rw [Hc.out] at n1; unfold byteV at n1; rw [Hcn.out] at n1; go_simp; try with_reducible rfl)
            simp only [Act.put, List.setIfInBounds_toArray, List.set_cons_zero, List.set_cons_succ]
            refine wpL_guarded (v := ?_) rfl (fun w' hS => ?_) ?_
            rotate_left
            · (obtain ⟨_, hS⟩ := hS; have n1 := hS.pull2.byteCell (j := j) (by rw [ho.len]; exact hlt); rw [Hc.out] at n1; unfold byteV at n1; rw [Hcn.out] at n1; go_simp; try with_reducible rfl)
            simp only [Act.put, List.setIfInBounds_toArray, List.set_cons_zero, List.set_cons_succ]
            refine wpL_guarded (v := ?_) rfl (fun w' hS => ?_) ?_
            rotate_left
            · (obtain ⟨_, hS⟩ := hS; have n1 := hS.pull2.byteCell (j := j) (by rw [ho.len]; exact hlt); rw [Hc.out] at n1; unfold byteV at n1; rw [Hcn.out] at n1; go_simp; try with_reducible rfl)
            simp only [Act.put, List.setIfInBounds_toArray, List.set_cons_zero, List.set_cons_succ]
            refine wpL_guarded (v := ?_) rfl (fun w' hS => ?_) ?_
            rotate_left
            · (obtain ⟨_, hS⟩ := hS; have n1 := hS.pull2.byteCell (j := j) (by rw [ho.len]; exact hlt); rw [Hc.out] at n1; unfold byteV at n1; rw [Hcn.out] at n1; go_simp; try with_reducible rfl)
            simp only [Act.put, List.setIfInBounds_toArray, List.set_cons_zero, List.set_cons_succ]
            refine wpL_guarded (v := ?_) rfl (fun w' hS => ?_) ?_
            rotate_left
            · (obtain ⟨_, hS⟩ := hS; have n1 := hS.pull2.byteCell (j := j) (by rw [ho.len]; exact hlt); rw [Hc.out] at n1; unfold byteV at n1; rw [Hcn.out] at n1; go_simp; try with_reducible rfl)
            simp only [Act.put, List.setIfInBounds_toArray, List.set_cons_zero, List.set_cons_succ]
            refine wpL_guarded rfl (fun w' hS => exec_convert rfl rfl (run_convert_in (by obtain ⟨_, hS⟩ := hS; exact BytesIn.tells _ _ (by rw [hfl]) _ hS))) ?_
            simp only [Act.put, List.setIfInBounds_toArray, List.set_cons_zero, List.set_cons_succ]
            refine wpL_guarded (v := ?_) rfl (fun w' hS => ?_) ?_
            rotate_left
            · (obtain ⟨_, hS⟩ := hS; have n1 := hS.pull2.byteCell (j := j) (by rw [ho.len]; exact hlt); rw [Hc.out] at n1; unfold byteV at n1; rw [Hcn.out] at n1; go_simp; try with_reducible rfl)
            simp only [Act.put, List.setIfInBounds_toArray, List.set_cons_zero, List.set_cons_succ]
            refine wpL_guarded (v := ?_) rfl (fun w' hS => ?_) ?_
            rotate_left
            · (obtain ⟨_, hS⟩ := hS; have n1 := hS.pull2.byteCell (j := j) (by rw [ho.len]; exact hlt); rw [Hc.out] at n1; unfold byteV at n1; rw [Hcn.out] at n1; go_simp; try with_reducible rfl)
            simp only [Act.put, List.setIfInBounds_toArray, List.set_cons_zero, List.set_cons_succ]
            refine wpL_guarded (v := ?_) rfl (fun w' hS => ?_) ?_
            rotate_left
            · (obtain ⟨_, hS⟩ := hS; have n1 := hS.pull2.byteCell (j := j) (by rw [ho.len]; exact hlt); rw [Hc.out] at n1; unfold byteV at n1; rw [Hcn.out] at n1; go_simp; try with_reducible rfl)
            simp only [Act.put, List.setIfInBounds_toArray, List.set_cons_zero, List.set_cons_succ]
            refine wpL_effG rfl ?_
            go_simp
            refine (wfull_num h7.drew c 3 (by rw [Hcn.out]) rfl).mono ?_
            rintro e w9 ⟨g2, rfl, h9⟩
            refine ⟨⟨_, (h9.right.cast (by ac_rfl) : Bears _ (Assn.obj gr _ * (Assn.obj hb _ * (diskA p d * R))))⟩, ?_⟩
            refine wpL_effG rfl (wp_of_run (exec_convert rfl rfl (run_convert_in (BytesIn.tells _ _ (by rw [hfl]) _ h9))) ⟨⟨_, (h9.right.cast (by ac_rfl) : Bears _ (Assn.obj gr _ * (Assn.obj hb _ * (diskA p d * R))))⟩, ?_⟩)
            simp only [Act.put, List.setIfInBounds_toArray, List.set_cons_zero, List.set_cons_succ]
            refine wpL_guarded (v := ?_) rfl (fun w' hS => ?_) ?_
            rotate_left
            · (go_simp; try with_reducible rfl)
            simp only [Act.put, List.setIfInBounds_toArray, List.set_cons_zero, List.set_cons_succ]
            refine wpL_guarded (v := ?_) rfl (fun w' hS => ?_) ?_
            rotate_left
            · (go_simp; try with_reducible rfl)
            simp only [Act.put, List.setIfInBounds_toArray, List.set_cons_zero, List.set_cons_succ]
            refine wpL_guarded (v := ?_) rfl (fun w' hS => ?_) ?_
            rotate_left
            · (go_simp; try with_reducible rfl)
            simp only [Act.put, List.setIfInBounds_toArray, List.set_cons_zero, List.set_cons_succ]
            refine wpL_nil ?_
            refine wpL_nil ?_
            go_wp2_with fail
            go_roundw
            case rel => exact ⟨j + 1, hlt, by go_num, h9.right.right.pull2⟩
            case measure => simp [intOf]; omega
        · go_wp2_with fail
          go_ret
          exact ⟨rfl, h6.right.right⟩

end Go.Proofs.Ytadefdmoijkclaa
