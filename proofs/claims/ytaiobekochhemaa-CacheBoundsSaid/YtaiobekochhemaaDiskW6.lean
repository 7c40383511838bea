/- Walks of the disk's functions, part 6: Boot; no condition. -/
import Derived.Test.YtaiobekochhemaaDiskW5
namespace Go.Proofs.Ytaiobekochhemaa
open Go.RowKit Go.MapKept

set_option maxRecDepth 100000 in
set_option maxHeartbeats 400000 in
theorem boot_any {p : Nat} {d : DiskM} {R : Assn} {w : World} (h : Bears w (diskA p d * R)) (ks : List Int) (ad : Option Addr) (cap : Nat)
    (hk : R.Tells (fun w => IntsIn w (.slice ad ks.length cap) ks)) (hb : ∀ x ∈ ks, -9223372036854775808 ≤ x ∧ x ≤ 9223372036854775807) (hlen : ks.length ≤ 9223372036854775807) (hroom : d.waits.length < 1099511627776) :
    Calls Try.prog 45 #[.pointer (some ⟨p, 0, none⟩), .slice ad ks.length cap] w fun e w' => e = .returned (.tuple #[]) ∧ Bears w' (diskA p (d.boot ks) * R) := by
  obtain ⟨ms, mn, wv, ls, ln, hwf, hs, hn, h2⟩ := Bears.disk.1 h
  obtain ⟨hc, hf⟩ := disk_cells h2
  have c3 := hc 3
  simp at c3
  clear hc hf
  obtain ⟨a, c, rfl, hnc, hcm, hrow⟩ := h2.pull2.rowForm
  clear hrow
  go_enter Try.func45, Try.ntmps45
  go_wp2_with fail
  go_loopw [11] (fun i wr => ∃ k : Nat, k ≤ d.waits.length ∧ i = .int .i64 k ∧ ∃ ls', SecMap ls' (settle d.sure (kept ks 0 (d.waits.take k))) ∧
      Bears wr (diskObj p d ms mn (.slice a d.waits.length c) * (rowA 128 65 (.slice a d.waits.length c) d.waits.length (waitCells d.waits) * (mapA ms ls' * (mapA mn ln * R)))))
    (fun i _ => d.waits.length - (intOf i).toNat)
  case atStart => exact ⟨0, Nat.zero_le _, rfl, ls, hs, h2⟩
  case round =>
    obtain ⟨k, hk', rfl, ls', hs', h3⟩ := hrel
    by_cases hlt : k < d.waits.length
    · obtain ⟨g, rfl, hr⟩ := h3.pull2.rowAt hlt
      rw [waitCells_at _ (fun q hq => (hwf.waits q hq).2) k hlt] at hr
      have hp := (hwf.waits _ (List.getElem_mem hlt)).2
      have i1 : Option.map (fun x => x.size) (Try.prog.info? 128) = some (Value.int .i64 ((d.waits[k].1 : Nat) : Int) :: cellsV d.waits[k].2).length := by
        rw [List.length_cons, length_cellsV, hp]; exact s_write
      have o1 : ∀ v ∈ (Value.int .i64 ((d.waits[k].1 : Nat) : Int) :: cellsV d.waits[k].2).toArray.toList, v.oneCell' = true := by
        intro v hv
        simp only [List.mem_cons] at hv
        rcases hv with rfl | hv
        · rfl
        · exact oneCell_cellsV _ _ hv
      have z1 : (Value.int .i64 ((d.waits[k].1 : Nat) : Int) :: cellsV d.waits[k].2).toArray.size = (Value.agg (Value.int .i64 0 :: cellsV zeroSec).toArray).cells.size := by
        simp [Value.cells, hp, zeroSec]
      have z2 : Option.map (fun x => x.size) (Try.prog.info? 128) = some (Value.agg (Value.int .i64 0 :: cellsV zeroSec).toArray).cells.size := by
        simp only [Value.cells]; exact s_write
      by_cases hks : ks = []
      · have hks0 : ¬ (0 : Int) < (ks.length : Int) := by simp [hks]
        have hks1 := Lib.hid hks
        clear hks
        go_wp2_with (first
          | (refine wpList_load_mid rfl 128 _ rfl g (k * 65) rfl _ _ hr u_write rfl i1 ?_)
          | (refine wpList_alloc_z rfl rfl (z_write _) ?_)
          | (refine wpList_store_obj (h3.alloc _) rfl rfl rfl rfl z1 z2 o1 ?_; intro w2 h4))
        go_roundw
        case rel =>
          refine ⟨k + 1, hlt, by go_num, ls', ?_, h4.right⟩
          rw [List.take_succ_eq_append_getElem hlt, kept_append]
          simp only [keeps, hks1.out]
          simpa [hks1.out] using hs'
        case measure => simp [intOf]; omega
      · have hpos : 0 < ks.length := List.length_pos_iff.2 hks
        have hks0 : (0 : Int) < (ks.length : Int) := by omega
        obtain ⟨kb, ko, rfl, _⟩ := (hk _ h.right).at hks
        have hks1 := Lib.hid hks
        clear hks
        have hm0 : (0 : Int) ≤ (k : Int) % (ks.length : Int) := Int.emod_nonneg _ (by omega)
        have hm1 : (k : Int) % (ks.length : Int) < (ks.length : Int) := Int.emod_lt_of_pos _ (by omega)
        have hkm : k % ks.length < ks.length := Nat.mod_lt _ hpos
        have hin : ks.getD (k % ks.length) 0 ∈ ks := by rw [List.getD_eq_getElem?_getD, List.getElem?_eq_getElem hkm]; exact List.getElem_mem hkm
        have hx0 := (hb _ hin).1
        have hx1 := (hb _ hin).2
        have hko := fun w2 (h4 : Bears w2 R) => (hk w2 h4).cell hkm
        clear hin hkm hb hk
        generalize hx : ks.getD (k % ks.length) 0 = x at hx0 hx1 hko
        have Hx := Lib.hid hx
        clear hx
        go_wp2_with (first
          | (refine wpList_load_mid rfl 128 _ rfl g (k * 65) rfl _ _ hr u_write rfl i1 ?_)
          | (refine wpList_alloc_z rfl rfl (z_write _) ?_)
          | (refine wpList_store_obj (h3.alloc _) rfl rfl rfl rfl z1 z2 o1 ?_; intro w2 h4; have hkc := hko _ h4.right.right.right.right.right))
        · have hodd : (x.tmod 2 != 0) = true := by assumption
          have hkeep : keeps ks k = true := by
            unfold keeps
            rw [Hx.out, ← tmod_two, hodd]
            simpa using hks1.out
          have Hk := Lib.hid hkeep
          clear hkeep hodd hkc hko
          obtain ⟨hc, _⟩ := disk_cells h4.pull2
          have c1 := hc 1
          simp at c1
          have c5 := cell_of_obj h4.obj 0
          simp at c5
          have hr5 : w2.drew.rangeAt wr.heap.size 1 (cellsV d.waits[k].2) := rangeAt_tail (o := 0) (rangeAt_of_obj h4.obj)
          clear hc
          refine wp_region_tail 8 (by kernel_rfl) (by kernel_rfl) ?_
          simp only [List.take_succ_cons, List.take_zero, List.drop_succ_cons, List.drop_zero]
          iterate 7 still_step
          refine wpStill_load_mid _ _ rfl rfl wr.heap.size 1 rfl (cellsV d.waits[k].2) _ hr5 u_sector rfl (by rw [length_cellsV, hp]; exact i_sector) ?_
          refine wpStill_nil ?_
          refine wpList_mapUpdate_bears (val := secV d.waits[k].2) h4.drew.pull4 rfl rfl u_secmap u_int rfl rfl rfl ?_
          intro w3 h5
          clear c1 c5 hr5 h4 h3 hr
          go_wp2
          go_roundw
          case rel =>
            refine ⟨k + 1, hlt, by go_num, _, ?_, h5.pull2.right.pull3.pull3.cast (by ac_rfl)⟩
            rw [List.take_succ_eq_append_getElem hlt, kept_append, Nat.zero_add, List.length_take, Nat.min_eq_left hk', Hk.out, if_pos rfl, settle_append]
            exact hs'.put _ _
          case measure => simp [intOf]; omega
        · have hodd : (x.tmod 2 != 0) = false := by assumption
          have hkeep : keeps ks k = false := by
            unfold keeps
            rw [Hx.out, ← tmod_two, hodd]
            simp
          go_roundw
          case rel =>
            refine ⟨k + 1, hlt, by go_num, ls', ?_, h4.right⟩
            rw [List.take_succ_eq_append_getElem hlt, kept_append, Nat.zero_add, List.length_take, Nat.min_eq_left hk', hkeep]
            simpa using hs'
          case measure => simp [intOf]; omega
    · obtain rfl : k = d.waits.length := by omega
      rw [List.take_length] at hs'
      obtain ⟨hc, hf⟩ := disk_cells h3
      have c1' := hc 1
      simp at c1'
      clear hc hf c3 h2
      go_wp2_with fail
      refine (mclone_any h3.pull3).mono ?_
      rintro e w4 ⟨b', rfl, h4⟩
      obtain ⟨hc, hf⟩ := disk_cells h4.pull3
      have c2' := hc 2
      have f2 := hf 2
      have c3' := hc 3
      have f3 := hf 3
      have c4' := hc 4
      have f4 := hf 4
      have c5' := hc 5
      have f5 := hf 5
      simp at c2' c3' c4' c5'
      clear hc hf c1'
      go_wp2
      go_end0
      have h5 := (((h4.pull3.setCell (i := 2) (.map (some b'))).setCell (i := 3) (.slice none 0 0)).setCell (i := 4) (.bool false)).setCell (i := 5) (.int .i64 (-1))
      have h6 := (h5.pull4.right).pull4.right
      refine ⟨rfl, Bears.disk.2 ⟨ms, b', .slice none 0 0, ls', ls', ⟨hwf.len, fun i => ?_, by simp [DiskM.boot], by simp [DiskM.boot], hwf.steps⟩, hs', ?_, ?_⟩⟩
      · exact settle_length hwf.sure (fun q hq => (hwf.waits q (kept_sub ks _ _ q hq)).2) i
      · exact hs'
      · exact (Bears.pull2 ((Bears.nilRow (e := 128) (size := 65)).2 h6)).cast (by simp [diskObj, waitCells, DiskM.boot]; ac_rfl)

end Go.Proofs.Ytaiobekochhemaa
