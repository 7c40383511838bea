/- Walks of the disk's functions, part 3: Barrier; no condition. -/
import Derived.Test.YtaiobekochhemaaDiskW2
namespace Go.Proofs.Ytaiobekochhemaa
open Go.RowKit Go.MapKept

theorem waitCells_at (l : List (Nat × Sec)) (h : ∀ p ∈ l, p.2.length = 64) : ∀ (k : Nat) (hk : k < l.length), ((waitCells l).drop (k * 65)).take 65 = .int .i64 ((l[k].1 : Nat) : Int) :: cellsV l[k].2 := by
  induction l with
  | nil => intro k hk; simp at hk
  | cons p l ih =>
    intro k hk
    have hp := h p (by simp)
    have e : waitCells (p :: l) = (.int .i64 (p.1 : Int) :: cellsV p.2) ++ waitCells l := rfl
    rw [e]
    cases k with
    | zero =>
      rw [Nat.zero_mul, List.drop_zero, List.take_left' (by simp [hp])]
      rfl
    | succ k =>
      have e2 : (.int .i64 (p.1 : Int) :: cellsV p.2 : List Value).length = 65 := by simp [hp]
      rw [show (k + 1) * 65 = (.int .i64 (p.1 : Int) :: cellsV p.2 : List Value).length + k * 65 by omega, List.drop_append, List.drop_of_length_le (Nat.le_add_right _ _), Nat.add_sub_cancel_left, List.nil_append]
      exact ih (fun q hq => h q (by simp [hq])) k (by simpa using hk)

set_option maxRecDepth 100000 in
set_option maxHeartbeats 400000 in
theorem barrier_yes {p : Nat} {d : DiskM} {R : Assn} {w : World} (h : Bears w (diskA p d * R)) (ho : d.off = false) (hst : d.step.1 = 0) (hroom : d.waits.length < 1099511627776) :
    Calls Try.prog 64 #[.pointer (some ⟨p, 0, none⟩)] w fun e w' => e = .returned (.int .i64 0) ∧ Bears w' (diskA p { d.step.2 with sure := d.now, waits := [] } * R) := by
  obtain ⟨ms, mn, wv, ls, ln, hwf, hs, hn, h0⟩ := Bears.disk.1 h
  obtain ⟨hc, hf⟩ := disk_cells h0
  have c4 := hc 4
  simp [ho] at c4
  clear hc hf
  have Hst := Lib.hid hst
  clear hst
  go_enter Try.func64, Try.ntmps64
  go_wp2_with fail
  refine (step_any h).mono ?_
  rintro e w1 ⟨rfl, h1⟩
  rw [Hst.out]
  clear c4 hs hn h0 h hwf
  have hroom2 : d.step.2.waits.length < 1099511627776 := by rw [step_waits]; exact hroom
  have hnow : d.step.2.now = d.now := by unfold DiskM.now; rw [step_waits, step_sure]
  have Hnow := Lib.hid hnow
  clear hnow
  obtain ⟨ms, mn, wv, ls, ln, hwf, hs, hn, h2⟩ := Bears.disk.1 h1
  obtain ⟨hc, hf⟩ := disk_cells h2
  have c3 := hc 3
  simp at c3
  clear hc hf
  obtain ⟨a, c, rfl, hnc, hcm, hrow⟩ := h2.pull2.rowForm
  go_wp2_with fail
  go_loopw [20] (fun i wr => ∃ k : Nat, k ≤ d.step.2.waits.length ∧ i = .int .i64 k ∧ ∃ ls', SecMap ls' (settle d.step.2.sure (d.step.2.waits.take k)) ∧
      Bears wr (diskObj p d.step.2 ms mn (.slice a d.step.2.waits.length c) * (rowA 128 65 (.slice a d.step.2.waits.length c) d.step.2.waits.length (waitCells d.step.2.waits) * (mapA ms ls' * (mapA mn ln * R)))))
    (fun i _ => d.step.2.waits.length - (intOf i).toNat)
  case atStart => exact ⟨0, Nat.zero_le _, rfl, ls, hs, h2⟩
  case round =>
    obtain ⟨k, hk, rfl, ls', hs', h3⟩ := hrel
    by_cases hlt : k < d.step.2.waits.length
    · obtain ⟨g, rfl, hr⟩ := h3.pull2.rowAt hlt
      rw [waitCells_at _ (fun q hq => (hwf.waits q hq).2) k hlt] at hr
      have hp := (hwf.waits _ (List.getElem_mem hlt)).2
      have i1 : Option.map (fun x => x.size) (Try.prog.info? 128) = some (Value.int .i64 ((d.step.2.waits[k].1 : Nat) : Int) :: cellsV d.step.2.waits[k].2).length := by
        rw [List.length_cons, length_cellsV, hp]; exact s_write
      have o1 : ∀ v ∈ (Value.int .i64 ((d.step.2.waits[k].1 : Nat) : Int) :: cellsV d.step.2.waits[k].2).toArray.toList, v.oneCell' = true := by
        intro v hv
        simp only [List.mem_cons] at hv
        rcases hv with rfl | hv
        · rfl
        · exact oneCell_cellsV _ _ hv
      have z1 : (Value.int .i64 ((d.step.2.waits[k].1 : Nat) : Int) :: cellsV d.step.2.waits[k].2).toArray.size = (Value.agg (Value.int .i64 0 :: cellsV zeroSec).toArray).cells.size := by
        simp [Value.cells, hp, zeroSec]
      have z2 : Option.map (fun x => x.size) (Try.prog.info? 128) = some (Value.agg (Value.int .i64 0 :: cellsV zeroSec).toArray).cells.size := by
        simp only [Value.cells]; exact s_write
      go_wp2_with (first
        | (refine wpList_load_mid rfl 128 _ rfl g (k * 65) rfl _ _ hr u_write rfl i1 ?_)
        | (refine wpList_alloc_z rfl rfl (z_write _) ?_)
        | (refine wpList_store_obj (h3.alloc _) rfl rfl rfl rfl z1 z2 o1 ?_; intro w2 h4))
      obtain ⟨hc, _⟩ := disk_cells h4.pull2
      have c1 := hc 1
      simp at c1
      have c5 := cell_of_obj h4.obj 0
      simp at c5
      have hr5 : w2.drew.rangeAt wr.heap.size 1 (cellsV d.step.2.waits[k].2) := rangeAt_tail (o := 0) (rangeAt_of_obj h4.obj)
      clear hc
      refine wp_region_tail 8 (by kernel_rfl) (by kernel_rfl) ?_
      simp only [List.take_succ_cons, List.take_zero, List.drop_succ_cons, List.drop_zero]
      iterate 7 still_step
      refine wpStill_load_mid _ _ rfl rfl wr.heap.size 1 rfl (cellsV d.step.2.waits[k].2) _ hr5 u_sector rfl (by rw [length_cellsV, hp]; exact i_sector) ?_
      refine wpStill_nil ?_
      refine wpList_mapUpdate_bears (val := secV d.step.2.waits[k].2) h4.drew.pull4 rfl rfl u_secmap u_int rfl rfl rfl ?_
      intro w3 h5
      clear c1 c5 hr5 h4 h3 hr
      go_wp2
      go_roundw
      case rel =>
        refine ⟨k + 1, hlt, by go_num, _, ?_, h5.pull2.right.pull3.pull3.cast (by ac_rfl)⟩
        rw [List.take_succ_eq_append_getElem hlt, settle_append]
        exact hs'.put _ _
      case measure => simp [intOf]; omega
    · obtain rfl : k = d.step.2.waits.length := by omega
      obtain ⟨hc, hf⟩ := disk_cells h3
      have c3' := hc 3
      have f3' := hf 3
      simp at c3'
      clear hc hf c3 h2
      go_wp2
      go_ret
      rw [List.take_length] at hs'
      have h4 := (h3.setCell (i := 3) (.slice none 0 0)).pull2.right
      have hx : settle d.step.2.sure d.step.2.waits = d.now := Hnow.out
      rw [hx] at hs'
      refine ⟨rfl, Bears.disk.2 ⟨ms, mn, .slice none 0 0, ls', ln, ⟨hwf.len, fun i => ?_, by simp, hwf.fuse, hwf.steps⟩, hs', ?_, ?_⟩⟩
      · show (d.now i).length = 64
        rw [← hx]
        exact settle_length hwf.sure (fun q hq => (hwf.waits q hq).2) i
      · show SecMap ln d.now
        rw [← hx]
        exact hn
      · exact (Bears.pull2 ((Bears.nilRow (e := 128) (size := 65)).2 h4)).cast (by simp [diskObj, waitCells])

theorem step_zero (d : DiskM) (h : d.step.1 = 0) : d.step.2.off = d.off := by
  unfold DiskM.step at h ⊢
  by_cases h0 : d.fuse = 0
  · simp [h0] at h
  · simp [h0]

set_option maxHeartbeats 400000 in
theorem barrier_any {p : Nat} {d : DiskM} {R : Assn} {w : World} (h : Bears w (diskA p d * R)) (hroom : d.waits.length < 1099511627776) :
    Calls Try.prog 64 #[.pointer (some ⟨p, 0, none⟩)] w fun e w' => e = .returned (.int .i64 d.barrier.1) ∧ Bears w' (diskA p d.barrier.2 * R) := by
  by_cases ho : d.off = true
  · obtain ⟨ms, mn, wv, ls, ln, hwf, hs, hn, h0⟩ := Bears.disk.1 h
    obtain ⟨hc, hf⟩ := disk_cells h0
    have c4 := hc 4
    simp [ho] at c4
    clear hc hf
    have hfin : d.barrier = (2, d) := by simp [DiskM.barrier, ho]
    rw [hfin]
    have Ho := Lib.hid ho
    clear ho hfin
    go_enter Try.func64, Try.ntmps64
    go_wp2
    go_ret
    exact ⟨rfl, h⟩
  · have ho : d.off = false := by simpa using ho
    by_cases hst : d.step.1 = 0
    · have hfin : d.barrier = (0, { d.step.2 with sure := d.now, waits := [] }) := by simp [DiskM.barrier, ho, hst]
      rw [hfin]
      exact barrier_yes h ho hst hroom
    · have hfin : d.barrier = d.step := by simp [DiskM.barrier, ho, hst]
      rw [hfin]
      have hst' : (d.step.1 != 0) = true := by simpa using hst
      obtain ⟨ms, mn, wv, ls, ln, hwf, hs, hn, h0⟩ := Bears.disk.1 h
      obtain ⟨hc, hf⟩ := disk_cells h0
      have c4 := hc 4
      simp [ho] at c4
      clear hc hf hfin hst hs hn h0 hwf
      go_enter Try.func64, Try.ntmps64
      go_wp2_with fail
      refine (step_any h).mono ?_
      rintro e w1 ⟨rfl, h1⟩
      go_wp2
      go_ret
      exact ⟨rfl, h1⟩

set_option maxHeartbeats 400000 in
theorem write_any {p : Nat} {d : DiskM} {R : Assn} {w : World} (h : Bears w (diskA p d * R)) (i : Int) (l : List UInt8) (ad : Option Addr) (cap : Nat)
    (hb : R.Tells (fun w => BytesIn w (.slice ad l.length cap) l)) (hroom : d.waits.length < 1099511627776) :
    Calls Try.prog 63 #[.pointer (some ⟨p, 0, none⟩), .int .i64 i, .slice ad l.length cap] w fun e w' => e = .returned (.int .i64 (d.write i l).1) ∧ Bears w' (diskA p (d.write i l).2 * R) := by
  by_cases hck : d.check i = 0
  · by_cases hl : l.length = 64
    · by_cases hst : d.step.1 = 0
      · have h0 : 0 ≤ i ∧ i < d.len := by
          unfold DiskM.check at hck
          split at hck
          · simp at hck
          · split at hck
            · simp at hck
            · omega
        obtain ⟨n, rfl⟩ := Int.eq_ofNat_of_zero_le h0.1
        have hfin : d.write (n : Int) l = (0, { d.step.2 with waits := d.step.2.waits ++ [(n, l)] }) := by
          simp only [DiskM.write, hck, hl, hst, step_waits]
          simp
        rw [hfin]
        exact write_tail h n l ad cap (by omega) hl hb hck hst (by rw [step_waits]; exact hroom) (step_len d)
      · have hfin : d.write i l = d.step := by simp [DiskM.write, hck, hl, hst]
        rw [hfin]
        have hst' : (d.step.1 != 0) = true := by simpa using hst
        have hlen : ((l.length : Int) != 64) = false := by rw [hl]; rfl
        have hck' := Lib.hid hck
        clear hfin hst hl hb hck
        go_enter Try.func63, Try.ntmps63
        go_wp2_with fail
        refine (check_any h _).mono ?_
        rintro e w' ⟨rfl, rfl⟩
        rw [hck'.out]
        go_wp2_with fail
        refine (step_any h).mono ?_
        rintro e w1 ⟨rfl, h1⟩
        go_wp2
        go_ret
        exact ⟨rfl, h1⟩
    · have hfin : d.write i l = (11, d) := by simp [DiskM.write, hck, hl]
      rw [hfin]
      have hlen : ((l.length : Int) != 64) = true := by rw [bne_iff_ne]; omega
      have hck' := Lib.hid hck
      clear hfin hl hb hck
      go_enter Try.func63, Try.ntmps63
      go_wp2_with fail
      refine (check_any h _).mono ?_
      rintro e w' ⟨rfl, rfl⟩
      rw [hck'.out]
      go_wp2
      go_ret
      exact ⟨rfl, h⟩
  · have hfin : d.write i l = (d.check i, d) := by simp [DiskM.write, hck]
    rw [hfin]
    have hck' : (d.check i != 0) = true := by simpa using hck
    clear hfin hb hck
    go_enter Try.func63, Try.ntmps63
    go_wp2_with fail
    refine (check_any h _).mono ?_
    rintro e w' ⟨rfl, rfl⟩
    go_wp2
    go_ret
    exact ⟨rfl, h⟩

end Go.Proofs.Ytaiobekochhemaa
