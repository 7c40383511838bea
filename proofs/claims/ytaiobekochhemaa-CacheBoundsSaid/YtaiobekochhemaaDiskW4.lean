/- Walks of the disk's functions, part 4: Read, New, small ones; no condition. -/
import Derived.Test.YtaiobekochhemaaDiskW3
namespace Go.Proofs.Ytaiobekochhemaa
open Go.RowKit Go.MapKept

theorem z_sector (w : World) : (zeroValue 125).run Try.prog w = .ok (secV zeroSec) w := by kernel_rfl

theorem check_range {d : DiskM} {i : Int} (h : d.check i = 0) : d.off = false ∧ 0 ≤ i ∧ i < d.len := by
  unfold DiskM.check at h
  split at h
  · simp at h
  · split at h
    · simp at h
    · rename_i h1 h2
      exact ⟨by simpa using h1, by omega, by omega⟩

theorem DiskM.WF.now {d : DiskM} (h : d.WF) (i : Nat) : (d.now i).length = 64 := settle_length h.sure (fun q hq => (h.waits q hq).2) i

set_option maxHeartbeats 400000 in
theorem read_ok {p : Nat} {d : DiskM} {R : Assn} {w : World} (h : Bears w (diskA p d * R)) (i : Nat) (hck : d.check (i : Int) = 0) :
    Calls Try.prog 46 #[.pointer (some ⟨p, 0, none⟩), .int .i64 i] w fun e w' => ∃ g, e = .returned (.tuple #[.slice (some ⟨g, 0, none⟩) 64 64, .int .i64 0]) ∧
      Bears w' (Assn.obj g (.cells (cellsV (d.now i)).toArray 125 (0, 0)) * (diskA p d * R)) := by
  obtain ⟨ms, mn, wv, ls, ln, hwf, hs, hn, h0⟩ := Bears.disk.1 h
  obtain ⟨hc, hf⟩ := disk_cells h0
  have c2 := hc 2
  simp at c2
  clear hc hf
  have hl := hwf.now i
  have z1 : (cellsV (d.now i)).toArray.size = (secV zeroSec).cells.size := by simp [Value.cells, secV, hl, zeroSec]
  have z2 : Option.map (fun x => x.size) (Try.prog.info? 125) = some (secV zeroSec).cells.size := i_sector
  have hck' := Lib.hid hck
  have hn' := Lib.hid (hn i)
  clear hck hl
  go_enter Try.func46, Try.ntmps46
  go_wp2_with fail
  refine (check_any h _).mono ?_
  rintro e w' ⟨rfl, rfl⟩
  rw [hck'.out]
  go_wp2_with (first
    | (at_lookup; refine wpList_lookup_bears h0.pull4 rfl rfl u_secmap u_int (z_sector _) rfl rfl ?_; rw [hn'.out])
    | (refine wpList_alloc_z rfl rfl (z_sector _) ?_)
    | (refine wpList_store_obj (cs := (cellsV (d.now i)).toArray) (h.alloc _) rfl rfl rfl rfl z1 z2 (by simpa using oneCell_cellsV (d.now i)) ?_; intro w2 h4))
  go_ret2
  exact ⟨_, rfl, h4⟩

set_option maxHeartbeats 400000 in
theorem read_no {p : Nat} {d : DiskM} {R : Assn} {w : World} (h : Bears w (diskA p d * R)) (i : Int) (hck : d.check i ≠ 0) :
    Calls Try.prog 46 #[.pointer (some ⟨p, 0, none⟩), .int .i64 i] w fun e w' => e = .returned (.tuple #[.slice none 0 0, .int .i64 (d.check i)]) ∧ w = w' := by
  have hck' : (d.check i != 0) = true := by simpa using hck
  clear hck
  go_enter Try.func46, Try.ntmps46
  go_wp2_with fail
  refine (check_any h _).mono ?_
  rintro e w' ⟨rfl, rfl⟩
  go_wp2
  go_ret2
  exact ⟨rfl, rfl⟩

set_option maxHeartbeats 400000 in
theorem len_any {p : Nat} {d : DiskM} {R : Assn} {w : World} (h : Bears w (diskA p d * R)) :
    Calls Try.prog 60 #[.pointer (some ⟨p, 0, none⟩)] w fun e w' => e = .returned (.int .i64 d.len) ∧ w = w' := by
  obtain ⟨ms, mn, wv, ls, ln, hwf, hs, hn, h0⟩ := Bears.disk.1 h
  have c0 := (disk_cells h0).1 0
  simp at c0
  go_enter Try.func60, Try.ntmps60
  go_wp2
  go_ret
  exact ⟨rfl, rfl⟩

set_option maxHeartbeats 400000 in
theorem steps_any {p : Nat} {d : DiskM} {R : Assn} {w : World} (h : Bears w (diskA p d * R)) :
    Calls Try.prog 40 #[.pointer (some ⟨p, 0, none⟩)] w fun e w' => e = .returned (.int .i64 d.steps) ∧ w = w' := by
  obtain ⟨ms, mn, wv, ls, ln, hwf, hs, hn, h0⟩ := Bears.disk.1 h
  have c6 := (disk_cells h0).1 6
  simp at c6
  go_enter Try.func40, Try.ntmps40
  go_wp2
  go_ret
  exact ⟨rfl, rfl⟩

set_option maxHeartbeats 400000 in
theorem fuse_any {p : Nat} {d : DiskM} {R : Assn} {w : World} (h : Bears w (diskA p d * R)) (n : Int) (hn0 : n < 9223372036854775808) :
    Calls Try.prog 44 #[.pointer (some ⟨p, 0, none⟩), .int .i64 n] w fun e w' => e = .returned (.tuple #[]) ∧ Bears w' (diskA p (d.setFuse n) * R) := by
  obtain ⟨ms, mn, wv, ls, ln, hwf, hs, hn, h0⟩ := Bears.disk.1 h
  have c4 := (disk_cells h0).1 4
  have c5 := (disk_cells h0).1 5
  have f5 := (disk_cells h0).2 5
  simp at c4 c5
  by_cases ho : d.off = true
  · have hfin : d.setFuse n = d := by simp [DiskM.setFuse, ho]
    rw [hfin]
    clear hfin
    go_enter Try.func44, Try.ntmps44
    go_wp2
    go_end0
    exact ⟨rfl, h⟩
  · have ho : d.off = false := by simpa using ho
    have hfin : d.setFuse n = { d with fuse := max n (-1) } := by simp [DiskM.setFuse, ho]
    rw [hfin]
    have Hn := Lib.hid hn0
    clear hfin hn0
    go_enter Try.func44, Try.ntmps44
    go_wp2
    all_goals
      go_end0
      have := Hn.out
      refine ⟨rfl, Bears.disk.2 ⟨ms, mn, wv, ls, ln, ⟨hwf.len, hwf.sure, hwf.waits, ⟨by simp only; omega, by simp only; omega⟩, hwf.steps⟩, hs, hn, ?_⟩⟩
      first
        | (have hm : max n (-1) = n := by omega
           rw [hm]; exact (h0.setCell (i := 5) _).cast (by simp [diskObj, ho]))
        | (have hm : max n (-1) = -1 := by omega
           rw [hm]; exact (h0.setCell (i := 5) _).cast (by simp [diskObj, ho]))

set_option maxHeartbeats 400000 in
theorem new_ok {R : Assn} {w : World} (h : Bears w R) (n : Nat) (h1 : 1 ≤ n) (h2 : n ≤ 8192) :
    Calls Try.prog 13 #[.int .i64 n] w fun e w' => ∃ p, e = .returned (.tuple #[.pointer (some ⟨p, 0, none⟩), .int .i64 0]) ∧ Bears w' (diskA p (DiskM.new n) * R) := by
  have hmm := @run_makeMap Try.prog
  go_enter Try.func13, Try.ntmps13
  go_wp2
  go_ret2
  refine ⟨w.heap.size + 1 + 1, rfl, Bears.disk.2 ⟨w.heap.size, w.heap.size + 1, .slice none 0 0, [], [], ⟨h2, fun _ => rfl, by simp [DiskM.new], by simp [DiskM.new], by simp [DiskM.new]⟩, SecMap.nil, SecMap.nil, ?_⟩⟩
  have h3 := (h.alloc (.map #[] 0)).toMapA (l := []) ⟨rfl, stamped_empty 0⟩
  have h4 := (h3.alloc (.map #[] 0)).toMapA (l := []) ⟨rfl, stamped_empty 0⟩
  have h5 := h4.alloc (.cells #[.int .i64 (n : Int), .map (some w.heap.size), .map (some (w.heap.size + 1)), .slice none 0 0, .bool false, .int .i64 (-1), .int .i64 0] 92)
  have h6 := Bears.pull2 ((Bears.nilRow (e := 128) (size := 65)).2 h5)
  exact h6.cast (by simp [diskObj, waitCells, DiskM.new]; ac_rfl)

theorem new_no (w : World) (n : Int) (h1 : n < 1 ∨ 8192 < n) :
    Calls Try.prog 13 #[.int .i64 n] w fun e w' => e = .returned (.tuple #[.pointer none, .int .i64 1]) ∧ w = w' := by
  rcases h1 with h1 | h1
  · go_enter Try.func13, Try.ntmps13
    go_wp2
    go_ret2
    exact ⟨rfl, rfl⟩
  · have h2 : ¬ n < 1 := by omega
    go_enter Try.func13, Try.ntmps13
    go_wp2
    go_ret2
    exact ⟨rfl, rfl⟩

end Go.Proofs.Ytaiobekochhemaa
